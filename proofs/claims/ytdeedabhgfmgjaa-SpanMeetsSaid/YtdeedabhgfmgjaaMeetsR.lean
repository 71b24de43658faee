/-
  The walk of the law copselaw4.SpanMeets.
-/
import Derived.Test.YtdeedabhgfmgjaaSpanLaw
set_option linter.unusedVariables false
set_option linter.unusedSimpArgs false
namespace Go.Proofs.Ytdeedabhgfmgjaa.WkSpanMeets
open Go Go.RowKit Go.Proofs.Ytdeedabhgfmgjaa.Span Go.Proofs.YtdeedabhgfmgjaaW.PrintWords Go.Proofs.YtdeedabhgfmgjaaW.PrintLast
theorem rmeet_is {a0 a1 b0 b1 m0 m1 : Int} (h : meetS (a0, a1) (b0, b1) = (m0, m1)) (w : World) : Calls Try.prog 26 #[sp a0 a1, sp b0 b1] w fun e w' => e = .returned (sp m0 m1) ∧ Below w.heap.size w w' := by
  obtain ⟨x, hx⟩ : ∃ x, (if a0 < b0 then b0 else a0) = x := ⟨_, rfl⟩
  obtain ⟨y, hy⟩ : ∃ y, (if b1 < a1 then b1 else a1) = y := ⟨_, rfl⟩
  unfold meetS at h
  simp only [hx, hy] at h
  unfold ofS at h
  by_cases hc : y < x
  · rw [if_pos hc] at h
    simp only [Prod.mk.injEq] at h
    obtain ⟨rfl, rfl⟩ := h
    have hd : decide (y < x) = true := decide_eq_true hc
    clear hc
    go_enter Try.func26, Try.ntmps26
    have M := Mem.start w
    refine wp_seq_k (fun K1 hK1 => ?_)
    refine wp_region_lit ?_
    refine ev_boxv M (N := 2) rfl rfl 23 _ rfl [_, _] rfl ?_
    intro g0 w1 M1
    clear M
    have M := M1
    clear M1
    refine ev_norm (a' := ?_) ?_ ?_
    rotate_left
    · simp only [Act.put, List.setIfInBounds_toArray, List.set_cons_zero, List.set_cons_succ, i64_w, i32_w]
      rfl
    refine ev_boxv M (N := 3) rfl rfl 23 _ rfl [_, _] rfl ?_
    intro g1 w2 M1
    clear M
    have M := M1
    clear M1
    refine ev_norm (a' := ?_) ?_ ?_
    rotate_left
    · simp only [Act.put, List.setIfInBounds_toArray, List.set_cons_zero, List.set_cons_succ, i64_w, i32_w]
      rfl
    refine ev_alloc M (N := 4) rfl rfl 23 rfl (.agg #[.int .i64 0, .int .i64 0]) (by kernel_rfl) [.int .i64 0, .int .i64 0] rfl ?_
    intro g2 w3 M1
    clear M
    have M := M1
    clear M1
    refine ev_norm (a' := ?_) ?_ ?_
    rotate_left
    · simp only [Act.put, List.setIfInBounds_toArray, List.set_cons_zero, List.set_cons_succ, i64_w, i32_w]
      rfl
    refine wpList_nil ?_
    refine hK1 _ _ ?_
    clear hK1
    try clear K1
    refine wp_seq_k (fun K2 hK2 => ?_)
    refine wp_region_lit ?_
    refine ev_pure 6 (v := ?_) (a' := ?_) rfl rfl ?_ ?_ ?_
    rotate_left 2
    · intro w'
      go_simp
      with_reducible rfl
    · simp only [Act.put, List.setIfInBounds_toArray, List.set_cons_zero, List.set_cons_succ, i64_w, i32_w]
      rfl
    refine ev_load1 M 2 rfl (N := 7) rfl rfl 3 (.tmp 6) rfl 0 rfl _ (by kernel_rfl) rfl ?_
    refine ev_norm (a' := ?_) ?_ ?_
    rotate_left
    · simp only [Act.put, List.setIfInBounds_toArray, List.set_cons_zero, List.set_cons_succ, i64_w, i32_w]
      rfl
    refine ev_pure 8 (v := ?_) (a' := ?_) rfl rfl ?_ ?_ ?_
    rotate_left 2
    · intro w'
      go_simp
      with_reducible rfl
    · simp only [Act.put, List.setIfInBounds_toArray, List.set_cons_zero, List.set_cons_succ, i64_w, i32_w]
      rfl
    refine ev_load1 M 1 rfl (N := 9) rfl rfl 3 (.tmp 8) rfl 0 rfl _ (by kernel_rfl) rfl ?_
    refine ev_norm (a' := ?_) ?_ ?_
    rotate_left
    · simp only [Act.put, List.setIfInBounds_toArray, List.set_cons_zero, List.set_cons_succ, i64_w, i32_w]
      rfl
    refine ev_pure 10 (v := ?_) (a' := ?_) rfl rfl ?_ ?_ ?_
    rotate_left 2
    · intro w'
      go_simp
      with_reducible rfl
    · simp only [Act.put, List.setIfInBounds_toArray, List.set_cons_zero, List.set_cons_succ, i64_w, i32_w]
      rfl
    refine ev_pure 11 (v := ?_) (a' := ?_) rfl rfl ?_ ?_ ?_
    rotate_left 2
    · intro w'
      go_simp
      with_reducible rfl
    · simp only [Act.put, List.setIfInBounds_toArray, List.set_cons_zero, List.set_cons_succ, i64_w, i32_w]
      rfl
    refine ev_load1 M 2 rfl (N := 12) rfl rfl 3 (.tmp 11) rfl 1 rfl _ (by kernel_rfl) rfl ?_
    refine ev_norm (a' := ?_) ?_ ?_
    rotate_left
    · simp only [Act.put, List.setIfInBounds_toArray, List.set_cons_zero, List.set_cons_succ, i64_w, i32_w]
      rfl
    refine ev_pure 13 (v := ?_) (a' := ?_) rfl rfl ?_ ?_ ?_
    rotate_left 2
    · intro w'
      go_simp
      with_reducible rfl
    · simp only [Act.put, List.setIfInBounds_toArray, List.set_cons_zero, List.set_cons_succ, i64_w, i32_w]
      rfl
    refine ev_load1 M 1 rfl (N := 14) rfl rfl 3 (.tmp 13) rfl 1 rfl _ (by kernel_rfl) rfl ?_
    refine ev_norm (a' := ?_) ?_ ?_
    rotate_left
    · simp only [Act.put, List.setIfInBounds_toArray, List.set_cons_zero, List.set_cons_succ, i64_w, i32_w]
      rfl
    refine ev_pure 15 (v := ?_) (a' := ?_) rfl rfl ?_ ?_ ?_
    rotate_left 2
    · intro w'
      go_simp
      with_reducible rfl
    · simp only [Act.put, List.setIfInBounds_toArray, List.set_cons_zero, List.set_cons_succ, i64_w, i32_w]
      rfl
    refine ev_pure 16 (v := ?_) (a' := ?_) rfl rfl ?_ ?_ ?_
    rotate_left 2
    · intro w'
      go_simp
      with_reducible rfl
    · simp only [Act.put, List.setIfInBounds_toArray, List.set_cons_zero, List.set_cons_succ, i64_w, i32_w]
      rfl
    refine ev_alloc M (N := 5) rfl rfl 23 rfl (.agg #[.int .i64 0, .int .i64 0]) (by kernel_rfl) [.int .i64 0, .int .i64 0] rfl ?_
    intro g3 w4 M1
    clear M
    have M := M1
    clear M1
    refine ev_norm (a' := ?_) ?_ ?_
    rotate_left
    · simp only [Act.put, List.setIfInBounds_toArray, List.set_cons_zero, List.set_cons_succ, i64_w, i32_w]
      rfl
    refine ev_store M 0 rfl rfl rfl 23 (.tmp 5) _ rfl 0 rfl [_, _] rfl (by kernel_rfl) rfl (Nat.le_of_ble_eq_true rfl) [_, _] rfl [_, _, _, _] rfl ?_
    intro w5 M1
    clear M
    have M := M1
    clear M1
    refine wpList_nil ?_
    refine hK2 _ _ ?_
    clear hK2
    try clear K2
    refine wp_seq_k (fun K3 hK3 => ?_)
    refine wp_seq_k (fun K4 hK4 => ?_)
    refine wp_region_lit ?_
    refine ev_pure 17 (v := ?_) (a' := ?_) rfl rfl ?_ ?_ ?_
    rotate_left 2
    · intro w'
      go_simp
      with_reducible rfl
    · simp only [Act.put, List.setIfInBounds_toArray, List.set_cons_zero, List.set_cons_succ, i64_w, i32_w]
      rfl
    refine ev_load1 M 0 rfl (N := 18) rfl rfl 3 (.tmp 17) rfl 0 rfl _ (by kernel_rfl) rfl ?_
    refine ev_norm (a' := ?_) ?_ ?_
    rotate_left
    · simp only [Act.put, List.setIfInBounds_toArray, List.set_cons_zero, List.set_cons_succ, i64_w, i32_w]
      rfl
    refine ev_pure 19 (v := ?_) (a' := ?_) rfl rfl ?_ ?_ ?_
    rotate_left 2
    · intro w'
      go_simp
      with_reducible rfl
    · simp only [Act.put, List.setIfInBounds_toArray, List.set_cons_zero, List.set_cons_succ, i64_w, i32_w]
      rfl
    refine ev_load1 M 0 rfl (N := 20) rfl rfl 3 (.tmp 19) rfl 1 rfl _ (by kernel_rfl) rfl ?_
    refine ev_norm (a' := ?_) ?_ ?_
    rotate_left
    · simp only [Act.put, List.setIfInBounds_toArray, List.set_cons_zero, List.set_cons_succ, i64_w, i32_w]
      rfl
    refine ev_pure 21 (v := ?_) (a' := ?_) rfl rfl ?_ ?_ ?_
    rotate_left 2
    · intro w'
      go_simp
      with_reducible rfl
    · simp only [Act.put, List.setIfInBounds_toArray, List.set_cons_zero, List.set_cons_succ, i64_w, i32_w]
      rfl
    refine wpList_nil ?_
    refine hK4 _ _ ?_
    clear hK4
    try clear K4
    refine wp_cond_true rfl ?_
    refine wp_seq_k (fun K5 hK5 => ?_)
    refine wp_region_lit ?_
    refine ev_pure 22 (v := ?_) (a' := ?_) rfl rfl ?_ ?_ ?_
    rotate_left 2
    · intro w'
      go_simp
      with_reducible rfl
    · simp only [Act.put, List.setIfInBounds_toArray, List.set_cons_zero, List.set_cons_succ, i64_w, i32_w]
      rfl
    refine ev_store M 1 rfl rfl rfl 23 (.tmp 4) _ rfl 0 rfl [_, _] rfl (by kernel_rfl) rfl (Nat.le_of_ble_eq_true rfl) [_, _] rfl [_, _, _, _] rfl ?_
    intro w6 M1
    clear M
    have M := M1
    clear M1
    refine wpList_nil ?_
    refine hK5 _ _ ?_
    clear hK5
    try clear K5
    refine wp_ret ?_
    (try simp only [Exit.inBlock, Exit.then])
    refine bodyPost_ret (res1 rfl (rv_cell M 1 rfl 4 23 0 rfl [_, _] (by kernel_rfl) (by kernel_rfl) rfl)) rfl ⟨?_, M.below⟩
    rfl
  · rw [if_neg hc] at h
    simp only [Prod.mk.injEq] at h
    obtain ⟨rfl, rfl⟩ := h
    have hd : decide (y < x) = false := decide_eq_false hc
    clear hc
    go_enter Try.func26, Try.ntmps26
    have M := Mem.start w
    refine wp_seq_k (fun K1 hK1 => ?_)
    refine wp_region_lit ?_
    refine ev_boxv M (N := 2) rfl rfl 23 _ rfl [_, _] rfl ?_
    intro g0 w1 M1
    clear M
    have M := M1
    clear M1
    refine ev_norm (a' := ?_) ?_ ?_
    rotate_left
    · simp only [Act.put, List.setIfInBounds_toArray, List.set_cons_zero, List.set_cons_succ, i64_w, i32_w]
      rfl
    refine ev_boxv M (N := 3) rfl rfl 23 _ rfl [_, _] rfl ?_
    intro g1 w2 M1
    clear M
    have M := M1
    clear M1
    refine ev_norm (a' := ?_) ?_ ?_
    rotate_left
    · simp only [Act.put, List.setIfInBounds_toArray, List.set_cons_zero, List.set_cons_succ, i64_w, i32_w]
      rfl
    refine ev_alloc M (N := 4) rfl rfl 23 rfl (.agg #[.int .i64 0, .int .i64 0]) (by kernel_rfl) [.int .i64 0, .int .i64 0] rfl ?_
    intro g2 w3 M1
    clear M
    have M := M1
    clear M1
    refine ev_norm (a' := ?_) ?_ ?_
    rotate_left
    · simp only [Act.put, List.setIfInBounds_toArray, List.set_cons_zero, List.set_cons_succ, i64_w, i32_w]
      rfl
    refine wpList_nil ?_
    refine hK1 _ _ ?_
    clear hK1
    try clear K1
    refine wp_seq_k (fun K2 hK2 => ?_)
    refine wp_region_lit ?_
    refine ev_pure 6 (v := ?_) (a' := ?_) rfl rfl ?_ ?_ ?_
    rotate_left 2
    · intro w'
      go_simp
      with_reducible rfl
    · simp only [Act.put, List.setIfInBounds_toArray, List.set_cons_zero, List.set_cons_succ, i64_w, i32_w]
      rfl
    refine ev_load1 M 2 rfl (N := 7) rfl rfl 3 (.tmp 6) rfl 0 rfl _ (by kernel_rfl) rfl ?_
    refine ev_norm (a' := ?_) ?_ ?_
    rotate_left
    · simp only [Act.put, List.setIfInBounds_toArray, List.set_cons_zero, List.set_cons_succ, i64_w, i32_w]
      rfl
    refine ev_pure 8 (v := ?_) (a' := ?_) rfl rfl ?_ ?_ ?_
    rotate_left 2
    · intro w'
      go_simp
      with_reducible rfl
    · simp only [Act.put, List.setIfInBounds_toArray, List.set_cons_zero, List.set_cons_succ, i64_w, i32_w]
      rfl
    refine ev_load1 M 1 rfl (N := 9) rfl rfl 3 (.tmp 8) rfl 0 rfl _ (by kernel_rfl) rfl ?_
    refine ev_norm (a' := ?_) ?_ ?_
    rotate_left
    · simp only [Act.put, List.setIfInBounds_toArray, List.set_cons_zero, List.set_cons_succ, i64_w, i32_w]
      rfl
    refine ev_pure 10 (v := ?_) (a' := ?_) rfl rfl ?_ ?_ ?_
    rotate_left 2
    · intro w'
      go_simp
      with_reducible rfl
    · simp only [Act.put, List.setIfInBounds_toArray, List.set_cons_zero, List.set_cons_succ, i64_w, i32_w]
      rfl
    refine ev_pure 11 (v := ?_) (a' := ?_) rfl rfl ?_ ?_ ?_
    rotate_left 2
    · intro w'
      go_simp
      with_reducible rfl
    · simp only [Act.put, List.setIfInBounds_toArray, List.set_cons_zero, List.set_cons_succ, i64_w, i32_w]
      rfl
    refine ev_load1 M 2 rfl (N := 12) rfl rfl 3 (.tmp 11) rfl 1 rfl _ (by kernel_rfl) rfl ?_
    refine ev_norm (a' := ?_) ?_ ?_
    rotate_left
    · simp only [Act.put, List.setIfInBounds_toArray, List.set_cons_zero, List.set_cons_succ, i64_w, i32_w]
      rfl
    refine ev_pure 13 (v := ?_) (a' := ?_) rfl rfl ?_ ?_ ?_
    rotate_left 2
    · intro w'
      go_simp
      with_reducible rfl
    · simp only [Act.put, List.setIfInBounds_toArray, List.set_cons_zero, List.set_cons_succ, i64_w, i32_w]
      rfl
    refine ev_load1 M 1 rfl (N := 14) rfl rfl 3 (.tmp 13) rfl 1 rfl _ (by kernel_rfl) rfl ?_
    refine ev_norm (a' := ?_) ?_ ?_
    rotate_left
    · simp only [Act.put, List.setIfInBounds_toArray, List.set_cons_zero, List.set_cons_succ, i64_w, i32_w]
      rfl
    refine ev_pure 15 (v := ?_) (a' := ?_) rfl rfl ?_ ?_ ?_
    rotate_left 2
    · intro w'
      go_simp
      with_reducible rfl
    · simp only [Act.put, List.setIfInBounds_toArray, List.set_cons_zero, List.set_cons_succ, i64_w, i32_w]
      rfl
    refine ev_pure 16 (v := ?_) (a' := ?_) rfl rfl ?_ ?_ ?_
    rotate_left 2
    · intro w'
      go_simp
      with_reducible rfl
    · simp only [Act.put, List.setIfInBounds_toArray, List.set_cons_zero, List.set_cons_succ, i64_w, i32_w]
      rfl
    refine ev_alloc M (N := 5) rfl rfl 23 rfl (.agg #[.int .i64 0, .int .i64 0]) (by kernel_rfl) [.int .i64 0, .int .i64 0] rfl ?_
    intro g3 w4 M1
    clear M
    have M := M1
    clear M1
    refine ev_norm (a' := ?_) ?_ ?_
    rotate_left
    · simp only [Act.put, List.setIfInBounds_toArray, List.set_cons_zero, List.set_cons_succ, i64_w, i32_w]
      rfl
    refine ev_store M 0 rfl rfl rfl 23 (.tmp 5) _ rfl 0 rfl [_, _] rfl (by kernel_rfl) rfl (Nat.le_of_ble_eq_true rfl) [_, _] rfl [_, _, _, _] rfl ?_
    intro w5 M1
    clear M
    have M := M1
    clear M1
    refine wpList_nil ?_
    refine hK2 _ _ ?_
    clear hK2
    try clear K2
    refine wp_seq_k (fun K3 hK3 => ?_)
    refine wp_seq_k (fun K4 hK4 => ?_)
    refine wp_region_lit ?_
    refine ev_pure 17 (v := ?_) (a' := ?_) rfl rfl ?_ ?_ ?_
    rotate_left 2
    · intro w'
      go_simp
      with_reducible rfl
    · simp only [Act.put, List.setIfInBounds_toArray, List.set_cons_zero, List.set_cons_succ, i64_w, i32_w]
      rfl
    refine ev_load1 M 0 rfl (N := 18) rfl rfl 3 (.tmp 17) rfl 0 rfl _ (by kernel_rfl) rfl ?_
    refine ev_norm (a' := ?_) ?_ ?_
    rotate_left
    · simp only [Act.put, List.setIfInBounds_toArray, List.set_cons_zero, List.set_cons_succ, i64_w, i32_w]
      rfl
    refine ev_pure 19 (v := ?_) (a' := ?_) rfl rfl ?_ ?_ ?_
    rotate_left 2
    · intro w'
      go_simp
      with_reducible rfl
    · simp only [Act.put, List.setIfInBounds_toArray, List.set_cons_zero, List.set_cons_succ, i64_w, i32_w]
      rfl
    refine ev_load1 M 0 rfl (N := 20) rfl rfl 3 (.tmp 19) rfl 1 rfl _ (by kernel_rfl) rfl ?_
    refine ev_norm (a' := ?_) ?_ ?_
    rotate_left
    · simp only [Act.put, List.setIfInBounds_toArray, List.set_cons_zero, List.set_cons_succ, i64_w, i32_w]
      rfl
    refine ev_pure 21 (v := ?_) (a' := ?_) rfl rfl ?_ ?_ ?_
    rotate_left 2
    · intro w'
      go_simp
      with_reducible rfl
    · simp only [Act.put, List.setIfInBounds_toArray, List.set_cons_zero, List.set_cons_succ, i64_w, i32_w]
      rfl
    refine wpList_nil ?_
    refine hK4 _ _ ?_
    clear hK4
    try clear K4
    refine wp_cond_false rfl ?_
    refine wp_skip ?_
    refine hK3 _ _ ?_
    clear hK3
    try clear K3
    refine wp_seq_k (fun K5 hK5 => ?_)
    refine wp_region_lit ?_
    refine ev_load M 0 rfl (N := 23) rfl rfl 23 (.tmp 5) rfl 0 rfl [_, _] (by kernel_rfl) (by kernel_rfl) rfl ?_
    refine ev_norm (a' := ?_) ?_ ?_
    rotate_left
    · simp only [Act.put, List.setIfInBounds_toArray, List.set_cons_zero, List.set_cons_succ, i64_w, i32_w]
      rfl
    refine ev_store M 1 rfl rfl rfl 23 (.tmp 4) _ rfl 0 rfl [_, _] rfl (by kernel_rfl) rfl (Nat.le_of_ble_eq_true rfl) [_, _] rfl [_, _, _, _] rfl ?_
    intro w6 M1
    clear M
    have M := M1
    clear M1
    refine wpList_nil ?_
    refine hK5 _ _ ?_
    clear hK5
    try clear K5
    refine wp_ret ?_
    (try simp only [Exit.inBlock, Exit.then])
    refine bodyPost_ret (res1 rfl (rv_cell M 1 rfl 4 23 0 rfl [_, _] (by kernel_rfl) (by kernel_rfl) rfl)) rfl ⟨?_, M.below⟩
    rfl
end Go.Proofs.Ytdeedabhgfmgjaa.WkSpanMeets

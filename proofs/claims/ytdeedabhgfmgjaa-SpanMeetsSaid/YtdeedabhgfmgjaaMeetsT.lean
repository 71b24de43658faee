/-
  The walk of the law copselaw4.SpanMeets.
-/
import Derived.Test.YtdeedabhgfmgjaaMeetsR
set_option linter.unusedVariables false
set_option linter.unusedSimpArgs false
namespace Go.Proofs.Ytdeedabhgfmgjaa.WkSpanMeets
open Go Go.RowKit Go.Proofs.Ytdeedabhgfmgjaa.Span Go.Proofs.YtdeedabhgfmgjaaW.PrintWords Go.Proofs.YtdeedabhgfmgjaaW.PrintLast
set_option maxHeartbeats 8000000 in
set_option maxRecDepth 100000 in
theorem wayTTT (w : World) { b0 b1 c0 c1 n d0 d1 f0 f1 : Int} {same : Bool}
    (M1 : meetS ((1 : Int), (0 : Int)) (b0, b1) = ((1 : Int), (0 : Int))) (M2 : meetS (b0, b1) ((1 : Int), (0 : Int)) = ((1 : Int), (0 : Int))) (M3 : meetS ((1 : Int), (0 : Int)) (c0, c1) = (d0, d1)) (M4 : meetS (b0, b1) (c0, c1) = (f0, f1)) (M5 : meetS ((1 : Int), (0 : Int)) (f0, f1) = (d0, d1))
    (H1 : (decide ((1 : Int) ≤ n) && decide (n ≤ (0 : Int))) = true) (H2 : (decide ((1 : Int) ≤ n) && decide (n ≤ (0 : Int))) = true) (H3 : (decide (b0 ≤ n) && decide (n ≤ b1)) = true)
    (E1 : decide ((0 : Int) < (1 : Int)) = true) (E2 : decide ((0 : Int) < (1 : Int)) = same) (Q : True)
    (W1 : (decide ((0 : Int) < (1 : Int)) || (decide ((1 : Int) ≤ (1 : Int)) && decide ((0 : Int) ≤ (0 : Int)))) = true) (W2 : (decide ((0 : Int) < (1 : Int)) || (decide (b0 ≤ (1 : Int)) && decide ((0 : Int) ≤ b1))) = true) (W3 : (decide ((0 : Int) < (1 : Int)) || (decide ((1 : Int) ≤ (1 : Int)) && decide ((0 : Int) ≤ (0 : Int)))) = true)
    (W4 : (decide ((0 : Int) < (1 : Int)) || (decide (b0 ≤ (1 : Int)) && decide ((0 : Int) ≤ b1))) = true) :
    Calls Try.prog 10 #[sp (1 : Int) (0 : Int), sp b0 b1, sp c0 c1, .int .i64 n] w fun e w' => e = .returned (.bool true) ∧ Below w.heap.size w w' := by
  go_enter Try.func10, Try.ntmps10
  have M := Mem.start w
  refine wp_seq_k (fun K1 hK1 => ?_)
  refine wp_region_lit ?_
  refine ev_boxv M (N := 4) rfl rfl 23 _ rfl [_, _] rfl ?_
  intro g0 w1 M1
  clear M
  have M := M1
  clear M1
  refine ev_norm (a' := ?_) ?_ ?_
  rotate_left
  · simp only [Act.put, List.setIfInBounds_toArray, List.set_cons_zero, List.set_cons_succ, i64_w, i32_w]
    rfl
  refine ev_boxv M (N := 5) rfl rfl 23 _ rfl [_, _] rfl ?_
  intro g1 w2 M1
  clear M
  have M := M1
  clear M1
  refine ev_norm (a' := ?_) ?_ ?_
  rotate_left
  · simp only [Act.put, List.setIfInBounds_toArray, List.set_cons_zero, List.set_cons_succ, i64_w, i32_w]
    rfl
  refine ev_boxv M (N := 6) rfl rfl 23 _ rfl [_, _] rfl ?_
  intro g2 w3 M1
  clear M
  have M := M1
  clear M1
  refine ev_norm (a' := ?_) ?_ ?_
  rotate_left
  · simp only [Act.put, List.setIfInBounds_toArray, List.set_cons_zero, List.set_cons_succ, i64_w, i32_w]
    rfl
  refine ev_pure 8 (v := ?_) (a' := ?_) rfl rfl ?_ ?_ ?_
  rotate_left 2
  · intro w'
    go_simp
    with_reducible rfl
  · simp only [Act.put, List.setIfInBounds_toArray, List.set_cons_zero, List.set_cons_succ, i64_w, i32_w]
    rfl
  refine wpList_nil ?_
  refine hK1 _ _ ?_
  clear hK1
  try clear K1
  refine wp_seq_k (fun K2 hK2 => ?_)
  refine wp_region_lit ?_
  refine ev_load M 2 rfl (N := 11) rfl rfl 23 (.tmp 4) rfl 0 rfl [_, _] (by kernel_rfl) (by kernel_rfl) rfl ?_
  refine ev_norm (a' := ?_) ?_ ?_
  rotate_left
  · simp only [Act.put, List.setIfInBounds_toArray, List.set_cons_zero, List.set_cons_succ, i64_w, i32_w]
    rfl
  refine ev_load M 1 rfl (N := 12) rfl rfl 23 (.tmp 5) rfl 0 rfl [_, _] (by kernel_rfl) (by kernel_rfl) rfl ?_
  refine ev_norm (a' := ?_) ?_ ?_
  rotate_left
  · simp only [Act.put, List.setIfInBounds_toArray, List.set_cons_zero, List.set_cons_succ, i64_w, i32_w]
    rfl
  refine ev_call (some 13) rfl rfl Try.func20 (by kernel_rfl) rfl #[.agg #[.int .i64 _, .int .i64 _], .agg #[.int .i64 _, .int .i64 _]] rfl (by (try simp only [List.map_toArray, List.map_cons, List.map_nil]); first | done | rfl) (by first | (with_reducible exact meet_is M1 _) | (with_reducible exact meet_is M2 _) | (with_reducible exact meet_is M3 _) | (with_reducible exact meet_is M4 _) | (with_reducible exact meet_is M5 _)) rfl M ?_
  intro w4 M1
  clear M
  have M := M1
  clear M1
  refine ev_norm (a' := ?_) ?_ ?_
  rotate_left
  · simp only [Act.put, List.setIfInBounds_toArray, List.set_cons_zero, List.set_cons_succ, i64_w, i32_w]
    rfl
  refine ev_alloc M (N := 9) rfl rfl 23 rfl (.agg #[.int .i64 0, .int .i64 0]) (by kernel_rfl) [.int .i64 0, .int .i64 0] rfl ?_
  intro g3 w5 M1
  clear M
  have M := M1
  clear M1
  refine ev_norm (a' := ?_) ?_ ?_
  rotate_left
  · simp only [Act.put, List.setIfInBounds_toArray, List.set_cons_zero, List.set_cons_succ, i64_w, i32_w]
    rfl
  refine ev_store M 0 rfl rfl rfl 23 (.tmp 9) _ rfl 0 rfl [_, _] rfl (by kernel_rfl) rfl (Nat.le_of_ble_eq_true rfl) [_, _] rfl [_, _, _, _] rfl ?_
  intro w6 M1
  clear M
  have M := M1
  clear M1
  refine wpList_nil ?_
  refine hK2 _ _ ?_
  clear hK2
  try clear K2
  refine wp_seq_k (fun K3 hK3 => ?_)
  refine wp_seq_k (fun K4 hK4 => ?_)
  refine start_ (n := 30) (S := fun w' => Mem w w' _) (ds := []) #[false, false, false, false, false, false, false, false, false, false, false, false, false, false, false, false, false, false, false, false, false, false, false, false, false, false, false, false, false, false] (by kernel_rfl) rfl rfl M.drew (fun hS => ?_)
  clear M
  generalize World.drew _ = w7 at hS ⊢
  have M := hS
  refine pure_ (i := 1) (N := (some 15)) (v := ?_) (a' := ?_) #[false, true, false, false, false, false, false, false, false, false, false, false, false, false, false, false, false, false, false, false, false, false, false, false, false, false, false, false, false, false] rfl rfl (by kernel_rfl) (fun _ _ _ h => h) (Or.inl ⟨by rfl, ?_⟩) ?_ ?_
  rotate_left
  · intro w'
    go_simp
    with_reducible rfl
  rotate_left
  · simp only [Act.put, List.setIfInBounds_toArray, List.set_cons_zero, List.set_cons_succ, i64_w, i32_w]
    rfl
  refine pure_ (i := 4) (N := (some 18)) (v := ?_) (a' := ?_) #[false, true, false, false, true, false, false, false, false, false, false, false, false, false, false, false, false, false, false, false, false, false, false, false, false, false, false, false, false, false] rfl rfl (by kernel_rfl) (fun _ _ _ h => h) (Or.inl ⟨by rfl, ?_⟩) ?_ ?_
  rotate_left
  · intro w'
    go_simp
    with_reducible rfl
  rotate_left
  · simp only [Act.put, List.setIfInBounds_toArray, List.set_cons_zero, List.set_cons_succ, i64_w, i32_w]
    rfl
  refine take_ (i := 0) (N := (some 14)) (v := _) (a' := ?_) #[true, true, false, false, true, false, false, false, false, false, false, false, false, false, false, false, false, false, false, false, false, false, false, false, false, false, false, false, false, false] rfl rfl (by kernel_rfl) (fun _ _ _ h => h) (Or.inl ⟨by rfl, fun w' hM => op_load hM 0 rfl 23 (.tmp 9) rfl 0 rfl [_, _] (by kernel_rfl) (by kernel_rfl) rfl⟩) hS ?_ ?_
  rotate_left
  · simp only [Act.put, List.setIfInBounds_toArray, List.set_cons_zero, List.set_cons_succ, i64_w, i32_w]
    rfl
  refine take_ (i := 3) (N := (some 17)) (v := _) (a' := ?_) #[true, true, false, true, true, false, false, false, false, false, false, false, false, false, false, false, false, false, false, false, false, false, false, false, false, false, false, false, false, false] rfl rfl (by kernel_rfl) (fun _ _ _ h => h) (Or.inl ⟨by rfl, fun w' hM => op_load hM 3 rfl 23 (.tmp 4) rfl 0 rfl [_, _] (by kernel_rfl) (by kernel_rfl) rfl⟩) hS ?_ ?_
  rotate_left
  · simp only [Act.put, List.setIfInBounds_toArray, List.set_cons_zero, List.set_cons_succ, i64_w, i32_w]
    rfl
  refine one_ (i := 2) (N := (some 16)) #[true, true, true, true, true, false, false, false, false, false, false, false, false, false, false, false, false, false, false, false, false, false, false, false, false, false, false, false, false, false] rfl rfl (by kernel_rfl) (by decide) (fun K hK => ?_)
  refine goes_ Try.func25 (by kernel_rfl) rfl #[.agg #[.int .i64 _, .int .i64 _], .int .i64 _] (by rfl) rfl rfl (by (try simp only [List.map_toArray, List.map_cons, List.map_nil]); first | done | rfl) ?_
  refine Calls.mono (by first | (with_reducible exact has_is H1 _) | (with_reducible exact has_is H2 _) | (with_reducible exact has_is H3 _)) ?_
  rintro e w8 ⟨rfl, hb⟩
  refine ⟨_, rfl, ?_⟩
  have M1 := M.call hb
  clear M hS hb
  have M := M1
  clear M1
  refine hK.out _ _ M (fun hS => ?_)
  clear hK K
  refine norm_ (a' := ?_) ?_ ?_
  rotate_left
  · show Act.put _ (some 16) _ = _
    simp only [Act.put, List.setIfInBounds_toArray, List.set_cons_zero, List.set_cons_succ, i64_w, i32_w]
    rfl
  refine one_ (i := 5) (N := (some 19)) #[true, true, true, true, true, true, false, false, false, false, false, false, false, false, false, false, false, false, false, false, false, false, false, false, false, false, false, false, false, false] rfl rfl (by kernel_rfl) (by decide) (fun K hK => ?_)
  refine goes_ Try.func25 (by kernel_rfl) rfl #[.agg #[.int .i64 _, .int .i64 _], .int .i64 _] (by rfl) rfl rfl (by (try simp only [List.map_toArray, List.map_cons, List.map_nil]); first | done | rfl) ?_
  refine Calls.mono (by first | (with_reducible exact has_is H1 _) | (with_reducible exact has_is H2 _) | (with_reducible exact has_is H3 _)) ?_
  rintro e w9 ⟨rfl, hb⟩
  refine ⟨_, rfl, ?_⟩
  have M1 := M.call hb
  clear M hS hb
  have M := M1
  clear M1
  refine hK.out _ _ M (fun hS => ?_)
  clear hK K
  refine norm_ (a' := ?_) ?_ ?_
  rotate_left
  · show Act.put _ (some 19) _ = _
    simp only [Act.put, List.setIfInBounds_toArray, List.set_cons_zero, List.set_cons_succ, i64_w, i32_w]
    rfl
  refine pure_ (i := 6) (N := (some 20)) (v := ?_) (a' := ?_) #[true, true, true, true, true, true, true, false, false, false, false, false, false, false, false, false, false, false, false, false, false, false, false, false, false, false, false, false, false, false] rfl rfl (by kernel_rfl) (fun _ _ _ h => h) (Or.inl ⟨by rfl, ?_⟩) ?_ ?_
  rotate_left
  · intro w'
    go_simp
    with_reducible rfl
  rotate_left
  · simp only [Act.put, List.setIfInBounds_toArray, List.set_cons_zero, List.set_cons_succ, i64_w, i32_w]
    rfl
  refine pure_ (i := 8) (N := (some 22)) (v := ?_) (a' := ?_) #[true, true, true, true, true, true, true, false, true, false, false, false, false, false, false, false, false, false, false, false, false, false, false, false, false, false, false, false, false, false] rfl rfl (by kernel_rfl) (fun _ _ _ h => h) (Or.inl ⟨by rfl, ?_⟩) ?_ ?_
  rotate_left
  · intro w'
    go_simp
    with_reducible rfl
  rotate_left
  · simp only [Act.put, List.setIfInBounds_toArray, List.set_cons_zero, List.set_cons_succ, i64_w, i32_w]
    rfl
  refine take_ (i := 7) (N := (some 21)) (v := _) (a' := ?_) #[true, true, true, true, true, true, true, true, true, false, false, false, false, false, false, false, false, false, false, false, false, false, false, false, false, false, false, false, false, false] rfl rfl (by kernel_rfl) (fun _ _ _ h => h) (Or.inl ⟨by rfl, fun w' hM => op_load hM 2 rfl 23 (.tmp 5) rfl 0 rfl [_, _] (by kernel_rfl) (by kernel_rfl) rfl⟩) hS ?_ ?_
  rotate_left
  · simp only [Act.put, List.setIfInBounds_toArray, List.set_cons_zero, List.set_cons_succ, i64_w, i32_w]
    rfl
  refine one_ (i := 9) (N := (some 23)) #[true, true, true, true, true, true, true, true, true, true, false, false, false, false, false, false, false, false, false, false, false, false, false, false, false, false, false, false, false, false] rfl rfl (by kernel_rfl) (by decide) (fun K hK => ?_)
  refine goes_ Try.func25 (by kernel_rfl) rfl #[.agg #[.int .i64 _, .int .i64 _], .int .i64 _] (by rfl) rfl rfl (by (try simp only [List.map_toArray, List.map_cons, List.map_nil]); first | done | rfl) ?_
  refine Calls.mono (by first | (with_reducible exact has_is H1 _) | (with_reducible exact has_is H2 _) | (with_reducible exact has_is H3 _)) ?_
  rintro e w10 ⟨rfl, hb⟩
  refine ⟨_, rfl, ?_⟩
  have M1 := M.call hb
  clear M hS hb
  have M := M1
  clear M1
  refine hK.out _ _ M (fun hS => ?_)
  clear hK K
  refine norm_ (a' := ?_) ?_ ?_
  rotate_left
  · show Act.put _ (some 23) _ = _
    simp only [Act.put, List.setIfInBounds_toArray, List.set_cons_zero, List.set_cons_succ, i64_w, i32_w]
    rfl
  refine pure_ (i := 10) (N := (some 24)) (v := ?_) (a' := ?_) #[true, true, true, true, true, true, true, true, true, true, true, false, false, false, false, false, false, false, false, false, false, false, false, false, false, false, false, false, false, false] rfl rfl (by kernel_rfl) (fun _ _ _ h => h) (Or.inl ⟨by rfl, ?_⟩) ?_ ?_
  rotate_left
  · intro w'
    go_simp
    with_reducible rfl
  rotate_left
  · simp only [Act.put, List.setIfInBounds_toArray, List.set_cons_zero, List.set_cons_succ, i64_w, i32_w]
    rfl
  refine pure_ (i := 11) (N := (some 25)) (v := ?_) (a' := ?_) #[true, true, true, true, true, true, true, true, true, true, true, true, false, false, false, false, false, false, false, false, false, false, false, false, false, false, false, false, false, false] rfl rfl (by kernel_rfl) (fun _ _ _ h => h) (Or.inl ⟨by rfl, ?_⟩) ?_ ?_
  rotate_left
  · intro w'
    go_simp
    with_reducible rfl
  rotate_left
  · simp only [Act.put, List.setIfInBounds_toArray, List.set_cons_zero, List.set_cons_succ, i64_w, i32_w]
    rfl
  refine pure_ (i := 12) (N := (some 26)) (v := ?_) (a' := ?_) #[true, true, true, true, true, true, true, true, true, true, true, true, true, false, false, false, false, false, false, false, false, false, false, false, false, false, false, false, false, false] rfl rfl (by kernel_rfl) (fun _ _ _ h => h) (Or.inl ⟨by rfl, ?_⟩) ?_ ?_
  rotate_left
  · intro w'
    go_simp
    with_reducible rfl
  rotate_left
  · simp only [Act.put, List.setIfInBounds_toArray, List.set_cons_zero, List.set_cons_succ, i64_w, i32_w]
    rfl
  refine take_ (i := 13) (N := (some 27)) (v := _) (a' := ?_) #[true, true, true, true, true, true, true, true, true, true, true, true, true, true, false, false, false, false, false, false, false, false, false, false, false, false, false, false, false, false] rfl rfl (by kernel_rfl) (fun _ _ _ h => h) (Or.inl ⟨by rfl, fun w' hM => op_load hM 0 rfl 23 (.tmp 9) rfl 0 rfl [_, _] (by kernel_rfl) (by kernel_rfl) rfl⟩) hS ?_ ?_
  rotate_left
  · simp only [Act.put, List.setIfInBounds_toArray, List.set_cons_zero, List.set_cons_succ, i64_w, i32_w]
    rfl
  refine take_ (i := 14) (N := (some 28)) (v := _) (a' := ?_) #[true, true, true, true, true, true, true, true, true, true, true, true, true, true, true, false, false, false, false, false, false, false, false, false, false, false, false, false, false, false] rfl rfl (by kernel_rfl) (fun _ _ _ h => h) (Or.inl ⟨by rfl, fun w' hM => op_load hM 2 rfl 23 (.tmp 5) rfl 0 rfl [_, _] (by kernel_rfl) (by kernel_rfl) rfl⟩) hS ?_ ?_
  rotate_left
  · simp only [Act.put, List.setIfInBounds_toArray, List.set_cons_zero, List.set_cons_succ, i64_w, i32_w]
    rfl
  refine take_ (i := 15) (N := (some 29)) (v := _) (a' := ?_) #[true, true, true, true, true, true, true, true, true, true, true, true, true, true, true, true, false, false, false, false, false, false, false, false, false, false, false, false, false, false] rfl rfl (by kernel_rfl) (fun _ _ _ h => h) (Or.inl ⟨by rfl, fun w' hM => op_load hM 3 rfl 23 (.tmp 4) rfl 0 rfl [_, _] (by kernel_rfl) (by kernel_rfl) rfl⟩) hS ?_ ?_
  rotate_left
  · simp only [Act.put, List.setIfInBounds_toArray, List.set_cons_zero, List.set_cons_succ, i64_w, i32_w]
    rfl
  refine one_ (i := 16) (N := (some 30)) #[true, true, true, true, true, true, true, true, true, true, true, true, true, true, true, true, true, false, false, false, false, false, false, false, false, false, false, false, false, false] rfl rfl (by kernel_rfl) (by decide) (fun K hK => ?_)
  refine goes_ Try.func20 (by kernel_rfl) rfl #[.agg #[.int .i64 _, .int .i64 _], .agg #[.int .i64 _, .int .i64 _]] (by rfl) rfl rfl (by (try simp only [List.map_toArray, List.map_cons, List.map_nil]); first | done | rfl) ?_
  refine Calls.mono (by first | (with_reducible exact meet_is M1 _) | (with_reducible exact meet_is M2 _) | (with_reducible exact meet_is M3 _) | (with_reducible exact meet_is M4 _) | (with_reducible exact meet_is M5 _)) ?_
  rintro e w11 ⟨rfl, hb⟩
  refine ⟨_, rfl, ?_⟩
  have M1 := M.call hb
  clear M hS hb
  have M := M1
  clear M1
  refine hK.out _ _ M (fun hS => ?_)
  clear hK K
  refine norm_ (a' := ?_) ?_ ?_
  rotate_left
  · show Act.put _ (some 30) _ = _
    simp only [Act.put, List.setIfInBounds_toArray, List.set_cons_zero, List.set_cons_succ, i64_w, i32_w]
    rfl
  refine pure_ (i := 17) (N := (some 31)) (v := ?_) (a' := ?_) #[true, true, true, true, true, true, true, true, true, true, true, true, true, true, true, true, true, true, false, false, false, false, false, false, false, false, false, false, false, false] rfl rfl (by kernel_rfl) (fun _ _ _ h => h) (Or.inl ⟨by rfl, ?_⟩) ?_ ?_
  rotate_left
  · intro w'
    go_simp
    with_reducible rfl
  rotate_left
  · simp only [Act.put, List.setIfInBounds_toArray, List.set_cons_zero, List.set_cons_succ, i64_w, i32_w]
    rfl
  refine pure_ (i := 18) (N := (some 32)) (v := ?_) (a' := ?_) #[true, true, true, true, true, true, true, true, true, true, true, true, true, true, true, true, true, true, true, false, false, false, false, false, false, false, false, false, false, false] rfl rfl (by kernel_rfl) (fun _ _ _ h => h) (Or.inl ⟨by rfl, ?_⟩) ?_ ?_
  rotate_left
  · intro w'
    go_simp
    with_reducible rfl
  rotate_left
  · simp only [Act.put, List.setIfInBounds_toArray, List.set_cons_zero, List.set_cons_succ, i64_w, i32_w]
    rfl
  refine pure_ (i := 19) (N := (some 33)) (v := ?_) (a' := ?_) #[true, true, true, true, true, true, true, true, true, true, true, true, true, true, true, true, true, true, true, true, false, false, false, false, false, false, false, false, false, false] rfl rfl (by kernel_rfl) (fun _ _ _ h => h) (Or.inl ⟨by rfl, ?_⟩) ?_ ?_
  rotate_left
  · intro w'
    go_simp
    with_reducible rfl
  rotate_left
  · simp only [Act.put, List.setIfInBounds_toArray, List.set_cons_zero, List.set_cons_succ, i64_w, i32_w]
    rfl
  refine take_ (i := 20) (N := (some 34)) (v := _) (a' := ?_) #[true, true, true, true, true, true, true, true, true, true, true, true, true, true, true, true, true, true, true, true, true, false, false, false, false, false, false, false, false, false] rfl rfl (by kernel_rfl) (fun _ _ _ h => h) (Or.inl ⟨by rfl, fun w' hM => op_load hM 0 rfl 23 (.tmp 9) rfl 0 rfl [_, _] (by kernel_rfl) (by kernel_rfl) rfl⟩) hS ?_ ?_
  rotate_left
  · simp only [Act.put, List.setIfInBounds_toArray, List.set_cons_zero, List.set_cons_succ, i64_w, i32_w]
    rfl
  refine take_ (i := 21) (N := (some 35)) (v := _) (a' := ?_) #[true, true, true, true, true, true, true, true, true, true, true, true, true, true, true, true, true, true, true, true, true, true, false, false, false, false, false, false, false, false] rfl rfl (by kernel_rfl) (fun _ _ _ h => h) (Or.inl ⟨by rfl, fun w' hM => op_load hM 1 rfl 23 (.tmp 6) rfl 0 rfl [_, _] (by kernel_rfl) (by kernel_rfl) rfl⟩) hS ?_ ?_
  rotate_left
  · simp only [Act.put, List.setIfInBounds_toArray, List.set_cons_zero, List.set_cons_succ, i64_w, i32_w]
    rfl
  refine take_ (i := 23) (N := (some 37)) (v := _) (a' := ?_) #[true, true, true, true, true, true, true, true, true, true, true, true, true, true, true, true, true, true, true, true, true, true, false, true, false, false, false, false, false, false] rfl rfl (by kernel_rfl) (fun _ _ _ h => h) (Or.inl ⟨by rfl, fun w' hM => op_load hM 3 rfl 23 (.tmp 4) rfl 0 rfl [_, _] (by kernel_rfl) (by kernel_rfl) rfl⟩) hS ?_ ?_
  rotate_left
  · simp only [Act.put, List.setIfInBounds_toArray, List.set_cons_zero, List.set_cons_succ, i64_w, i32_w]
    rfl
  refine take_ (i := 24) (N := (some 38)) (v := _) (a' := ?_) #[true, true, true, true, true, true, true, true, true, true, true, true, true, true, true, true, true, true, true, true, true, true, false, true, true, false, false, false, false, false] rfl rfl (by kernel_rfl) (fun _ _ _ h => h) (Or.inl ⟨by rfl, fun w' hM => op_load hM 2 rfl 23 (.tmp 5) rfl 0 rfl [_, _] (by kernel_rfl) (by kernel_rfl) rfl⟩) hS ?_ ?_
  rotate_left
  · simp only [Act.put, List.setIfInBounds_toArray, List.set_cons_zero, List.set_cons_succ, i64_w, i32_w]
    rfl
  refine take_ (i := 25) (N := (some 39)) (v := _) (a' := ?_) #[true, true, true, true, true, true, true, true, true, true, true, true, true, true, true, true, true, true, true, true, true, true, false, true, true, true, false, false, false, false] rfl rfl (by kernel_rfl) (fun _ _ _ h => h) (Or.inl ⟨by rfl, fun w' hM => op_load hM 1 rfl 23 (.tmp 6) rfl 0 rfl [_, _] (by kernel_rfl) (by kernel_rfl) rfl⟩) hS ?_ ?_
  rotate_left
  · simp only [Act.put, List.setIfInBounds_toArray, List.set_cons_zero, List.set_cons_succ, i64_w, i32_w]
    rfl
  refine one_ (i := 22) (N := (some 36)) #[true, true, true, true, true, true, true, true, true, true, true, true, true, true, true, true, true, true, true, true, true, true, true, true, true, true, false, false, false, false] rfl rfl (by kernel_rfl) (by decide) (fun K hK => ?_)
  refine goes_ Try.func20 (by kernel_rfl) rfl #[.agg #[.int .i64 _, .int .i64 _], .agg #[.int .i64 _, .int .i64 _]] (by rfl) rfl rfl (by (try simp only [List.map_toArray, List.map_cons, List.map_nil]); first | done | rfl) ?_
  refine Calls.mono (by first | (with_reducible exact meet_is M1 _) | (with_reducible exact meet_is M2 _) | (with_reducible exact meet_is M3 _) | (with_reducible exact meet_is M4 _) | (with_reducible exact meet_is M5 _)) ?_
  rintro e w12 ⟨rfl, hb⟩
  refine ⟨_, rfl, ?_⟩
  have M1 := M.call hb
  clear M hS hb
  have M := M1
  clear M1
  refine hK.out _ _ M (fun hS => ?_)
  clear hK K
  refine norm_ (a' := ?_) ?_ ?_
  rotate_left
  · show Act.put _ (some 36) _ = _
    simp only [Act.put, List.setIfInBounds_toArray, List.set_cons_zero, List.set_cons_succ, i64_w, i32_w]
    rfl
  refine one_ (i := 26) (N := (some 40)) #[true, true, true, true, true, true, true, true, true, true, true, true, true, true, true, true, true, true, true, true, true, true, true, true, true, true, true, false, false, false] rfl rfl (by kernel_rfl) (by decide) (fun K hK => ?_)
  refine goes_ Try.func20 (by kernel_rfl) rfl #[.agg #[.int .i64 _, .int .i64 _], .agg #[.int .i64 _, .int .i64 _]] (by rfl) rfl rfl (by (try simp only [List.map_toArray, List.map_cons, List.map_nil]); first | done | rfl) ?_
  refine Calls.mono (by first | (with_reducible exact meet_is M1 _) | (with_reducible exact meet_is M2 _) | (with_reducible exact meet_is M3 _) | (with_reducible exact meet_is M4 _) | (with_reducible exact meet_is M5 _)) ?_
  rintro e w13 ⟨rfl, hb⟩
  refine ⟨_, rfl, ?_⟩
  have M1 := M.call hb
  clear M hS hb
  have M := M1
  clear M1
  refine hK.out _ _ M (fun hS => ?_)
  clear hK K
  refine norm_ (a' := ?_) ?_ ?_
  rotate_left
  · show Act.put _ (some 40) _ = _
    simp only [Act.put, List.setIfInBounds_toArray, List.set_cons_zero, List.set_cons_succ, i64_w, i32_w]
    rfl
  refine one_ (i := 27) (N := (some 41)) #[true, true, true, true, true, true, true, true, true, true, true, true, true, true, true, true, true, true, true, true, true, true, true, true, true, true, true, true, false, false] rfl rfl (by kernel_rfl) (by decide) (fun K hK => ?_)
  refine goes_ Try.func20 (by kernel_rfl) rfl #[.agg #[.int .i64 _, .int .i64 _], .agg #[.int .i64 _, .int .i64 _]] (by rfl) rfl rfl (by (try simp only [List.map_toArray, List.map_cons, List.map_nil]); first | done | rfl) ?_
  refine Calls.mono (by first | (with_reducible exact meet_is M1 _) | (with_reducible exact meet_is M2 _) | (with_reducible exact meet_is M3 _) | (with_reducible exact meet_is M4 _) | (with_reducible exact meet_is M5 _)) ?_
  rintro e w14 ⟨rfl, hb⟩
  refine ⟨_, rfl, ?_⟩
  have M1 := M.call hb
  clear M hS hb
  have M := M1
  clear M1
  refine hK.out _ _ M (fun hS => ?_)
  clear hK K
  refine norm_ (a' := ?_) ?_ ?_
  rotate_left
  · show Act.put _ (some 41) _ = _
    simp only [Act.put, List.setIfInBounds_toArray, List.set_cons_zero, List.set_cons_succ, i64_w, i32_w]
    rfl
  refine pure_ (i := 28) (N := (some 42)) (v := ?_) (a' := ?_) #[true, true, true, true, true, true, true, true, true, true, true, true, true, true, true, true, true, true, true, true, true, true, true, true, true, true, true, true, true, false] rfl rfl (by kernel_rfl) (fun _ _ _ h => h) (Or.inl ⟨by rfl, ?_⟩) ?_ ?_
  rotate_left
  · intro w'
    go_simp
    with_reducible rfl
  rotate_left
  · simp only [Act.put, List.setIfInBounds_toArray, List.set_cons_zero, List.set_cons_succ, i64_w, i32_w]
    rfl
  refine pure_ (i := 29) (N := (some 43)) (v := ?_) (a' := ?_) #[true, true, true, true, true, true, true, true, true, true, true, true, true, true, true, true, true, true, true, true, true, true, true, true, true, true, true, true, true, true] rfl rfl (by kernel_rfl) (fun _ _ _ h => h) (Or.inl ⟨by rfl, ?_⟩) ?_ ?_
  rotate_left
  · intro w'
    go_simp
    with_reducible rfl
  rotate_left
  · simp only [Act.put, List.setIfInBounds_toArray, List.set_cons_zero, List.set_cons_succ, i64_w, i32_w]
    rfl
  refine done_ (by kernel_rfl) ?_
  try clear hS
  refine hK4 _ _ ?_
  clear hK4
  try clear K4
  refine wp_cond_false rfl ?_
  refine wp_skip ?_
  refine hK3 _ _ ?_
  clear hK3
  try clear K3
  refine wp_seq_k (fun K5 hK5 => ?_)
  refine wp_seq_k (fun K6 hK6 => ?_)
  refine wp_region_lit ?_
  refine ev_load M 0 rfl (N := 44) rfl rfl 23 (.tmp 9) rfl 0 rfl [_, _] (by kernel_rfl) (by kernel_rfl) rfl ?_
  refine ev_norm (a' := ?_) ?_ ?_
  rotate_left
  · simp only [Act.put, List.setIfInBounds_toArray, List.set_cons_zero, List.set_cons_succ, i64_w, i32_w]
    rfl
  refine ev_call (some 45) rfl rfl Try.func23 (by kernel_rfl) rfl #[.agg #[.int .i64 _, .int .i64 _]] rfl (by (try simp only [List.map_toArray, List.map_cons, List.map_nil]); first | done | rfl) (by first | (with_reducible exact empty_is E1 _) | (with_reducible exact empty_is E2 _)) rfl M ?_
  intro w15 M1
  clear M
  have M := M1
  clear M1
  refine ev_norm (a' := ?_) ?_ ?_
  rotate_left
  · simp only [Act.put, List.setIfInBounds_toArray, List.set_cons_zero, List.set_cons_succ, i64_w, i32_w]
    rfl
  refine ev_pure 46 (v := ?_) (a' := ?_) rfl rfl ?_ ?_ ?_
  rotate_left 2
  · intro w'
    go_simp
    with_reducible rfl
  · simp only [Act.put, List.setIfInBounds_toArray, List.set_cons_zero, List.set_cons_succ, i64_w, i32_w]
    rfl
  refine ev_load M 0 rfl (N := 47) rfl rfl 23 (.tmp 9) rfl 0 rfl [_, _] (by kernel_rfl) (by kernel_rfl) rfl ?_
  refine ev_norm (a' := ?_) ?_ ?_
  rotate_left
  · simp only [Act.put, List.setIfInBounds_toArray, List.set_cons_zero, List.set_cons_succ, i64_w, i32_w]
    rfl
  refine ev_pure 48 (v := ?_) (a' := ?_) rfl rfl ?_ ?_ ?_
  rotate_left 2
  · intro w'
    go_simp
    with_reducible rfl
  · simp only [Act.put, List.setIfInBounds_toArray, List.set_cons_zero, List.set_cons_succ, i64_w, i32_w]
    rfl
  refine ev_pure 49 (v := ?_) (a' := ?_) rfl rfl ?_ ?_ ?_
  rotate_left 2
  · intro w'
    go_simp
    with_reducible rfl
  · simp only [Act.put, List.setIfInBounds_toArray, List.set_cons_zero, List.set_cons_succ, i64_w, i32_w]
    rfl
  refine ev_pure 50 (v := ?_) (a' := ?_) rfl rfl ?_ ?_ ?_
  rotate_left 2
  · intro w'
    go_simp
    with_reducible rfl
  · simp only [Act.put, List.setIfInBounds_toArray, List.set_cons_zero, List.set_cons_succ, i64_w, i32_w]
    rfl
  refine ev_pure 51 (v := ?_) (a' := ?_) rfl rfl ?_ ?_ ?_
  rotate_left 2
  · intro w'
    go_simp
    with_reducible rfl
  · simp only [Act.put, List.setIfInBounds_toArray, List.set_cons_zero, List.set_cons_succ, i64_w, i32_w]
    rfl
  refine ev_load M 0 rfl (N := 52) rfl rfl 23 (.tmp 9) rfl 0 rfl [_, _] (by kernel_rfl) (by kernel_rfl) rfl ?_
  refine ev_norm (a' := ?_) ?_ ?_
  rotate_left
  · simp only [Act.put, List.setIfInBounds_toArray, List.set_cons_zero, List.set_cons_succ, i64_w, i32_w]
    rfl
  refine ev_load M 3 rfl (N := 53) rfl rfl 23 (.tmp 4) rfl 0 rfl [_, _] (by kernel_rfl) (by kernel_rfl) rfl ?_
  refine ev_norm (a' := ?_) ?_ ?_
  rotate_left
  · simp only [Act.put, List.setIfInBounds_toArray, List.set_cons_zero, List.set_cons_succ, i64_w, i32_w]
    rfl
  refine ev_call (some 54) rfl rfl Try.func24 (by kernel_rfl) rfl #[.agg #[.int .i64 _, .int .i64 _], .agg #[.int .i64 _, .int .i64 _]] rfl (by (try simp only [List.map_toArray, List.map_cons, List.map_nil]); first | done | rfl) (by first | (with_reducible exact within_is W1 _) | (with_reducible exact within_is W2 _) | (with_reducible exact within_is W3 _) | (with_reducible exact within_is W4 _)) rfl M ?_
  intro w16 M1
  clear M
  have M := M1
  clear M1
  refine ev_norm (a' := ?_) ?_ ?_
  rotate_left
  · simp only [Act.put, List.setIfInBounds_toArray, List.set_cons_zero, List.set_cons_succ, i64_w, i32_w]
    rfl
  refine ev_pure 55 (v := ?_) (a' := ?_) rfl rfl ?_ ?_ ?_
  rotate_left 2
  · intro w'
    go_simp
    with_reducible rfl
  · simp only [Act.put, List.setIfInBounds_toArray, List.set_cons_zero, List.set_cons_succ, i64_w, i32_w]
    rfl
  refine ev_pure 56 (v := ?_) (a' := ?_) rfl rfl ?_ ?_ ?_
  rotate_left 2
  · intro w'
    go_simp
    with_reducible rfl
  · simp only [Act.put, List.setIfInBounds_toArray, List.set_cons_zero, List.set_cons_succ, i64_w, i32_w]
    rfl
  refine ev_pure 57 (v := ?_) (a' := ?_) rfl rfl ?_ ?_ ?_
  rotate_left 2
  · intro w'
    go_simp
    with_reducible rfl
  · simp only [Act.put, List.setIfInBounds_toArray, List.set_cons_zero, List.set_cons_succ, i64_w, i32_w]
    rfl
  refine ev_load M 0 rfl (N := 58) rfl rfl 23 (.tmp 9) rfl 0 rfl [_, _] (by kernel_rfl) (by kernel_rfl) rfl ?_
  refine ev_norm (a' := ?_) ?_ ?_
  rotate_left
  · simp only [Act.put, List.setIfInBounds_toArray, List.set_cons_zero, List.set_cons_succ, i64_w, i32_w]
    rfl
  refine ev_load M 2 rfl (N := 59) rfl rfl 23 (.tmp 5) rfl 0 rfl [_, _] (by kernel_rfl) (by kernel_rfl) rfl ?_
  refine ev_norm (a' := ?_) ?_ ?_
  rotate_left
  · simp only [Act.put, List.setIfInBounds_toArray, List.set_cons_zero, List.set_cons_succ, i64_w, i32_w]
    rfl
  refine ev_call (some 60) rfl rfl Try.func24 (by kernel_rfl) rfl #[.agg #[.int .i64 _, .int .i64 _], .agg #[.int .i64 _, .int .i64 _]] rfl (by (try simp only [List.map_toArray, List.map_cons, List.map_nil]); first | done | rfl) (by first | (with_reducible exact within_is W1 _) | (with_reducible exact within_is W2 _) | (with_reducible exact within_is W3 _) | (with_reducible exact within_is W4 _)) rfl M ?_
  intro w17 M1
  clear M
  have M := M1
  clear M1
  refine ev_norm (a' := ?_) ?_ ?_
  rotate_left
  · simp only [Act.put, List.setIfInBounds_toArray, List.set_cons_zero, List.set_cons_succ, i64_w, i32_w]
    rfl
  refine ev_pure 61 (v := ?_) (a' := ?_) rfl rfl ?_ ?_ ?_
  rotate_left 2
  · intro w'
    go_simp
    with_reducible rfl
  · simp only [Act.put, List.setIfInBounds_toArray, List.set_cons_zero, List.set_cons_succ, i64_w, i32_w]
    rfl
  refine ev_pure 62 (v := ?_) (a' := ?_) rfl rfl ?_ ?_ ?_
  rotate_left 2
  · intro w'
    go_simp
    with_reducible rfl
  · simp only [Act.put, List.setIfInBounds_toArray, List.set_cons_zero, List.set_cons_succ, i64_w, i32_w]
    rfl
  refine ev_pure 63 (v := ?_) (a' := ?_) rfl rfl ?_ ?_ ?_
  rotate_left 2
  · intro w'
    go_simp
    with_reducible rfl
  · simp only [Act.put, List.setIfInBounds_toArray, List.set_cons_zero, List.set_cons_succ, i64_w, i32_w]
    rfl
  refine ev_load M 3 rfl (N := 64) rfl rfl 23 (.tmp 4) rfl 0 rfl [_, _] (by kernel_rfl) (by kernel_rfl) rfl ?_
  refine ev_norm (a' := ?_) ?_ ?_
  rotate_left
  · simp only [Act.put, List.setIfInBounds_toArray, List.set_cons_zero, List.set_cons_succ, i64_w, i32_w]
    rfl
  refine ev_load M 3 rfl (N := 65) rfl rfl 23 (.tmp 4) rfl 0 rfl [_, _] (by kernel_rfl) (by kernel_rfl) rfl ?_
  refine ev_norm (a' := ?_) ?_ ?_
  rotate_left
  · simp only [Act.put, List.setIfInBounds_toArray, List.set_cons_zero, List.set_cons_succ, i64_w, i32_w]
    rfl
  refine ev_call (some 66) rfl rfl Try.func24 (by kernel_rfl) rfl #[.agg #[.int .i64 _, .int .i64 _], .agg #[.int .i64 _, .int .i64 _]] rfl (by (try simp only [List.map_toArray, List.map_cons, List.map_nil]); first | done | rfl) (by first | (with_reducible exact within_is W1 _) | (with_reducible exact within_is W2 _) | (with_reducible exact within_is W3 _) | (with_reducible exact within_is W4 _)) rfl M ?_
  intro w18 M1
  clear M
  have M := M1
  clear M1
  refine ev_norm (a' := ?_) ?_ ?_
  rotate_left
  · simp only [Act.put, List.setIfInBounds_toArray, List.set_cons_zero, List.set_cons_succ, i64_w, i32_w]
    rfl
  refine ev_pure 67 (v := ?_) (a' := ?_) rfl rfl ?_ ?_ ?_
  rotate_left 2
  · intro w'
    go_simp
    with_reducible rfl
  · simp only [Act.put, List.setIfInBounds_toArray, List.set_cons_zero, List.set_cons_succ, i64_w, i32_w]
    rfl
  refine ev_pure 68 (v := ?_) (a' := ?_) rfl rfl ?_ ?_ ?_
  rotate_left 2
  · intro w'
    go_simp
    with_reducible rfl
  · simp only [Act.put, List.setIfInBounds_toArray, List.set_cons_zero, List.set_cons_succ, i64_w, i32_w]
    rfl
  refine wpList_nil ?_
  refine hK6 _ _ ?_
  clear hK6
  try clear K6
  refine wp_cond_false rfl ?_
  refine wp_skip ?_
  refine hK5 _ _ ?_
  clear hK5
  try clear K5
  refine wp_seq_k (fun K7 hK7 => ?_)
  refine wp_region_lit ?_
  refine ev_load M 0 rfl (N := 69) rfl rfl 23 (.tmp 9) rfl 0 rfl [_, _] (by kernel_rfl) (by kernel_rfl) rfl ?_
  refine ev_norm (a' := ?_) ?_ ?_
  rotate_left
  · simp only [Act.put, List.setIfInBounds_toArray, List.set_cons_zero, List.set_cons_succ, i64_w, i32_w]
    rfl
  refine ev_load M 3 rfl (N := 70) rfl rfl 23 (.tmp 4) rfl 0 rfl [_, _] (by kernel_rfl) (by kernel_rfl) rfl ?_
  refine ev_norm (a' := ?_) ?_ ?_
  rotate_left
  · simp only [Act.put, List.setIfInBounds_toArray, List.set_cons_zero, List.set_cons_succ, i64_w, i32_w]
    rfl
  refine ev_pure 71 (v := ?_) (a' := ?_) rfl rfl ?_ ?_ ?_
  rotate_left 2
  · intro w'
    go_simp
    with_reducible rfl
  · simp only [Act.put, List.setIfInBounds_toArray, List.set_cons_zero, List.set_cons_succ, i64_w, i32_w]
    rfl
  refine ev_pure 72 (v := ?_) (a' := ?_) rfl rfl ?_ ?_ ?_
  rotate_left 2
  · intro w'
    go_simp
    with_reducible rfl
  · simp only [Act.put, List.setIfInBounds_toArray, List.set_cons_zero, List.set_cons_succ, i64_w, i32_w]
    rfl
  refine ev_off (some 73) (a' := ?_) rfl rfl ?_ ?_
  rotate_left
  · simp only [Act.put, List.setIfInBounds_toArray, List.set_cons_zero, List.set_cons_succ, i64_w, i32_w]
    rfl
  refine ev_off (some 74) (a' := ?_) rfl rfl ?_ ?_
  rotate_left
  · simp only [Act.put, List.setIfInBounds_toArray, List.set_cons_zero, List.set_cons_succ, i64_w, i32_w]
    rfl
  refine ev_pure 75 (v := ?_) (a' := ?_) rfl rfl ?_ ?_ ?_
  rotate_left 2
  · intro w'
    go_simp
    with_reducible rfl
  · simp only [Act.put, List.setIfInBounds_toArray, List.set_cons_zero, List.set_cons_succ, i64_w, i32_w]
    rfl
  refine ev_pure 10 (v := ?_) (a' := ?_) rfl rfl ?_ ?_ ?_
  rotate_left 2
  · intro w'
    go_simp
    with_reducible rfl
  · simp only [Act.put, List.setIfInBounds_toArray, List.set_cons_zero, List.set_cons_succ, i64_w, i32_w]
    rfl
  refine wpList_nil ?_
  refine hK7 _ _ ?_
  clear hK7
  try clear K7
  refine wp_seq_k (fun K8 hK8 => ?_)
  refine start_ (n := 16) (S := fun w' => Mem w w' _) (ds := []) #[false, false, false, false, false, false, false, false, false, false, false, false, false, false, false, false] (by kernel_rfl) rfl rfl M.drew (fun hS => ?_)
  clear M
  generalize World.drew _ = w19 at hS ⊢
  have M := hS
  refine pure_ (i := 3) (N := (some 79)) (v := ?_) (a' := ?_) #[false, false, false, true, false, false, false, false, false, false, false, false, false, false, false, false] rfl rfl (by kernel_rfl) (fun _ _ _ h => h) (Or.inl ⟨by rfl, ?_⟩) ?_ ?_
  rotate_left
  · intro w'
    go_simp
    with_reducible rfl
  rotate_left
  · simp only [Act.put, List.setIfInBounds_toArray, List.set_cons_zero, List.set_cons_succ, i64_w, i32_w]
    rfl
  refine take_ (i := 0) (N := (some 76)) (v := _) (a' := ?_) #[true, false, false, true, false, false, false, false, false, false, false, false, false, false, false, false] rfl rfl (by kernel_rfl) (fun _ _ _ h => h) (Or.inl ⟨by rfl, fun w' hM => op_load hM 3 rfl 23 (.tmp 4) rfl 0 rfl [_, _] (by kernel_rfl) (by kernel_rfl) rfl⟩) hS ?_ ?_
  rotate_left
  · simp only [Act.put, List.setIfInBounds_toArray, List.set_cons_zero, List.set_cons_succ, i64_w, i32_w]
    rfl
  refine take_ (i := 1) (N := (some 77)) (v := _) (a' := ?_) #[true, true, false, true, false, false, false, false, false, false, false, false, false, false, false, false] rfl rfl (by kernel_rfl) (fun _ _ _ h => h) (Or.inl ⟨by rfl, fun w' hM => op_load hM 2 rfl 23 (.tmp 5) rfl 0 rfl [_, _] (by kernel_rfl) (by kernel_rfl) rfl⟩) hS ?_ ?_
  rotate_left
  · simp only [Act.put, List.setIfInBounds_toArray, List.set_cons_zero, List.set_cons_succ, i64_w, i32_w]
    rfl
  refine one_ (i := 2) (N := (some 78)) #[true, true, true, true, false, false, false, false, false, false, false, false, false, false, false, false] rfl rfl (by kernel_rfl) (by decide) (fun K hK => ?_)
  refine goes_ Try.func24 (by kernel_rfl) rfl #[.agg #[.int .i64 _, .int .i64 _], .agg #[.int .i64 _, .int .i64 _]] (by rfl) rfl rfl (by (try simp only [List.map_toArray, List.map_cons, List.map_nil]); first | done | rfl) ?_
  refine Calls.mono (by first | (with_reducible exact within_is W1 _) | (with_reducible exact within_is W2 _) | (with_reducible exact within_is W3 _) | (with_reducible exact within_is W4 _)) ?_
  rintro e w20 ⟨rfl, hb⟩
  refine ⟨_, rfl, ?_⟩
  have M1 := M.call hb
  clear M hS hb
  have M := M1
  clear M1
  refine hK.out _ _ M (fun hS => ?_)
  clear hK K
  refine norm_ (a' := ?_) ?_ ?_
  rotate_left
  · show Act.put _ (some 78) _ = _
    simp only [Act.put, List.setIfInBounds_toArray, List.set_cons_zero, List.set_cons_succ, i64_w, i32_w]
    rfl
  refine pure_ (i := 4) (N := (some 80)) (v := ?_) (a' := ?_) #[true, true, true, true, true, false, false, false, false, false, false, false, false, false, false, false] rfl rfl (by kernel_rfl) (fun _ _ _ h => h) (Or.inl ⟨by rfl, ?_⟩) ?_ ?_
  rotate_left
  · intro w'
    go_simp
    with_reducible rfl
  rotate_left
  · simp only [Act.put, List.setIfInBounds_toArray, List.set_cons_zero, List.set_cons_succ, i64_w, i32_w]
    rfl
  refine pure_ (i := 5) (N := (some 81)) (v := ?_) (a' := ?_) #[true, true, true, true, true, true, false, false, false, false, false, false, false, false, false, false] rfl rfl (by kernel_rfl) (fun _ _ _ h => h) (Or.inl ⟨by rfl, ?_⟩) ?_ ?_
  rotate_left
  · intro w'
    go_simp
    with_reducible rfl
  rotate_left
  · simp only [Act.put, List.setIfInBounds_toArray, List.set_cons_zero, List.set_cons_succ, i64_w, i32_w]
    rfl
  refine take_ (i := 6) (N := (some 82)) (v := _) (a' := ?_) #[true, true, true, true, true, true, true, false, false, false, false, false, false, false, false, false] rfl rfl (by kernel_rfl) (fun _ _ _ h => h) (Or.inl ⟨by rfl, fun w' hM => op_load hM 0 rfl 23 (.tmp 9) rfl 0 rfl [_, _] (by kernel_rfl) (by kernel_rfl) rfl⟩) hS ?_ ?_
  rotate_left
  · simp only [Act.put, List.setIfInBounds_toArray, List.set_cons_zero, List.set_cons_succ, i64_w, i32_w]
    rfl
  refine take_ (i := 7) (N := (some 83)) (v := _) (a' := ?_) #[true, true, true, true, true, true, true, true, false, false, false, false, false, false, false, false] rfl rfl (by kernel_rfl) (fun _ _ _ h => h) (Or.inl ⟨by rfl, fun w' hM => op_load hM 3 rfl 23 (.tmp 4) rfl 0 rfl [_, _] (by kernel_rfl) (by kernel_rfl) rfl⟩) hS ?_ ?_
  rotate_left
  · simp only [Act.put, List.setIfInBounds_toArray, List.set_cons_zero, List.set_cons_succ, i64_w, i32_w]
    rfl
  refine take_ (i := 8) (N := (some 84)) (v := _) (a' := ?_) #[true, true, true, true, true, true, true, true, true, false, false, false, false, false, false, false] rfl rfl (by kernel_rfl) (fun _ _ _ h => h) (Or.inl ⟨by rfl, fun w' hM => op_load hM 2 rfl 23 (.tmp 5) rfl 0 rfl [_, _] (by kernel_rfl) (by kernel_rfl) rfl⟩) hS ?_ ?_
  rotate_left
  · simp only [Act.put, List.setIfInBounds_toArray, List.set_cons_zero, List.set_cons_succ, i64_w, i32_w]
    rfl
  refine one_ (i := 9) (N := (some 85)) #[true, true, true, true, true, true, true, true, true, true, false, false, false, false, false, false] rfl rfl (by kernel_rfl) (by decide) (fun K hK => ?_)
  refine goes_ Try.func26 (by kernel_rfl) rfl #[.agg #[.int .i64 _, .int .i64 _], .agg #[.int .i64 _, .int .i64 _]] (by rfl) rfl rfl (by (try simp only [List.map_toArray, List.map_cons, List.map_nil]); first | done | rfl) ?_
  refine Calls.mono (by first | (with_reducible exact rmeet_is M1 _)) ?_
  rintro e w21 ⟨rfl, hb⟩
  refine ⟨_, rfl, ?_⟩
  have M1 := M.call hb
  clear M hS hb
  have M := M1
  clear M1
  refine hK.out _ _ M (fun hS => ?_)
  clear hK K
  refine norm_ (a' := ?_) ?_ ?_
  rotate_left
  · show Act.put _ (some 85) _ = _
    simp only [Act.put, List.setIfInBounds_toArray, List.set_cons_zero, List.set_cons_succ, i64_w, i32_w]
    rfl
  refine pure_ (i := 10) (N := (some 86)) (v := ?_) (a' := ?_) #[true, true, true, true, true, true, true, true, true, true, true, false, false, false, false, false] rfl rfl (by kernel_rfl) (fun _ _ _ h => h) (Or.inl ⟨by rfl, ?_⟩) ?_ ?_
  rotate_left
  · intro w'
    go_simp
    with_reducible rfl
  rotate_left
  · simp only [Act.put, List.setIfInBounds_toArray, List.set_cons_zero, List.set_cons_succ, i64_w, i32_w]
    rfl
  refine pure_ (i := 11) (N := (some 87)) (v := ?_) (a' := ?_) #[true, true, true, true, true, true, true, true, true, true, true, true, false, false, false, false] rfl rfl (by kernel_rfl) (fun _ _ _ h => h) (Or.inl ⟨by rfl, ?_⟩) ?_ ?_
  rotate_left
  · intro w'
    go_simp
    with_reducible rfl
  rotate_left
  · simp only [Act.put, List.setIfInBounds_toArray, List.set_cons_zero, List.set_cons_succ, i64_w, i32_w]
    rfl
  refine pure_ (i := 12) (N := (some 88)) (v := ?_) (a' := ?_) #[true, true, true, true, true, true, true, true, true, true, true, true, true, false, false, false] rfl rfl (by kernel_rfl) (fun _ _ _ h => h) (Or.inl ⟨by rfl, ?_⟩) ?_ ?_
  rotate_left
  · intro w'
    go_simp
    with_reducible rfl
  rotate_left
  · simp only [Act.put, List.setIfInBounds_toArray, List.set_cons_zero, List.set_cons_succ, i64_w, i32_w]
    rfl
  refine one_ (i := 13) (N := (some 89)) #[true, true, true, true, true, true, true, true, true, true, true, true, true, true, false, false] rfl rfl (by kernel_rfl) (by decide) (fun K hK => ?_)
  refine goes_ Try.func5 (by kernel_rfl) rfl #[] (by rfl) rfl rfl (by (try simp only [List.map_toArray, List.map_cons, List.map_nil]); first | done | rfl) ?_
  refine Calls.mono (by first | (with_reducible exact runs_is _)) ?_
  rintro e w22 ⟨rfl, hb⟩
  refine ⟨_, rfl, ?_⟩
  have M1 := M.call hb
  clear M hS hb
  have M := M1
  clear M1
  refine hK.out _ _ M (fun hS => ?_)
  clear hK K
  refine norm_ (a' := ?_) ?_ ?_
  rotate_left
  · show Act.put _ (some 89) _ = _
    simp only [Act.put, List.setIfInBounds_toArray, List.set_cons_zero, List.set_cons_succ, i64_w, i32_w]
    rfl
  refine pure_ (i := 14) (N := (some 90)) (v := ?_) (a' := ?_) #[true, true, true, true, true, true, true, true, true, true, true, true, true, true, true, false] rfl rfl (by kernel_rfl) (fun _ _ _ h => h) (Or.inl ⟨by rfl, ?_⟩) ?_ ?_
  rotate_left
  · intro w'
    go_simp
    with_reducible rfl
  rotate_left
  · simp only [Act.put, List.setIfInBounds_toArray, List.set_cons_zero, List.set_cons_succ, i64_w, i32_w]
    rfl
  refine pure_ (i := 15) (N := (some 8)) (v := ?_) (a' := ?_) #[true, true, true, true, true, true, true, true, true, true, true, true, true, true, true, true] rfl rfl (by kernel_rfl) (fun _ _ _ h => h) (Or.inl ⟨by rfl, ?_⟩) ?_ ?_
  rotate_left
  · intro w'
    go_simp
    with_reducible rfl
  rotate_left
  · simp only [Act.put, List.setIfInBounds_toArray, List.set_cons_zero, List.set_cons_succ, i64_w, i32_w]
    rfl
  refine done_ (by kernel_rfl) ?_
  try clear hS
  refine hK8 _ _ ?_
  clear hK8
  try clear K8
  refine wp_ret ?_
  (try simp only [Exit.inBlock, Exit.then])
  refine bodyPost_ret (res1 rfl (rv_tmp 8)) rfl ⟨?_, M.below⟩
  rfl
set_option maxHeartbeats 8000000 in
set_option maxRecDepth 100000 in
theorem wayTTF (w : World) {a0 a1 b0 b1 c0 c1 n d0 d1 f0 f1 : Int} {hb same : Bool}
    (M1 : meetS (a0, a1) (b0, b1) = ((1 : Int), (0 : Int))) (M2 : meetS (b0, b1) (a0, a1) = ((1 : Int), (0 : Int))) (M3 : meetS ((1 : Int), (0 : Int)) (c0, c1) = (d0, d1)) (M4 : meetS (b0, b1) (c0, c1) = (f0, f1)) (M5 : meetS (a0, a1) (f0, f1) = (d0, d1))
    (H1 : (decide ((1 : Int) ≤ n) && decide (n ≤ (0 : Int))) = hb) (H2 : (decide (a0 ≤ n) && decide (n ≤ a1)) = true) (H3 : (decide (b0 ≤ n) && decide (n ≤ b1)) = hb)
    (E1 : decide ((0 : Int) < (1 : Int)) = true) (E2 : decide (a1 < a0) = same) (Q : ¬ (1 : Int) = a0)
    (W1 : (decide ((0 : Int) < (1 : Int)) || (decide (a0 ≤ (1 : Int)) && decide ((0 : Int) ≤ a1))) = true) (W2 : (decide ((0 : Int) < (1 : Int)) || (decide (b0 ≤ (1 : Int)) && decide ((0 : Int) ≤ b1))) = true) (W3 : (decide (a1 < a0) || (decide (a0 ≤ a0) && decide (a1 ≤ a1))) = true)
    (W4 : (decide (a1 < a0) || (decide (b0 ≤ a0) && decide (a1 ≤ b1))) = same) :
    Calls Try.prog 10 #[sp a0 a1, sp b0 b1, sp c0 c1, .int .i64 n] w fun e w' => e = .returned (.bool true) ∧ Below w.heap.size w w' := by
  go_enter Try.func10, Try.ntmps10
  have M := Mem.start w
  refine wp_seq_k (fun K1 hK1 => ?_)
  refine wp_region_lit ?_
  refine ev_boxv M (N := 4) rfl rfl 23 _ rfl [_, _] rfl ?_
  intro g0 w1 M1
  clear M
  have M := M1
  clear M1
  refine ev_norm (a' := ?_) ?_ ?_
  rotate_left
  · simp only [Act.put, List.setIfInBounds_toArray, List.set_cons_zero, List.set_cons_succ, i64_w, i32_w]
    rfl
  refine ev_boxv M (N := 5) rfl rfl 23 _ rfl [_, _] rfl ?_
  intro g1 w2 M1
  clear M
  have M := M1
  clear M1
  refine ev_norm (a' := ?_) ?_ ?_
  rotate_left
  · simp only [Act.put, List.setIfInBounds_toArray, List.set_cons_zero, List.set_cons_succ, i64_w, i32_w]
    rfl
  refine ev_boxv M (N := 6) rfl rfl 23 _ rfl [_, _] rfl ?_
  intro g2 w3 M1
  clear M
  have M := M1
  clear M1
  refine ev_norm (a' := ?_) ?_ ?_
  rotate_left
  · simp only [Act.put, List.setIfInBounds_toArray, List.set_cons_zero, List.set_cons_succ, i64_w, i32_w]
    rfl
  refine ev_pure 8 (v := ?_) (a' := ?_) rfl rfl ?_ ?_ ?_
  rotate_left 2
  · intro w'
    go_simp
    with_reducible rfl
  · simp only [Act.put, List.setIfInBounds_toArray, List.set_cons_zero, List.set_cons_succ, i64_w, i32_w]
    rfl
  refine wpList_nil ?_
  refine hK1 _ _ ?_
  clear hK1
  try clear K1
  refine wp_seq_k (fun K2 hK2 => ?_)
  refine wp_region_lit ?_
  refine ev_load M 2 rfl (N := 11) rfl rfl 23 (.tmp 4) rfl 0 rfl [_, _] (by kernel_rfl) (by kernel_rfl) rfl ?_
  refine ev_norm (a' := ?_) ?_ ?_
  rotate_left
  · simp only [Act.put, List.setIfInBounds_toArray, List.set_cons_zero, List.set_cons_succ, i64_w, i32_w]
    rfl
  refine ev_load M 1 rfl (N := 12) rfl rfl 23 (.tmp 5) rfl 0 rfl [_, _] (by kernel_rfl) (by kernel_rfl) rfl ?_
  refine ev_norm (a' := ?_) ?_ ?_
  rotate_left
  · simp only [Act.put, List.setIfInBounds_toArray, List.set_cons_zero, List.set_cons_succ, i64_w, i32_w]
    rfl
  refine ev_call (some 13) rfl rfl Try.func20 (by kernel_rfl) rfl #[.agg #[.int .i64 _, .int .i64 _], .agg #[.int .i64 _, .int .i64 _]] rfl (by (try simp only [List.map_toArray, List.map_cons, List.map_nil]); first | done | rfl) (by first | (with_reducible exact meet_is M1 _) | (with_reducible exact meet_is M2 _) | (with_reducible exact meet_is M3 _) | (with_reducible exact meet_is M4 _) | (with_reducible exact meet_is M5 _)) rfl M ?_
  intro w4 M1
  clear M
  have M := M1
  clear M1
  refine ev_norm (a' := ?_) ?_ ?_
  rotate_left
  · simp only [Act.put, List.setIfInBounds_toArray, List.set_cons_zero, List.set_cons_succ, i64_w, i32_w]
    rfl
  refine ev_alloc M (N := 9) rfl rfl 23 rfl (.agg #[.int .i64 0, .int .i64 0]) (by kernel_rfl) [.int .i64 0, .int .i64 0] rfl ?_
  intro g3 w5 M1
  clear M
  have M := M1
  clear M1
  refine ev_norm (a' := ?_) ?_ ?_
  rotate_left
  · simp only [Act.put, List.setIfInBounds_toArray, List.set_cons_zero, List.set_cons_succ, i64_w, i32_w]
    rfl
  refine ev_store M 0 rfl rfl rfl 23 (.tmp 9) _ rfl 0 rfl [_, _] rfl (by kernel_rfl) rfl (Nat.le_of_ble_eq_true rfl) [_, _] rfl [_, _, _, _] rfl ?_
  intro w6 M1
  clear M
  have M := M1
  clear M1
  refine wpList_nil ?_
  refine hK2 _ _ ?_
  clear hK2
  try clear K2
  refine wp_seq_k (fun K3 hK3 => ?_)
  refine wp_seq_k (fun K4 hK4 => ?_)
  refine start_ (n := 30) (S := fun w' => Mem w w' _) (ds := []) #[false, false, false, false, false, false, false, false, false, false, false, false, false, false, false, false, false, false, false, false, false, false, false, false, false, false, false, false, false, false] (by kernel_rfl) rfl rfl M.drew (fun hS => ?_)
  clear M
  generalize World.drew _ = w7 at hS ⊢
  have M := hS
  refine pure_ (i := 1) (N := (some 15)) (v := ?_) (a' := ?_) #[false, true, false, false, false, false, false, false, false, false, false, false, false, false, false, false, false, false, false, false, false, false, false, false, false, false, false, false, false, false] rfl rfl (by kernel_rfl) (fun _ _ _ h => h) (Or.inl ⟨by rfl, ?_⟩) ?_ ?_
  rotate_left
  · intro w'
    go_simp
    with_reducible rfl
  rotate_left
  · simp only [Act.put, List.setIfInBounds_toArray, List.set_cons_zero, List.set_cons_succ, i64_w, i32_w]
    rfl
  refine pure_ (i := 4) (N := (some 18)) (v := ?_) (a' := ?_) #[false, true, false, false, true, false, false, false, false, false, false, false, false, false, false, false, false, false, false, false, false, false, false, false, false, false, false, false, false, false] rfl rfl (by kernel_rfl) (fun _ _ _ h => h) (Or.inl ⟨by rfl, ?_⟩) ?_ ?_
  rotate_left
  · intro w'
    go_simp
    with_reducible rfl
  rotate_left
  · simp only [Act.put, List.setIfInBounds_toArray, List.set_cons_zero, List.set_cons_succ, i64_w, i32_w]
    rfl
  refine take_ (i := 0) (N := (some 14)) (v := _) (a' := ?_) #[true, true, false, false, true, false, false, false, false, false, false, false, false, false, false, false, false, false, false, false, false, false, false, false, false, false, false, false, false, false] rfl rfl (by kernel_rfl) (fun _ _ _ h => h) (Or.inl ⟨by rfl, fun w' hM => op_load hM 0 rfl 23 (.tmp 9) rfl 0 rfl [_, _] (by kernel_rfl) (by kernel_rfl) rfl⟩) hS ?_ ?_
  rotate_left
  · simp only [Act.put, List.setIfInBounds_toArray, List.set_cons_zero, List.set_cons_succ, i64_w, i32_w]
    rfl
  refine take_ (i := 3) (N := (some 17)) (v := _) (a' := ?_) #[true, true, false, true, true, false, false, false, false, false, false, false, false, false, false, false, false, false, false, false, false, false, false, false, false, false, false, false, false, false] rfl rfl (by kernel_rfl) (fun _ _ _ h => h) (Or.inl ⟨by rfl, fun w' hM => op_load hM 3 rfl 23 (.tmp 4) rfl 0 rfl [_, _] (by kernel_rfl) (by kernel_rfl) rfl⟩) hS ?_ ?_
  rotate_left
  · simp only [Act.put, List.setIfInBounds_toArray, List.set_cons_zero, List.set_cons_succ, i64_w, i32_w]
    rfl
  refine one_ (i := 2) (N := (some 16)) #[true, true, true, true, true, false, false, false, false, false, false, false, false, false, false, false, false, false, false, false, false, false, false, false, false, false, false, false, false, false] rfl rfl (by kernel_rfl) (by decide) (fun K hK => ?_)
  refine goes_ Try.func25 (by kernel_rfl) rfl #[.agg #[.int .i64 _, .int .i64 _], .int .i64 _] (by rfl) rfl rfl (by (try simp only [List.map_toArray, List.map_cons, List.map_nil]); first | done | rfl) ?_
  refine Calls.mono (by first | (with_reducible exact has_is H1 _) | (with_reducible exact has_is H2 _) | (with_reducible exact has_is H3 _)) ?_
  rintro e w8 ⟨rfl, hb⟩
  refine ⟨_, rfl, ?_⟩
  have M1 := M.call hb
  clear M hS hb
  have M := M1
  clear M1
  refine hK.out _ _ M (fun hS => ?_)
  clear hK K
  refine norm_ (a' := ?_) ?_ ?_
  rotate_left
  · show Act.put _ (some 16) _ = _
    simp only [Act.put, List.setIfInBounds_toArray, List.set_cons_zero, List.set_cons_succ, i64_w, i32_w]
    rfl
  refine one_ (i := 5) (N := (some 19)) #[true, true, true, true, true, true, false, false, false, false, false, false, false, false, false, false, false, false, false, false, false, false, false, false, false, false, false, false, false, false] rfl rfl (by kernel_rfl) (by decide) (fun K hK => ?_)
  refine goes_ Try.func25 (by kernel_rfl) rfl #[.agg #[.int .i64 _, .int .i64 _], .int .i64 _] (by rfl) rfl rfl (by (try simp only [List.map_toArray, List.map_cons, List.map_nil]); first | done | rfl) ?_
  refine Calls.mono (by first | (with_reducible exact has_is H1 _) | (with_reducible exact has_is H2 _) | (with_reducible exact has_is H3 _)) ?_
  rintro e w9 ⟨rfl, hb⟩
  refine ⟨_, rfl, ?_⟩
  have M1 := M.call hb
  clear M hS hb
  have M := M1
  clear M1
  refine hK.out _ _ M (fun hS => ?_)
  clear hK K
  refine norm_ (a' := ?_) ?_ ?_
  rotate_left
  · show Act.put _ (some 19) _ = _
    simp only [Act.put, List.setIfInBounds_toArray, List.set_cons_zero, List.set_cons_succ, i64_w, i32_w]
    rfl
  refine pure_ (i := 6) (N := (some 20)) (v := ?_) (a' := ?_) #[true, true, true, true, true, true, true, false, false, false, false, false, false, false, false, false, false, false, false, false, false, false, false, false, false, false, false, false, false, false] rfl rfl (by kernel_rfl) (fun _ _ _ h => h) (Or.inl ⟨by rfl, ?_⟩) ?_ ?_
  rotate_left
  · intro w'
    go_simp
    with_reducible rfl
  rotate_left
  · simp only [Act.put, List.setIfInBounds_toArray, List.set_cons_zero, List.set_cons_succ, i64_w, i32_w]
    rfl
  refine pure_ (i := 8) (N := (some 22)) (v := ?_) (a' := ?_) #[true, true, true, true, true, true, true, false, true, false, false, false, false, false, false, false, false, false, false, false, false, false, false, false, false, false, false, false, false, false] rfl rfl (by kernel_rfl) (fun _ _ _ h => h) (Or.inl ⟨by rfl, ?_⟩) ?_ ?_
  rotate_left
  · intro w'
    go_simp
    with_reducible rfl
  rotate_left
  · simp only [Act.put, List.setIfInBounds_toArray, List.set_cons_zero, List.set_cons_succ, i64_w, i32_w]
    rfl
  refine take_ (i := 7) (N := (some 21)) (v := _) (a' := ?_) #[true, true, true, true, true, true, true, true, true, false, false, false, false, false, false, false, false, false, false, false, false, false, false, false, false, false, false, false, false, false] rfl rfl (by kernel_rfl) (fun _ _ _ h => h) (Or.inl ⟨by rfl, fun w' hM => op_load hM 2 rfl 23 (.tmp 5) rfl 0 rfl [_, _] (by kernel_rfl) (by kernel_rfl) rfl⟩) hS ?_ ?_
  rotate_left
  · simp only [Act.put, List.setIfInBounds_toArray, List.set_cons_zero, List.set_cons_succ, i64_w, i32_w]
    rfl
  refine one_ (i := 9) (N := (some 23)) #[true, true, true, true, true, true, true, true, true, true, false, false, false, false, false, false, false, false, false, false, false, false, false, false, false, false, false, false, false, false] rfl rfl (by kernel_rfl) (by decide) (fun K hK => ?_)
  refine goes_ Try.func25 (by kernel_rfl) rfl #[.agg #[.int .i64 _, .int .i64 _], .int .i64 _] (by rfl) rfl rfl (by (try simp only [List.map_toArray, List.map_cons, List.map_nil]); first | done | rfl) ?_
  refine Calls.mono (by first | (with_reducible exact has_is H1 _) | (with_reducible exact has_is H2 _) | (with_reducible exact has_is H3 _)) ?_
  rintro e w10 ⟨rfl, hb⟩
  refine ⟨_, rfl, ?_⟩
  have M1 := M.call hb
  clear M hS hb
  have M := M1
  clear M1
  refine hK.out _ _ M (fun hS => ?_)
  clear hK K
  refine norm_ (a' := ?_) ?_ ?_
  rotate_left
  · show Act.put _ (some 23) _ = _
    simp only [Act.put, List.setIfInBounds_toArray, List.set_cons_zero, List.set_cons_succ, i64_w, i32_w]
    rfl
  refine pure_ (i := 10) (N := (some 24)) (v := ?_) (a' := ?_) #[true, true, true, true, true, true, true, true, true, true, true, false, false, false, false, false, false, false, false, false, false, false, false, false, false, false, false, false, false, false] rfl rfl (by kernel_rfl) (fun _ _ _ h => h) (Or.inl ⟨by rfl, ?_⟩) ?_ ?_
  rotate_left
  · intro w'
    go_simp
    with_reducible rfl
  rotate_left
  · simp only [Act.put, List.setIfInBounds_toArray, List.set_cons_zero, List.set_cons_succ, i64_w, i32_w]
    rfl
  refine pure_ (i := 11) (N := (some 25)) (v := ?_) (a' := ?_) #[true, true, true, true, true, true, true, true, true, true, true, true, false, false, false, false, false, false, false, false, false, false, false, false, false, false, false, false, false, false] rfl rfl (by kernel_rfl) (fun _ _ _ h => h) (Or.inl ⟨by rfl, ?_⟩) ?_ ?_
  rotate_left
  · intro w'
    go_simp
    with_reducible rfl
  rotate_left
  · simp only [Act.put, List.setIfInBounds_toArray, List.set_cons_zero, List.set_cons_succ, i64_w, i32_w]
    rfl
  refine pure_ (i := 12) (N := (some 26)) (v := ?_) (a' := ?_) #[true, true, true, true, true, true, true, true, true, true, true, true, true, false, false, false, false, false, false, false, false, false, false, false, false, false, false, false, false, false] rfl rfl (by kernel_rfl) (fun _ _ _ h => h) (Or.inl ⟨by rfl, ?_⟩) ?_ ?_
  rotate_left
  · intro w'
    go_simp
    with_reducible rfl
  rotate_left
  · simp only [Act.put, List.setIfInBounds_toArray, List.set_cons_zero, List.set_cons_succ, i64_w, i32_w]
    rfl
  refine take_ (i := 13) (N := (some 27)) (v := _) (a' := ?_) #[true, true, true, true, true, true, true, true, true, true, true, true, true, true, false, false, false, false, false, false, false, false, false, false, false, false, false, false, false, false] rfl rfl (by kernel_rfl) (fun _ _ _ h => h) (Or.inl ⟨by rfl, fun w' hM => op_load hM 0 rfl 23 (.tmp 9) rfl 0 rfl [_, _] (by kernel_rfl) (by kernel_rfl) rfl⟩) hS ?_ ?_
  rotate_left
  · simp only [Act.put, List.setIfInBounds_toArray, List.set_cons_zero, List.set_cons_succ, i64_w, i32_w]
    rfl
  refine take_ (i := 14) (N := (some 28)) (v := _) (a' := ?_) #[true, true, true, true, true, true, true, true, true, true, true, true, true, true, true, false, false, false, false, false, false, false, false, false, false, false, false, false, false, false] rfl rfl (by kernel_rfl) (fun _ _ _ h => h) (Or.inl ⟨by rfl, fun w' hM => op_load hM 2 rfl 23 (.tmp 5) rfl 0 rfl [_, _] (by kernel_rfl) (by kernel_rfl) rfl⟩) hS ?_ ?_
  rotate_left
  · simp only [Act.put, List.setIfInBounds_toArray, List.set_cons_zero, List.set_cons_succ, i64_w, i32_w]
    rfl
  refine take_ (i := 15) (N := (some 29)) (v := _) (a' := ?_) #[true, true, true, true, true, true, true, true, true, true, true, true, true, true, true, true, false, false, false, false, false, false, false, false, false, false, false, false, false, false] rfl rfl (by kernel_rfl) (fun _ _ _ h => h) (Or.inl ⟨by rfl, fun w' hM => op_load hM 3 rfl 23 (.tmp 4) rfl 0 rfl [_, _] (by kernel_rfl) (by kernel_rfl) rfl⟩) hS ?_ ?_
  rotate_left
  · simp only [Act.put, List.setIfInBounds_toArray, List.set_cons_zero, List.set_cons_succ, i64_w, i32_w]
    rfl
  refine one_ (i := 16) (N := (some 30)) #[true, true, true, true, true, true, true, true, true, true, true, true, true, true, true, true, true, false, false, false, false, false, false, false, false, false, false, false, false, false] rfl rfl (by kernel_rfl) (by decide) (fun K hK => ?_)
  refine goes_ Try.func20 (by kernel_rfl) rfl #[.agg #[.int .i64 _, .int .i64 _], .agg #[.int .i64 _, .int .i64 _]] (by rfl) rfl rfl (by (try simp only [List.map_toArray, List.map_cons, List.map_nil]); first | done | rfl) ?_
  refine Calls.mono (by first | (with_reducible exact meet_is M1 _) | (with_reducible exact meet_is M2 _) | (with_reducible exact meet_is M3 _) | (with_reducible exact meet_is M4 _) | (with_reducible exact meet_is M5 _)) ?_
  rintro e w11 ⟨rfl, hb⟩
  refine ⟨_, rfl, ?_⟩
  have M1 := M.call hb
  clear M hS hb
  have M := M1
  clear M1
  refine hK.out _ _ M (fun hS => ?_)
  clear hK K
  refine norm_ (a' := ?_) ?_ ?_
  rotate_left
  · show Act.put _ (some 30) _ = _
    simp only [Act.put, List.setIfInBounds_toArray, List.set_cons_zero, List.set_cons_succ, i64_w, i32_w]
    rfl
  refine pure_ (i := 17) (N := (some 31)) (v := ?_) (a' := ?_) #[true, true, true, true, true, true, true, true, true, true, true, true, true, true, true, true, true, true, false, false, false, false, false, false, false, false, false, false, false, false] rfl rfl (by kernel_rfl) (fun _ _ _ h => h) (Or.inl ⟨by rfl, ?_⟩) ?_ ?_
  rotate_left
  · intro w'
    go_simp
    with_reducible rfl
  rotate_left
  · simp only [Act.put, List.setIfInBounds_toArray, List.set_cons_zero, List.set_cons_succ, i64_w, i32_w]
    rfl
  refine pure_ (i := 18) (N := (some 32)) (v := ?_) (a' := ?_) #[true, true, true, true, true, true, true, true, true, true, true, true, true, true, true, true, true, true, true, false, false, false, false, false, false, false, false, false, false, false] rfl rfl (by kernel_rfl) (fun _ _ _ h => h) (Or.inl ⟨by rfl, ?_⟩) ?_ ?_
  rotate_left
  · intro w'
    go_simp
    with_reducible rfl
  rotate_left
  · simp only [Act.put, List.setIfInBounds_toArray, List.set_cons_zero, List.set_cons_succ, i64_w, i32_w]
    rfl
  refine pure_ (i := 19) (N := (some 33)) (v := ?_) (a' := ?_) #[true, true, true, true, true, true, true, true, true, true, true, true, true, true, true, true, true, true, true, true, false, false, false, false, false, false, false, false, false, false] rfl rfl (by kernel_rfl) (fun _ _ _ h => h) (Or.inl ⟨by rfl, ?_⟩) ?_ ?_
  rotate_left
  · intro w'
    go_simp
    with_reducible rfl
  rotate_left
  · simp only [Act.put, List.setIfInBounds_toArray, List.set_cons_zero, List.set_cons_succ, i64_w, i32_w]
    rfl
  refine take_ (i := 20) (N := (some 34)) (v := _) (a' := ?_) #[true, true, true, true, true, true, true, true, true, true, true, true, true, true, true, true, true, true, true, true, true, false, false, false, false, false, false, false, false, false] rfl rfl (by kernel_rfl) (fun _ _ _ h => h) (Or.inl ⟨by rfl, fun w' hM => op_load hM 0 rfl 23 (.tmp 9) rfl 0 rfl [_, _] (by kernel_rfl) (by kernel_rfl) rfl⟩) hS ?_ ?_
  rotate_left
  · simp only [Act.put, List.setIfInBounds_toArray, List.set_cons_zero, List.set_cons_succ, i64_w, i32_w]
    rfl
  refine take_ (i := 21) (N := (some 35)) (v := _) (a' := ?_) #[true, true, true, true, true, true, true, true, true, true, true, true, true, true, true, true, true, true, true, true, true, true, false, false, false, false, false, false, false, false] rfl rfl (by kernel_rfl) (fun _ _ _ h => h) (Or.inl ⟨by rfl, fun w' hM => op_load hM 1 rfl 23 (.tmp 6) rfl 0 rfl [_, _] (by kernel_rfl) (by kernel_rfl) rfl⟩) hS ?_ ?_
  rotate_left
  · simp only [Act.put, List.setIfInBounds_toArray, List.set_cons_zero, List.set_cons_succ, i64_w, i32_w]
    rfl
  refine take_ (i := 23) (N := (some 37)) (v := _) (a' := ?_) #[true, true, true, true, true, true, true, true, true, true, true, true, true, true, true, true, true, true, true, true, true, true, false, true, false, false, false, false, false, false] rfl rfl (by kernel_rfl) (fun _ _ _ h => h) (Or.inl ⟨by rfl, fun w' hM => op_load hM 3 rfl 23 (.tmp 4) rfl 0 rfl [_, _] (by kernel_rfl) (by kernel_rfl) rfl⟩) hS ?_ ?_
  rotate_left
  · simp only [Act.put, List.setIfInBounds_toArray, List.set_cons_zero, List.set_cons_succ, i64_w, i32_w]
    rfl
  refine take_ (i := 24) (N := (some 38)) (v := _) (a' := ?_) #[true, true, true, true, true, true, true, true, true, true, true, true, true, true, true, true, true, true, true, true, true, true, false, true, true, false, false, false, false, false] rfl rfl (by kernel_rfl) (fun _ _ _ h => h) (Or.inl ⟨by rfl, fun w' hM => op_load hM 2 rfl 23 (.tmp 5) rfl 0 rfl [_, _] (by kernel_rfl) (by kernel_rfl) rfl⟩) hS ?_ ?_
  rotate_left
  · simp only [Act.put, List.setIfInBounds_toArray, List.set_cons_zero, List.set_cons_succ, i64_w, i32_w]
    rfl
  refine take_ (i := 25) (N := (some 39)) (v := _) (a' := ?_) #[true, true, true, true, true, true, true, true, true, true, true, true, true, true, true, true, true, true, true, true, true, true, false, true, true, true, false, false, false, false] rfl rfl (by kernel_rfl) (fun _ _ _ h => h) (Or.inl ⟨by rfl, fun w' hM => op_load hM 1 rfl 23 (.tmp 6) rfl 0 rfl [_, _] (by kernel_rfl) (by kernel_rfl) rfl⟩) hS ?_ ?_
  rotate_left
  · simp only [Act.put, List.setIfInBounds_toArray, List.set_cons_zero, List.set_cons_succ, i64_w, i32_w]
    rfl
  refine one_ (i := 22) (N := (some 36)) #[true, true, true, true, true, true, true, true, true, true, true, true, true, true, true, true, true, true, true, true, true, true, true, true, true, true, false, false, false, false] rfl rfl (by kernel_rfl) (by decide) (fun K hK => ?_)
  refine goes_ Try.func20 (by kernel_rfl) rfl #[.agg #[.int .i64 _, .int .i64 _], .agg #[.int .i64 _, .int .i64 _]] (by rfl) rfl rfl (by (try simp only [List.map_toArray, List.map_cons, List.map_nil]); first | done | rfl) ?_
  refine Calls.mono (by first | (with_reducible exact meet_is M1 _) | (with_reducible exact meet_is M2 _) | (with_reducible exact meet_is M3 _) | (with_reducible exact meet_is M4 _) | (with_reducible exact meet_is M5 _)) ?_
  rintro e w12 ⟨rfl, hb⟩
  refine ⟨_, rfl, ?_⟩
  have M1 := M.call hb
  clear M hS hb
  have M := M1
  clear M1
  refine hK.out _ _ M (fun hS => ?_)
  clear hK K
  refine norm_ (a' := ?_) ?_ ?_
  rotate_left
  · show Act.put _ (some 36) _ = _
    simp only [Act.put, List.setIfInBounds_toArray, List.set_cons_zero, List.set_cons_succ, i64_w, i32_w]
    rfl
  refine one_ (i := 26) (N := (some 40)) #[true, true, true, true, true, true, true, true, true, true, true, true, true, true, true, true, true, true, true, true, true, true, true, true, true, true, true, false, false, false] rfl rfl (by kernel_rfl) (by decide) (fun K hK => ?_)
  refine goes_ Try.func20 (by kernel_rfl) rfl #[.agg #[.int .i64 _, .int .i64 _], .agg #[.int .i64 _, .int .i64 _]] (by rfl) rfl rfl (by (try simp only [List.map_toArray, List.map_cons, List.map_nil]); first | done | rfl) ?_
  refine Calls.mono (by first | (with_reducible exact meet_is M1 _) | (with_reducible exact meet_is M2 _) | (with_reducible exact meet_is M3 _) | (with_reducible exact meet_is M4 _) | (with_reducible exact meet_is M5 _)) ?_
  rintro e w13 ⟨rfl, hb⟩
  refine ⟨_, rfl, ?_⟩
  have M1 := M.call hb
  clear M hS hb
  have M := M1
  clear M1
  refine hK.out _ _ M (fun hS => ?_)
  clear hK K
  refine norm_ (a' := ?_) ?_ ?_
  rotate_left
  · show Act.put _ (some 40) _ = _
    simp only [Act.put, List.setIfInBounds_toArray, List.set_cons_zero, List.set_cons_succ, i64_w, i32_w]
    rfl
  refine one_ (i := 27) (N := (some 41)) #[true, true, true, true, true, true, true, true, true, true, true, true, true, true, true, true, true, true, true, true, true, true, true, true, true, true, true, true, false, false] rfl rfl (by kernel_rfl) (by decide) (fun K hK => ?_)
  refine goes_ Try.func20 (by kernel_rfl) rfl #[.agg #[.int .i64 _, .int .i64 _], .agg #[.int .i64 _, .int .i64 _]] (by rfl) rfl rfl (by (try simp only [List.map_toArray, List.map_cons, List.map_nil]); first | done | rfl) ?_
  refine Calls.mono (by first | (with_reducible exact meet_is M1 _) | (with_reducible exact meet_is M2 _) | (with_reducible exact meet_is M3 _) | (with_reducible exact meet_is M4 _) | (with_reducible exact meet_is M5 _)) ?_
  rintro e w14 ⟨rfl, hb⟩
  refine ⟨_, rfl, ?_⟩
  have M1 := M.call hb
  clear M hS hb
  have M := M1
  clear M1
  refine hK.out _ _ M (fun hS => ?_)
  clear hK K
  refine norm_ (a' := ?_) ?_ ?_
  rotate_left
  · show Act.put _ (some 41) _ = _
    simp only [Act.put, List.setIfInBounds_toArray, List.set_cons_zero, List.set_cons_succ, i64_w, i32_w]
    rfl
  refine pure_ (i := 28) (N := (some 42)) (v := ?_) (a' := ?_) #[true, true, true, true, true, true, true, true, true, true, true, true, true, true, true, true, true, true, true, true, true, true, true, true, true, true, true, true, true, false] rfl rfl (by kernel_rfl) (fun _ _ _ h => h) (Or.inl ⟨by rfl, ?_⟩) ?_ ?_
  rotate_left
  · intro w'
    go_simp
    with_reducible rfl
  rotate_left
  · simp only [Act.put, List.setIfInBounds_toArray, List.set_cons_zero, List.set_cons_succ, i64_w, i32_w]
    rfl
  refine pure_ (i := 29) (N := (some 43)) (v := ?_) (a' := ?_) #[true, true, true, true, true, true, true, true, true, true, true, true, true, true, true, true, true, true, true, true, true, true, true, true, true, true, true, true, true, true] rfl rfl (by kernel_rfl) (fun _ _ _ h => h) (Or.inl ⟨by rfl, ?_⟩) ?_ ?_
  rotate_left
  · intro w'
    go_simp
    with_reducible rfl
  rotate_left
  · simp only [Act.put, List.setIfInBounds_toArray, List.set_cons_zero, List.set_cons_succ, i64_w, i32_w]
    rfl
  refine done_ (by kernel_rfl) ?_
  try clear hS
  refine hK4 _ _ ?_
  clear hK4
  try clear K4
  refine wp_cond_false rfl ?_
  refine wp_skip ?_
  refine hK3 _ _ ?_
  clear hK3
  try clear K3
  refine wp_seq_k (fun K5 hK5 => ?_)
  refine wp_seq_k (fun K6 hK6 => ?_)
  refine wp_region_lit ?_
  refine ev_load M 0 rfl (N := 44) rfl rfl 23 (.tmp 9) rfl 0 rfl [_, _] (by kernel_rfl) (by kernel_rfl) rfl ?_
  refine ev_norm (a' := ?_) ?_ ?_
  rotate_left
  · simp only [Act.put, List.setIfInBounds_toArray, List.set_cons_zero, List.set_cons_succ, i64_w, i32_w]
    rfl
  refine ev_call (some 45) rfl rfl Try.func23 (by kernel_rfl) rfl #[.agg #[.int .i64 _, .int .i64 _]] rfl (by (try simp only [List.map_toArray, List.map_cons, List.map_nil]); first | done | rfl) (by first | (with_reducible exact empty_is E1 _) | (with_reducible exact empty_is E2 _)) rfl M ?_
  intro w15 M1
  clear M
  have M := M1
  clear M1
  refine ev_norm (a' := ?_) ?_ ?_
  rotate_left
  · simp only [Act.put, List.setIfInBounds_toArray, List.set_cons_zero, List.set_cons_succ, i64_w, i32_w]
    rfl
  refine ev_pure 46 (v := ?_) (a' := ?_) rfl rfl ?_ ?_ ?_
  rotate_left 2
  · intro w'
    go_simp
    with_reducible rfl
  · simp only [Act.put, List.setIfInBounds_toArray, List.set_cons_zero, List.set_cons_succ, i64_w, i32_w]
    rfl
  refine ev_load M 0 rfl (N := 47) rfl rfl 23 (.tmp 9) rfl 0 rfl [_, _] (by kernel_rfl) (by kernel_rfl) rfl ?_
  refine ev_norm (a' := ?_) ?_ ?_
  rotate_left
  · simp only [Act.put, List.setIfInBounds_toArray, List.set_cons_zero, List.set_cons_succ, i64_w, i32_w]
    rfl
  refine ev_pure 48 (v := ?_) (a' := ?_) rfl rfl ?_ ?_ ?_
  rotate_left 2
  · intro w'
    go_simp
    with_reducible rfl
  · simp only [Act.put, List.setIfInBounds_toArray, List.set_cons_zero, List.set_cons_succ, i64_w, i32_w]
    rfl
  refine ev_pure 49 (v := ?_) (a' := ?_) rfl rfl ?_ ?_ ?_
  rotate_left 2
  · intro w'
    go_simp
    with_reducible rfl
  · simp only [Act.put, List.setIfInBounds_toArray, List.set_cons_zero, List.set_cons_succ, i64_w, i32_w]
    rfl
  refine ev_pure 50 (v := ?_) (a' := ?_) rfl rfl ?_ ?_ ?_
  rotate_left 2
  · intro w'
    go_simp
    with_reducible rfl
  · simp only [Act.put, List.setIfInBounds_toArray, List.set_cons_zero, List.set_cons_succ, i64_w, i32_w]
    rfl
  refine ev_pure 51 (v := ?_) (a' := ?_) rfl rfl ?_ ?_ ?_
  rotate_left 2
  · intro w'
    go_simp
    with_reducible rfl
  · simp only [Act.put, List.setIfInBounds_toArray, List.set_cons_zero, List.set_cons_succ, i64_w, i32_w]
    rfl
  refine ev_load M 0 rfl (N := 52) rfl rfl 23 (.tmp 9) rfl 0 rfl [_, _] (by kernel_rfl) (by kernel_rfl) rfl ?_
  refine ev_norm (a' := ?_) ?_ ?_
  rotate_left
  · simp only [Act.put, List.setIfInBounds_toArray, List.set_cons_zero, List.set_cons_succ, i64_w, i32_w]
    rfl
  refine ev_load M 3 rfl (N := 53) rfl rfl 23 (.tmp 4) rfl 0 rfl [_, _] (by kernel_rfl) (by kernel_rfl) rfl ?_
  refine ev_norm (a' := ?_) ?_ ?_
  rotate_left
  · simp only [Act.put, List.setIfInBounds_toArray, List.set_cons_zero, List.set_cons_succ, i64_w, i32_w]
    rfl
  refine ev_call (some 54) rfl rfl Try.func24 (by kernel_rfl) rfl #[.agg #[.int .i64 _, .int .i64 _], .agg #[.int .i64 _, .int .i64 _]] rfl (by (try simp only [List.map_toArray, List.map_cons, List.map_nil]); first | done | rfl) (by first | (with_reducible exact within_is W1 _) | (with_reducible exact within_is W2 _) | (with_reducible exact within_is W3 _) | (with_reducible exact within_is W4 _)) rfl M ?_
  intro w16 M1
  clear M
  have M := M1
  clear M1
  refine ev_norm (a' := ?_) ?_ ?_
  rotate_left
  · simp only [Act.put, List.setIfInBounds_toArray, List.set_cons_zero, List.set_cons_succ, i64_w, i32_w]
    rfl
  refine ev_pure 55 (v := ?_) (a' := ?_) rfl rfl ?_ ?_ ?_
  rotate_left 2
  · intro w'
    go_simp
    with_reducible rfl
  · simp only [Act.put, List.setIfInBounds_toArray, List.set_cons_zero, List.set_cons_succ, i64_w, i32_w]
    rfl
  refine ev_pure 56 (v := ?_) (a' := ?_) rfl rfl ?_ ?_ ?_
  rotate_left 2
  · intro w'
    go_simp
    with_reducible rfl
  · simp only [Act.put, List.setIfInBounds_toArray, List.set_cons_zero, List.set_cons_succ, i64_w, i32_w]
    rfl
  refine ev_pure 57 (v := ?_) (a' := ?_) rfl rfl ?_ ?_ ?_
  rotate_left 2
  · intro w'
    go_simp
    with_reducible rfl
  · simp only [Act.put, List.setIfInBounds_toArray, List.set_cons_zero, List.set_cons_succ, i64_w, i32_w]
    rfl
  refine ev_load M 0 rfl (N := 58) rfl rfl 23 (.tmp 9) rfl 0 rfl [_, _] (by kernel_rfl) (by kernel_rfl) rfl ?_
  refine ev_norm (a' := ?_) ?_ ?_
  rotate_left
  · simp only [Act.put, List.setIfInBounds_toArray, List.set_cons_zero, List.set_cons_succ, i64_w, i32_w]
    rfl
  refine ev_load M 2 rfl (N := 59) rfl rfl 23 (.tmp 5) rfl 0 rfl [_, _] (by kernel_rfl) (by kernel_rfl) rfl ?_
  refine ev_norm (a' := ?_) ?_ ?_
  rotate_left
  · simp only [Act.put, List.setIfInBounds_toArray, List.set_cons_zero, List.set_cons_succ, i64_w, i32_w]
    rfl
  refine ev_call (some 60) rfl rfl Try.func24 (by kernel_rfl) rfl #[.agg #[.int .i64 _, .int .i64 _], .agg #[.int .i64 _, .int .i64 _]] rfl (by (try simp only [List.map_toArray, List.map_cons, List.map_nil]); first | done | rfl) (by first | (with_reducible exact within_is W1 _) | (with_reducible exact within_is W2 _) | (with_reducible exact within_is W3 _) | (with_reducible exact within_is W4 _)) rfl M ?_
  intro w17 M1
  clear M
  have M := M1
  clear M1
  refine ev_norm (a' := ?_) ?_ ?_
  rotate_left
  · simp only [Act.put, List.setIfInBounds_toArray, List.set_cons_zero, List.set_cons_succ, i64_w, i32_w]
    rfl
  refine ev_pure 61 (v := ?_) (a' := ?_) rfl rfl ?_ ?_ ?_
  rotate_left 2
  · intro w'
    go_simp
    with_reducible rfl
  · simp only [Act.put, List.setIfInBounds_toArray, List.set_cons_zero, List.set_cons_succ, i64_w, i32_w]
    rfl
  refine ev_pure 62 (v := ?_) (a' := ?_) rfl rfl ?_ ?_ ?_
  rotate_left 2
  · intro w'
    go_simp
    with_reducible rfl
  · simp only [Act.put, List.setIfInBounds_toArray, List.set_cons_zero, List.set_cons_succ, i64_w, i32_w]
    rfl
  refine ev_pure 63 (v := ?_) (a' := ?_) rfl rfl ?_ ?_ ?_
  rotate_left 2
  · intro w'
    go_simp
    with_reducible rfl
  · simp only [Act.put, List.setIfInBounds_toArray, List.set_cons_zero, List.set_cons_succ, i64_w, i32_w]
    rfl
  refine ev_load M 3 rfl (N := 64) rfl rfl 23 (.tmp 4) rfl 0 rfl [_, _] (by kernel_rfl) (by kernel_rfl) rfl ?_
  refine ev_norm (a' := ?_) ?_ ?_
  rotate_left
  · simp only [Act.put, List.setIfInBounds_toArray, List.set_cons_zero, List.set_cons_succ, i64_w, i32_w]
    rfl
  refine ev_load M 3 rfl (N := 65) rfl rfl 23 (.tmp 4) rfl 0 rfl [_, _] (by kernel_rfl) (by kernel_rfl) rfl ?_
  refine ev_norm (a' := ?_) ?_ ?_
  rotate_left
  · simp only [Act.put, List.setIfInBounds_toArray, List.set_cons_zero, List.set_cons_succ, i64_w, i32_w]
    rfl
  refine ev_call (some 66) rfl rfl Try.func24 (by kernel_rfl) rfl #[.agg #[.int .i64 _, .int .i64 _], .agg #[.int .i64 _, .int .i64 _]] rfl (by (try simp only [List.map_toArray, List.map_cons, List.map_nil]); first | done | rfl) (by first | (with_reducible exact within_is W1 _) | (with_reducible exact within_is W2 _) | (with_reducible exact within_is W3 _) | (with_reducible exact within_is W4 _)) rfl M ?_
  intro w18 M1
  clear M
  have M := M1
  clear M1
  refine ev_norm (a' := ?_) ?_ ?_
  rotate_left
  · simp only [Act.put, List.setIfInBounds_toArray, List.set_cons_zero, List.set_cons_succ, i64_w, i32_w]
    rfl
  refine ev_pure 67 (v := ?_) (a' := ?_) rfl rfl ?_ ?_ ?_
  rotate_left 2
  · intro w'
    go_simp
    with_reducible rfl
  · simp only [Act.put, List.setIfInBounds_toArray, List.set_cons_zero, List.set_cons_succ, i64_w, i32_w]
    rfl
  refine ev_pure 68 (v := ?_) (a' := ?_) rfl rfl ?_ ?_ ?_
  rotate_left 2
  · intro w'
    go_simp
    with_reducible rfl
  · simp only [Act.put, List.setIfInBounds_toArray, List.set_cons_zero, List.set_cons_succ, i64_w, i32_w]
    rfl
  refine wpList_nil ?_
  refine hK6 _ _ ?_
  clear hK6
  try clear K6
  refine wp_cond_false rfl ?_
  refine wp_skip ?_
  refine hK5 _ _ ?_
  clear hK5
  try clear K5
  refine wp_seq_k (fun K7 hK7 => ?_)
  refine wp_region_lit ?_
  refine ev_load M 0 rfl (N := 69) rfl rfl 23 (.tmp 9) rfl 0 rfl [_, _] (by kernel_rfl) (by kernel_rfl) rfl ?_
  refine ev_norm (a' := ?_) ?_ ?_
  rotate_left
  · simp only [Act.put, List.setIfInBounds_toArray, List.set_cons_zero, List.set_cons_succ, i64_w, i32_w]
    rfl
  refine ev_load M 3 rfl (N := 70) rfl rfl 23 (.tmp 4) rfl 0 rfl [_, _] (by kernel_rfl) (by kernel_rfl) rfl ?_
  refine ev_norm (a' := ?_) ?_ ?_
  rotate_left
  · simp only [Act.put, List.setIfInBounds_toArray, List.set_cons_zero, List.set_cons_succ, i64_w, i32_w]
    rfl
  refine ev_pure 71 (v := ?_) (a' := ?_) rfl rfl ?_ ?_ ?_
  rotate_left 2
  · intro w'
    go_simp
    with_reducible rfl
  · simp only [Act.put, List.setIfInBounds_toArray, List.set_cons_zero, List.set_cons_succ, i64_w, i32_w]
    rfl
  refine ev_pure 72 (v := ?_) (a' := ?_) rfl rfl ?_ ?_ ?_
  rotate_left 2
  · intro w'
    go_simp
    with_reducible rfl
  · simp only [Act.put, List.setIfInBounds_toArray, List.set_cons_zero, List.set_cons_succ, i64_w, i32_w]
    rfl
  refine ev_load M 3 rfl (N := 73) rfl rfl 23 (.tmp 4) rfl 0 rfl [_, _] (by kernel_rfl) (by kernel_rfl) rfl ?_
  refine ev_norm (a' := ?_) ?_ ?_
  rotate_left
  · simp only [Act.put, List.setIfInBounds_toArray, List.set_cons_zero, List.set_cons_succ, i64_w, i32_w]
    rfl
  refine ev_call (some 74) rfl rfl Try.func23 (by kernel_rfl) rfl #[.agg #[.int .i64 _, .int .i64 _]] rfl (by (try simp only [List.map_toArray, List.map_cons, List.map_nil]); first | done | rfl) (by first | (with_reducible exact empty_is E1 _) | (with_reducible exact empty_is E2 _)) rfl M ?_
  intro w19 M1
  clear M
  have M := M1
  clear M1
  refine ev_norm (a' := ?_) ?_ ?_
  rotate_left
  · simp only [Act.put, List.setIfInBounds_toArray, List.set_cons_zero, List.set_cons_succ, i64_w, i32_w]
    rfl
  refine ev_pure 75 (v := ?_) (a' := ?_) rfl rfl ?_ ?_ ?_
  rotate_left 2
  · intro w'
    go_simp
    with_reducible rfl
  · simp only [Act.put, List.setIfInBounds_toArray, List.set_cons_zero, List.set_cons_succ, i64_w, i32_w]
    rfl
  refine ev_pure 10 (v := ?_) (a' := ?_) rfl rfl ?_ ?_ ?_
  rotate_left 2
  · intro w'
    go_simp
    with_reducible rfl
  · simp only [Act.put, List.setIfInBounds_toArray, List.set_cons_zero, List.set_cons_succ, i64_w, i32_w]
    rfl
  refine wpList_nil ?_
  refine hK7 _ _ ?_
  clear hK7
  try clear K7
  refine wp_seq_k (fun K8 hK8 => ?_)
  refine start_ (n := 16) (S := fun w' => Mem w w' _) (ds := []) #[false, false, false, false, false, false, false, false, false, false, false, false, false, false, false, false] (by kernel_rfl) rfl rfl M.drew (fun hS => ?_)
  clear M
  generalize World.drew _ = w20 at hS ⊢
  have M := hS
  refine pure_ (i := 3) (N := (some 79)) (v := ?_) (a' := ?_) #[false, false, false, true, false, false, false, false, false, false, false, false, false, false, false, false] rfl rfl (by kernel_rfl) (fun _ _ _ h => h) (Or.inl ⟨by rfl, ?_⟩) ?_ ?_
  rotate_left
  · intro w'
    go_simp
    with_reducible rfl
  rotate_left
  · simp only [Act.put, List.setIfInBounds_toArray, List.set_cons_zero, List.set_cons_succ, i64_w, i32_w]
    rfl
  refine take_ (i := 0) (N := (some 76)) (v := _) (a' := ?_) #[true, false, false, true, false, false, false, false, false, false, false, false, false, false, false, false] rfl rfl (by kernel_rfl) (fun _ _ _ h => h) (Or.inl ⟨by rfl, fun w' hM => op_load hM 3 rfl 23 (.tmp 4) rfl 0 rfl [_, _] (by kernel_rfl) (by kernel_rfl) rfl⟩) hS ?_ ?_
  rotate_left
  · simp only [Act.put, List.setIfInBounds_toArray, List.set_cons_zero, List.set_cons_succ, i64_w, i32_w]
    rfl
  refine take_ (i := 1) (N := (some 77)) (v := _) (a' := ?_) #[true, true, false, true, false, false, false, false, false, false, false, false, false, false, false, false] rfl rfl (by kernel_rfl) (fun _ _ _ h => h) (Or.inl ⟨by rfl, fun w' hM => op_load hM 2 rfl 23 (.tmp 5) rfl 0 rfl [_, _] (by kernel_rfl) (by kernel_rfl) rfl⟩) hS ?_ ?_
  rotate_left
  · simp only [Act.put, List.setIfInBounds_toArray, List.set_cons_zero, List.set_cons_succ, i64_w, i32_w]
    rfl
  refine one_ (i := 2) (N := (some 78)) #[true, true, true, true, false, false, false, false, false, false, false, false, false, false, false, false] rfl rfl (by kernel_rfl) (by decide) (fun K hK => ?_)
  refine goes_ Try.func24 (by kernel_rfl) rfl #[.agg #[.int .i64 _, .int .i64 _], .agg #[.int .i64 _, .int .i64 _]] (by rfl) rfl rfl (by (try simp only [List.map_toArray, List.map_cons, List.map_nil]); first | done | rfl) ?_
  refine Calls.mono (by first | (with_reducible exact within_is W1 _) | (with_reducible exact within_is W2 _) | (with_reducible exact within_is W3 _) | (with_reducible exact within_is W4 _)) ?_
  rintro e w21 ⟨rfl, hb⟩
  refine ⟨_, rfl, ?_⟩
  have M1 := M.call hb
  clear M hS hb
  have M := M1
  clear M1
  refine hK.out _ _ M (fun hS => ?_)
  clear hK K
  refine norm_ (a' := ?_) ?_ ?_
  rotate_left
  · show Act.put _ (some 78) _ = _
    simp only [Act.put, List.setIfInBounds_toArray, List.set_cons_zero, List.set_cons_succ, i64_w, i32_w]
    rfl
  refine pure_ (i := 4) (N := (some 80)) (v := ?_) (a' := ?_) #[true, true, true, true, true, false, false, false, false, false, false, false, false, false, false, false] rfl rfl (by kernel_rfl) (fun _ _ _ h => h) (Or.inl ⟨by rfl, ?_⟩) ?_ ?_
  rotate_left
  · intro w'
    go_simp
    with_reducible rfl
  rotate_left
  · simp only [Act.put, List.setIfInBounds_toArray, List.set_cons_zero, List.set_cons_succ, i64_w, i32_w]
    rfl
  refine pure_ (i := 5) (N := (some 81)) (v := ?_) (a' := ?_) #[true, true, true, true, true, true, false, false, false, false, false, false, false, false, false, false] rfl rfl (by kernel_rfl) (fun _ _ _ h => h) (Or.inl ⟨by rfl, ?_⟩) ?_ ?_
  rotate_left
  · intro w'
    go_simp
    with_reducible rfl
  rotate_left
  · simp only [Act.put, List.setIfInBounds_toArray, List.set_cons_zero, List.set_cons_succ, i64_w, i32_w]
    rfl
  refine take_ (i := 6) (N := (some 82)) (v := _) (a' := ?_) #[true, true, true, true, true, true, true, false, false, false, false, false, false, false, false, false] rfl rfl (by kernel_rfl) (fun _ _ _ h => h) (Or.inl ⟨by rfl, fun w' hM => op_load hM 0 rfl 23 (.tmp 9) rfl 0 rfl [_, _] (by kernel_rfl) (by kernel_rfl) rfl⟩) hS ?_ ?_
  rotate_left
  · simp only [Act.put, List.setIfInBounds_toArray, List.set_cons_zero, List.set_cons_succ, i64_w, i32_w]
    rfl
  refine take_ (i := 7) (N := (some 83)) (v := _) (a' := ?_) #[true, true, true, true, true, true, true, true, false, false, false, false, false, false, false, false] rfl rfl (by kernel_rfl) (fun _ _ _ h => h) (Or.inl ⟨by rfl, fun w' hM => op_load hM 3 rfl 23 (.tmp 4) rfl 0 rfl [_, _] (by kernel_rfl) (by kernel_rfl) rfl⟩) hS ?_ ?_
  rotate_left
  · simp only [Act.put, List.setIfInBounds_toArray, List.set_cons_zero, List.set_cons_succ, i64_w, i32_w]
    rfl
  refine take_ (i := 8) (N := (some 84)) (v := _) (a' := ?_) #[true, true, true, true, true, true, true, true, true, false, false, false, false, false, false, false] rfl rfl (by kernel_rfl) (fun _ _ _ h => h) (Or.inl ⟨by rfl, fun w' hM => op_load hM 2 rfl 23 (.tmp 5) rfl 0 rfl [_, _] (by kernel_rfl) (by kernel_rfl) rfl⟩) hS ?_ ?_
  rotate_left
  · simp only [Act.put, List.setIfInBounds_toArray, List.set_cons_zero, List.set_cons_succ, i64_w, i32_w]
    rfl
  refine one_ (i := 9) (N := (some 85)) #[true, true, true, true, true, true, true, true, true, true, false, false, false, false, false, false] rfl rfl (by kernel_rfl) (by decide) (fun K hK => ?_)
  refine goes_ Try.func26 (by kernel_rfl) rfl #[.agg #[.int .i64 _, .int .i64 _], .agg #[.int .i64 _, .int .i64 _]] (by rfl) rfl rfl (by (try simp only [List.map_toArray, List.map_cons, List.map_nil]); first | done | rfl) ?_
  refine Calls.mono (by first | (with_reducible exact rmeet_is M1 _)) ?_
  rintro e w22 ⟨rfl, hb⟩
  refine ⟨_, rfl, ?_⟩
  have M1 := M.call hb
  clear M hS hb
  have M := M1
  clear M1
  refine hK.out _ _ M (fun hS => ?_)
  clear hK K
  refine norm_ (a' := ?_) ?_ ?_
  rotate_left
  · show Act.put _ (some 85) _ = _
    simp only [Act.put, List.setIfInBounds_toArray, List.set_cons_zero, List.set_cons_succ, i64_w, i32_w]
    rfl
  refine pure_ (i := 10) (N := (some 86)) (v := ?_) (a' := ?_) #[true, true, true, true, true, true, true, true, true, true, true, false, false, false, false, false] rfl rfl (by kernel_rfl) (fun _ _ _ h => h) (Or.inl ⟨by rfl, ?_⟩) ?_ ?_
  rotate_left
  · intro w'
    go_simp
    with_reducible rfl
  rotate_left
  · simp only [Act.put, List.setIfInBounds_toArray, List.set_cons_zero, List.set_cons_succ, i64_w, i32_w]
    rfl
  refine pure_ (i := 11) (N := (some 87)) (v := ?_) (a' := ?_) #[true, true, true, true, true, true, true, true, true, true, true, true, false, false, false, false] rfl rfl (by kernel_rfl) (fun _ _ _ h => h) (Or.inl ⟨by rfl, ?_⟩) ?_ ?_
  rotate_left
  · intro w'
    go_simp
    with_reducible rfl
  rotate_left
  · simp only [Act.put, List.setIfInBounds_toArray, List.set_cons_zero, List.set_cons_succ, i64_w, i32_w]
    rfl
  refine pure_ (i := 12) (N := (some 88)) (v := ?_) (a' := ?_) #[true, true, true, true, true, true, true, true, true, true, true, true, true, false, false, false] rfl rfl (by kernel_rfl) (fun _ _ _ h => h) (Or.inl ⟨by rfl, ?_⟩) ?_ ?_
  rotate_left
  · intro w'
    go_simp
    with_reducible rfl
  rotate_left
  · simp only [Act.put, List.setIfInBounds_toArray, List.set_cons_zero, List.set_cons_succ, i64_w, i32_w]
    rfl
  refine one_ (i := 13) (N := (some 89)) #[true, true, true, true, true, true, true, true, true, true, true, true, true, true, false, false] rfl rfl (by kernel_rfl) (by decide) (fun K hK => ?_)
  refine goes_ Try.func5 (by kernel_rfl) rfl #[] (by rfl) rfl rfl (by (try simp only [List.map_toArray, List.map_cons, List.map_nil]); first | done | rfl) ?_
  refine Calls.mono (by first | (with_reducible exact runs_is _)) ?_
  rintro e w23 ⟨rfl, hb⟩
  refine ⟨_, rfl, ?_⟩
  have M1 := M.call hb
  clear M hS hb
  have M := M1
  clear M1
  refine hK.out _ _ M (fun hS => ?_)
  clear hK K
  refine norm_ (a' := ?_) ?_ ?_
  rotate_left
  · show Act.put _ (some 89) _ = _
    simp only [Act.put, List.setIfInBounds_toArray, List.set_cons_zero, List.set_cons_succ, i64_w, i32_w]
    rfl
  refine pure_ (i := 14) (N := (some 90)) (v := ?_) (a' := ?_) #[true, true, true, true, true, true, true, true, true, true, true, true, true, true, true, false] rfl rfl (by kernel_rfl) (fun _ _ _ h => h) (Or.inl ⟨by rfl, ?_⟩) ?_ ?_
  rotate_left
  · intro w'
    go_simp
    with_reducible rfl
  rotate_left
  · simp only [Act.put, List.setIfInBounds_toArray, List.set_cons_zero, List.set_cons_succ, i64_w, i32_w]
    rfl
  refine pure_ (i := 15) (N := (some 8)) (v := ?_) (a' := ?_) #[true, true, true, true, true, true, true, true, true, true, true, true, true, true, true, true] rfl rfl (by kernel_rfl) (fun _ _ _ h => h) (Or.inl ⟨by rfl, ?_⟩) ?_ ?_
  rotate_left
  · intro w'
    go_simp
    with_reducible rfl
  rotate_left
  · simp only [Act.put, List.setIfInBounds_toArray, List.set_cons_zero, List.set_cons_succ, i64_w, i32_w]
    rfl
  refine done_ (by kernel_rfl) ?_
  try clear hS
  refine hK8 _ _ ?_
  clear hK8
  try clear K8
  refine wp_ret ?_
  (try simp only [Exit.inBlock, Exit.then])
  refine bodyPost_ret (res1 rfl (rv_tmp 8)) rfl ⟨?_, M.below⟩
  rfl
set_option maxHeartbeats 8000000 in
set_option maxRecDepth 100000 in
theorem wayTTG (w : World) {a1 b0 b1 c0 c1 n d0 d1 f0 f1 : Int} {hb same : Bool}
    (M1 : meetS ((1 : Int), a1) (b0, b1) = ((1 : Int), (0 : Int))) (M2 : meetS (b0, b1) ((1 : Int), a1) = ((1 : Int), (0 : Int))) (M3 : meetS ((1 : Int), (0 : Int)) (c0, c1) = (d0, d1)) (M4 : meetS (b0, b1) (c0, c1) = (f0, f1)) (M5 : meetS ((1 : Int), a1) (f0, f1) = (d0, d1))
    (H1 : (decide ((1 : Int) ≤ n) && decide (n ≤ (0 : Int))) = hb) (H2 : (decide ((1 : Int) ≤ n) && decide (n ≤ a1)) = true) (H3 : (decide (b0 ≤ n) && decide (n ≤ b1)) = hb)
    (E1 : decide ((0 : Int) < (1 : Int)) = true) (E2 : decide (a1 < (1 : Int)) = same) (Q : ¬ (0 : Int) = a1)
    (W1 : (decide ((0 : Int) < (1 : Int)) || (decide ((1 : Int) ≤ (1 : Int)) && decide ((0 : Int) ≤ a1))) = true) (W2 : (decide ((0 : Int) < (1 : Int)) || (decide (b0 ≤ (1 : Int)) && decide ((0 : Int) ≤ b1))) = true) (W3 : (decide (a1 < (1 : Int)) || (decide ((1 : Int) ≤ (1 : Int)) && decide (a1 ≤ a1))) = true)
    (W4 : (decide (a1 < (1 : Int)) || (decide (b0 ≤ (1 : Int)) && decide (a1 ≤ b1))) = same) :
    Calls Try.prog 10 #[sp (1 : Int) a1, sp b0 b1, sp c0 c1, .int .i64 n] w fun e w' => e = .returned (.bool true) ∧ Below w.heap.size w w' := by
  go_enter Try.func10, Try.ntmps10
  have M := Mem.start w
  refine wp_seq_k (fun K1 hK1 => ?_)
  refine wp_region_lit ?_
  refine ev_boxv M (N := 4) rfl rfl 23 _ rfl [_, _] rfl ?_
  intro g0 w1 M1
  clear M
  have M := M1
  clear M1
  refine ev_norm (a' := ?_) ?_ ?_
  rotate_left
  · simp only [Act.put, List.setIfInBounds_toArray, List.set_cons_zero, List.set_cons_succ, i64_w, i32_w]
    rfl
  refine ev_boxv M (N := 5) rfl rfl 23 _ rfl [_, _] rfl ?_
  intro g1 w2 M1
  clear M
  have M := M1
  clear M1
  refine ev_norm (a' := ?_) ?_ ?_
  rotate_left
  · simp only [Act.put, List.setIfInBounds_toArray, List.set_cons_zero, List.set_cons_succ, i64_w, i32_w]
    rfl
  refine ev_boxv M (N := 6) rfl rfl 23 _ rfl [_, _] rfl ?_
  intro g2 w3 M1
  clear M
  have M := M1
  clear M1
  refine ev_norm (a' := ?_) ?_ ?_
  rotate_left
  · simp only [Act.put, List.setIfInBounds_toArray, List.set_cons_zero, List.set_cons_succ, i64_w, i32_w]
    rfl
  refine ev_pure 8 (v := ?_) (a' := ?_) rfl rfl ?_ ?_ ?_
  rotate_left 2
  · intro w'
    go_simp
    with_reducible rfl
  · simp only [Act.put, List.setIfInBounds_toArray, List.set_cons_zero, List.set_cons_succ, i64_w, i32_w]
    rfl
  refine wpList_nil ?_
  refine hK1 _ _ ?_
  clear hK1
  try clear K1
  refine wp_seq_k (fun K2 hK2 => ?_)
  refine wp_region_lit ?_
  refine ev_load M 2 rfl (N := 11) rfl rfl 23 (.tmp 4) rfl 0 rfl [_, _] (by kernel_rfl) (by kernel_rfl) rfl ?_
  refine ev_norm (a' := ?_) ?_ ?_
  rotate_left
  · simp only [Act.put, List.setIfInBounds_toArray, List.set_cons_zero, List.set_cons_succ, i64_w, i32_w]
    rfl
  refine ev_load M 1 rfl (N := 12) rfl rfl 23 (.tmp 5) rfl 0 rfl [_, _] (by kernel_rfl) (by kernel_rfl) rfl ?_
  refine ev_norm (a' := ?_) ?_ ?_
  rotate_left
  · simp only [Act.put, List.setIfInBounds_toArray, List.set_cons_zero, List.set_cons_succ, i64_w, i32_w]
    rfl
  refine ev_call (some 13) rfl rfl Try.func20 (by kernel_rfl) rfl #[.agg #[.int .i64 _, .int .i64 _], .agg #[.int .i64 _, .int .i64 _]] rfl (by (try simp only [List.map_toArray, List.map_cons, List.map_nil]); first | done | rfl) (by first | (with_reducible exact meet_is M1 _) | (with_reducible exact meet_is M2 _) | (with_reducible exact meet_is M3 _) | (with_reducible exact meet_is M4 _) | (with_reducible exact meet_is M5 _)) rfl M ?_
  intro w4 M1
  clear M
  have M := M1
  clear M1
  refine ev_norm (a' := ?_) ?_ ?_
  rotate_left
  · simp only [Act.put, List.setIfInBounds_toArray, List.set_cons_zero, List.set_cons_succ, i64_w, i32_w]
    rfl
  refine ev_alloc M (N := 9) rfl rfl 23 rfl (.agg #[.int .i64 0, .int .i64 0]) (by kernel_rfl) [.int .i64 0, .int .i64 0] rfl ?_
  intro g3 w5 M1
  clear M
  have M := M1
  clear M1
  refine ev_norm (a' := ?_) ?_ ?_
  rotate_left
  · simp only [Act.put, List.setIfInBounds_toArray, List.set_cons_zero, List.set_cons_succ, i64_w, i32_w]
    rfl
  refine ev_store M 0 rfl rfl rfl 23 (.tmp 9) _ rfl 0 rfl [_, _] rfl (by kernel_rfl) rfl (Nat.le_of_ble_eq_true rfl) [_, _] rfl [_, _, _, _] rfl ?_
  intro w6 M1
  clear M
  have M := M1
  clear M1
  refine wpList_nil ?_
  refine hK2 _ _ ?_
  clear hK2
  try clear K2
  refine wp_seq_k (fun K3 hK3 => ?_)
  refine wp_seq_k (fun K4 hK4 => ?_)
  refine start_ (n := 30) (S := fun w' => Mem w w' _) (ds := []) #[false, false, false, false, false, false, false, false, false, false, false, false, false, false, false, false, false, false, false, false, false, false, false, false, false, false, false, false, false, false] (by kernel_rfl) rfl rfl M.drew (fun hS => ?_)
  clear M
  generalize World.drew _ = w7 at hS ⊢
  have M := hS
  refine pure_ (i := 1) (N := (some 15)) (v := ?_) (a' := ?_) #[false, true, false, false, false, false, false, false, false, false, false, false, false, false, false, false, false, false, false, false, false, false, false, false, false, false, false, false, false, false] rfl rfl (by kernel_rfl) (fun _ _ _ h => h) (Or.inl ⟨by rfl, ?_⟩) ?_ ?_
  rotate_left
  · intro w'
    go_simp
    with_reducible rfl
  rotate_left
  · simp only [Act.put, List.setIfInBounds_toArray, List.set_cons_zero, List.set_cons_succ, i64_w, i32_w]
    rfl
  refine pure_ (i := 4) (N := (some 18)) (v := ?_) (a' := ?_) #[false, true, false, false, true, false, false, false, false, false, false, false, false, false, false, false, false, false, false, false, false, false, false, false, false, false, false, false, false, false] rfl rfl (by kernel_rfl) (fun _ _ _ h => h) (Or.inl ⟨by rfl, ?_⟩) ?_ ?_
  rotate_left
  · intro w'
    go_simp
    with_reducible rfl
  rotate_left
  · simp only [Act.put, List.setIfInBounds_toArray, List.set_cons_zero, List.set_cons_succ, i64_w, i32_w]
    rfl
  refine take_ (i := 0) (N := (some 14)) (v := _) (a' := ?_) #[true, true, false, false, true, false, false, false, false, false, false, false, false, false, false, false, false, false, false, false, false, false, false, false, false, false, false, false, false, false] rfl rfl (by kernel_rfl) (fun _ _ _ h => h) (Or.inl ⟨by rfl, fun w' hM => op_load hM 0 rfl 23 (.tmp 9) rfl 0 rfl [_, _] (by kernel_rfl) (by kernel_rfl) rfl⟩) hS ?_ ?_
  rotate_left
  · simp only [Act.put, List.setIfInBounds_toArray, List.set_cons_zero, List.set_cons_succ, i64_w, i32_w]
    rfl
  refine take_ (i := 3) (N := (some 17)) (v := _) (a' := ?_) #[true, true, false, true, true, false, false, false, false, false, false, false, false, false, false, false, false, false, false, false, false, false, false, false, false, false, false, false, false, false] rfl rfl (by kernel_rfl) (fun _ _ _ h => h) (Or.inl ⟨by rfl, fun w' hM => op_load hM 3 rfl 23 (.tmp 4) rfl 0 rfl [_, _] (by kernel_rfl) (by kernel_rfl) rfl⟩) hS ?_ ?_
  rotate_left
  · simp only [Act.put, List.setIfInBounds_toArray, List.set_cons_zero, List.set_cons_succ, i64_w, i32_w]
    rfl
  refine one_ (i := 2) (N := (some 16)) #[true, true, true, true, true, false, false, false, false, false, false, false, false, false, false, false, false, false, false, false, false, false, false, false, false, false, false, false, false, false] rfl rfl (by kernel_rfl) (by decide) (fun K hK => ?_)
  refine goes_ Try.func25 (by kernel_rfl) rfl #[.agg #[.int .i64 _, .int .i64 _], .int .i64 _] (by rfl) rfl rfl (by (try simp only [List.map_toArray, List.map_cons, List.map_nil]); first | done | rfl) ?_
  refine Calls.mono (by first | (with_reducible exact has_is H1 _) | (with_reducible exact has_is H2 _) | (with_reducible exact has_is H3 _)) ?_
  rintro e w8 ⟨rfl, hb⟩
  refine ⟨_, rfl, ?_⟩
  have M1 := M.call hb
  clear M hS hb
  have M := M1
  clear M1
  refine hK.out _ _ M (fun hS => ?_)
  clear hK K
  refine norm_ (a' := ?_) ?_ ?_
  rotate_left
  · show Act.put _ (some 16) _ = _
    simp only [Act.put, List.setIfInBounds_toArray, List.set_cons_zero, List.set_cons_succ, i64_w, i32_w]
    rfl
  refine one_ (i := 5) (N := (some 19)) #[true, true, true, true, true, true, false, false, false, false, false, false, false, false, false, false, false, false, false, false, false, false, false, false, false, false, false, false, false, false] rfl rfl (by kernel_rfl) (by decide) (fun K hK => ?_)
  refine goes_ Try.func25 (by kernel_rfl) rfl #[.agg #[.int .i64 _, .int .i64 _], .int .i64 _] (by rfl) rfl rfl (by (try simp only [List.map_toArray, List.map_cons, List.map_nil]); first | done | rfl) ?_
  refine Calls.mono (by first | (with_reducible exact has_is H1 _) | (with_reducible exact has_is H2 _) | (with_reducible exact has_is H3 _)) ?_
  rintro e w9 ⟨rfl, hb⟩
  refine ⟨_, rfl, ?_⟩
  have M1 := M.call hb
  clear M hS hb
  have M := M1
  clear M1
  refine hK.out _ _ M (fun hS => ?_)
  clear hK K
  refine norm_ (a' := ?_) ?_ ?_
  rotate_left
  · show Act.put _ (some 19) _ = _
    simp only [Act.put, List.setIfInBounds_toArray, List.set_cons_zero, List.set_cons_succ, i64_w, i32_w]
    rfl
  refine pure_ (i := 6) (N := (some 20)) (v := ?_) (a' := ?_) #[true, true, true, true, true, true, true, false, false, false, false, false, false, false, false, false, false, false, false, false, false, false, false, false, false, false, false, false, false, false] rfl rfl (by kernel_rfl) (fun _ _ _ h => h) (Or.inl ⟨by rfl, ?_⟩) ?_ ?_
  rotate_left
  · intro w'
    go_simp
    with_reducible rfl
  rotate_left
  · simp only [Act.put, List.setIfInBounds_toArray, List.set_cons_zero, List.set_cons_succ, i64_w, i32_w]
    rfl
  refine pure_ (i := 8) (N := (some 22)) (v := ?_) (a' := ?_) #[true, true, true, true, true, true, true, false, true, false, false, false, false, false, false, false, false, false, false, false, false, false, false, false, false, false, false, false, false, false] rfl rfl (by kernel_rfl) (fun _ _ _ h => h) (Or.inl ⟨by rfl, ?_⟩) ?_ ?_
  rotate_left
  · intro w'
    go_simp
    with_reducible rfl
  rotate_left
  · simp only [Act.put, List.setIfInBounds_toArray, List.set_cons_zero, List.set_cons_succ, i64_w, i32_w]
    rfl
  refine take_ (i := 7) (N := (some 21)) (v := _) (a' := ?_) #[true, true, true, true, true, true, true, true, true, false, false, false, false, false, false, false, false, false, false, false, false, false, false, false, false, false, false, false, false, false] rfl rfl (by kernel_rfl) (fun _ _ _ h => h) (Or.inl ⟨by rfl, fun w' hM => op_load hM 2 rfl 23 (.tmp 5) rfl 0 rfl [_, _] (by kernel_rfl) (by kernel_rfl) rfl⟩) hS ?_ ?_
  rotate_left
  · simp only [Act.put, List.setIfInBounds_toArray, List.set_cons_zero, List.set_cons_succ, i64_w, i32_w]
    rfl
  refine one_ (i := 9) (N := (some 23)) #[true, true, true, true, true, true, true, true, true, true, false, false, false, false, false, false, false, false, false, false, false, false, false, false, false, false, false, false, false, false] rfl rfl (by kernel_rfl) (by decide) (fun K hK => ?_)
  refine goes_ Try.func25 (by kernel_rfl) rfl #[.agg #[.int .i64 _, .int .i64 _], .int .i64 _] (by rfl) rfl rfl (by (try simp only [List.map_toArray, List.map_cons, List.map_nil]); first | done | rfl) ?_
  refine Calls.mono (by first | (with_reducible exact has_is H1 _) | (with_reducible exact has_is H2 _) | (with_reducible exact has_is H3 _)) ?_
  rintro e w10 ⟨rfl, hb⟩
  refine ⟨_, rfl, ?_⟩
  have M1 := M.call hb
  clear M hS hb
  have M := M1
  clear M1
  refine hK.out _ _ M (fun hS => ?_)
  clear hK K
  refine norm_ (a' := ?_) ?_ ?_
  rotate_left
  · show Act.put _ (some 23) _ = _
    simp only [Act.put, List.setIfInBounds_toArray, List.set_cons_zero, List.set_cons_succ, i64_w, i32_w]
    rfl
  refine pure_ (i := 10) (N := (some 24)) (v := ?_) (a' := ?_) #[true, true, true, true, true, true, true, true, true, true, true, false, false, false, false, false, false, false, false, false, false, false, false, false, false, false, false, false, false, false] rfl rfl (by kernel_rfl) (fun _ _ _ h => h) (Or.inl ⟨by rfl, ?_⟩) ?_ ?_
  rotate_left
  · intro w'
    go_simp
    with_reducible rfl
  rotate_left
  · simp only [Act.put, List.setIfInBounds_toArray, List.set_cons_zero, List.set_cons_succ, i64_w, i32_w]
    rfl
  refine pure_ (i := 11) (N := (some 25)) (v := ?_) (a' := ?_) #[true, true, true, true, true, true, true, true, true, true, true, true, false, false, false, false, false, false, false, false, false, false, false, false, false, false, false, false, false, false] rfl rfl (by kernel_rfl) (fun _ _ _ h => h) (Or.inl ⟨by rfl, ?_⟩) ?_ ?_
  rotate_left
  · intro w'
    go_simp
    with_reducible rfl
  rotate_left
  · simp only [Act.put, List.setIfInBounds_toArray, List.set_cons_zero, List.set_cons_succ, i64_w, i32_w]
    rfl
  refine pure_ (i := 12) (N := (some 26)) (v := ?_) (a' := ?_) #[true, true, true, true, true, true, true, true, true, true, true, true, true, false, false, false, false, false, false, false, false, false, false, false, false, false, false, false, false, false] rfl rfl (by kernel_rfl) (fun _ _ _ h => h) (Or.inl ⟨by rfl, ?_⟩) ?_ ?_
  rotate_left
  · intro w'
    go_simp
    with_reducible rfl
  rotate_left
  · simp only [Act.put, List.setIfInBounds_toArray, List.set_cons_zero, List.set_cons_succ, i64_w, i32_w]
    rfl
  refine take_ (i := 13) (N := (some 27)) (v := _) (a' := ?_) #[true, true, true, true, true, true, true, true, true, true, true, true, true, true, false, false, false, false, false, false, false, false, false, false, false, false, false, false, false, false] rfl rfl (by kernel_rfl) (fun _ _ _ h => h) (Or.inl ⟨by rfl, fun w' hM => op_load hM 0 rfl 23 (.tmp 9) rfl 0 rfl [_, _] (by kernel_rfl) (by kernel_rfl) rfl⟩) hS ?_ ?_
  rotate_left
  · simp only [Act.put, List.setIfInBounds_toArray, List.set_cons_zero, List.set_cons_succ, i64_w, i32_w]
    rfl
  refine take_ (i := 14) (N := (some 28)) (v := _) (a' := ?_) #[true, true, true, true, true, true, true, true, true, true, true, true, true, true, true, false, false, false, false, false, false, false, false, false, false, false, false, false, false, false] rfl rfl (by kernel_rfl) (fun _ _ _ h => h) (Or.inl ⟨by rfl, fun w' hM => op_load hM 2 rfl 23 (.tmp 5) rfl 0 rfl [_, _] (by kernel_rfl) (by kernel_rfl) rfl⟩) hS ?_ ?_
  rotate_left
  · simp only [Act.put, List.setIfInBounds_toArray, List.set_cons_zero, List.set_cons_succ, i64_w, i32_w]
    rfl
  refine take_ (i := 15) (N := (some 29)) (v := _) (a' := ?_) #[true, true, true, true, true, true, true, true, true, true, true, true, true, true, true, true, false, false, false, false, false, false, false, false, false, false, false, false, false, false] rfl rfl (by kernel_rfl) (fun _ _ _ h => h) (Or.inl ⟨by rfl, fun w' hM => op_load hM 3 rfl 23 (.tmp 4) rfl 0 rfl [_, _] (by kernel_rfl) (by kernel_rfl) rfl⟩) hS ?_ ?_
  rotate_left
  · simp only [Act.put, List.setIfInBounds_toArray, List.set_cons_zero, List.set_cons_succ, i64_w, i32_w]
    rfl
  refine one_ (i := 16) (N := (some 30)) #[true, true, true, true, true, true, true, true, true, true, true, true, true, true, true, true, true, false, false, false, false, false, false, false, false, false, false, false, false, false] rfl rfl (by kernel_rfl) (by decide) (fun K hK => ?_)
  refine goes_ Try.func20 (by kernel_rfl) rfl #[.agg #[.int .i64 _, .int .i64 _], .agg #[.int .i64 _, .int .i64 _]] (by rfl) rfl rfl (by (try simp only [List.map_toArray, List.map_cons, List.map_nil]); first | done | rfl) ?_
  refine Calls.mono (by first | (with_reducible exact meet_is M1 _) | (with_reducible exact meet_is M2 _) | (with_reducible exact meet_is M3 _) | (with_reducible exact meet_is M4 _) | (with_reducible exact meet_is M5 _)) ?_
  rintro e w11 ⟨rfl, hb⟩
  refine ⟨_, rfl, ?_⟩
  have M1 := M.call hb
  clear M hS hb
  have M := M1
  clear M1
  refine hK.out _ _ M (fun hS => ?_)
  clear hK K
  refine norm_ (a' := ?_) ?_ ?_
  rotate_left
  · show Act.put _ (some 30) _ = _
    simp only [Act.put, List.setIfInBounds_toArray, List.set_cons_zero, List.set_cons_succ, i64_w, i32_w]
    rfl
  refine pure_ (i := 17) (N := (some 31)) (v := ?_) (a' := ?_) #[true, true, true, true, true, true, true, true, true, true, true, true, true, true, true, true, true, true, false, false, false, false, false, false, false, false, false, false, false, false] rfl rfl (by kernel_rfl) (fun _ _ _ h => h) (Or.inl ⟨by rfl, ?_⟩) ?_ ?_
  rotate_left
  · intro w'
    go_simp
    with_reducible rfl
  rotate_left
  · simp only [Act.put, List.setIfInBounds_toArray, List.set_cons_zero, List.set_cons_succ, i64_w, i32_w]
    rfl
  refine pure_ (i := 18) (N := (some 32)) (v := ?_) (a' := ?_) #[true, true, true, true, true, true, true, true, true, true, true, true, true, true, true, true, true, true, true, false, false, false, false, false, false, false, false, false, false, false] rfl rfl (by kernel_rfl) (fun _ _ _ h => h) (Or.inl ⟨by rfl, ?_⟩) ?_ ?_
  rotate_left
  · intro w'
    go_simp
    with_reducible rfl
  rotate_left
  · simp only [Act.put, List.setIfInBounds_toArray, List.set_cons_zero, List.set_cons_succ, i64_w, i32_w]
    rfl
  refine pure_ (i := 19) (N := (some 33)) (v := ?_) (a' := ?_) #[true, true, true, true, true, true, true, true, true, true, true, true, true, true, true, true, true, true, true, true, false, false, false, false, false, false, false, false, false, false] rfl rfl (by kernel_rfl) (fun _ _ _ h => h) (Or.inl ⟨by rfl, ?_⟩) ?_ ?_
  rotate_left
  · intro w'
    go_simp
    with_reducible rfl
  rotate_left
  · simp only [Act.put, List.setIfInBounds_toArray, List.set_cons_zero, List.set_cons_succ, i64_w, i32_w]
    rfl
  refine take_ (i := 20) (N := (some 34)) (v := _) (a' := ?_) #[true, true, true, true, true, true, true, true, true, true, true, true, true, true, true, true, true, true, true, true, true, false, false, false, false, false, false, false, false, false] rfl rfl (by kernel_rfl) (fun _ _ _ h => h) (Or.inl ⟨by rfl, fun w' hM => op_load hM 0 rfl 23 (.tmp 9) rfl 0 rfl [_, _] (by kernel_rfl) (by kernel_rfl) rfl⟩) hS ?_ ?_
  rotate_left
  · simp only [Act.put, List.setIfInBounds_toArray, List.set_cons_zero, List.set_cons_succ, i64_w, i32_w]
    rfl
  refine take_ (i := 21) (N := (some 35)) (v := _) (a' := ?_) #[true, true, true, true, true, true, true, true, true, true, true, true, true, true, true, true, true, true, true, true, true, true, false, false, false, false, false, false, false, false] rfl rfl (by kernel_rfl) (fun _ _ _ h => h) (Or.inl ⟨by rfl, fun w' hM => op_load hM 1 rfl 23 (.tmp 6) rfl 0 rfl [_, _] (by kernel_rfl) (by kernel_rfl) rfl⟩) hS ?_ ?_
  rotate_left
  · simp only [Act.put, List.setIfInBounds_toArray, List.set_cons_zero, List.set_cons_succ, i64_w, i32_w]
    rfl
  refine take_ (i := 23) (N := (some 37)) (v := _) (a' := ?_) #[true, true, true, true, true, true, true, true, true, true, true, true, true, true, true, true, true, true, true, true, true, true, false, true, false, false, false, false, false, false] rfl rfl (by kernel_rfl) (fun _ _ _ h => h) (Or.inl ⟨by rfl, fun w' hM => op_load hM 3 rfl 23 (.tmp 4) rfl 0 rfl [_, _] (by kernel_rfl) (by kernel_rfl) rfl⟩) hS ?_ ?_
  rotate_left
  · simp only [Act.put, List.setIfInBounds_toArray, List.set_cons_zero, List.set_cons_succ, i64_w, i32_w]
    rfl
  refine take_ (i := 24) (N := (some 38)) (v := _) (a' := ?_) #[true, true, true, true, true, true, true, true, true, true, true, true, true, true, true, true, true, true, true, true, true, true, false, true, true, false, false, false, false, false] rfl rfl (by kernel_rfl) (fun _ _ _ h => h) (Or.inl ⟨by rfl, fun w' hM => op_load hM 2 rfl 23 (.tmp 5) rfl 0 rfl [_, _] (by kernel_rfl) (by kernel_rfl) rfl⟩) hS ?_ ?_
  rotate_left
  · simp only [Act.put, List.setIfInBounds_toArray, List.set_cons_zero, List.set_cons_succ, i64_w, i32_w]
    rfl
  refine take_ (i := 25) (N := (some 39)) (v := _) (a' := ?_) #[true, true, true, true, true, true, true, true, true, true, true, true, true, true, true, true, true, true, true, true, true, true, false, true, true, true, false, false, false, false] rfl rfl (by kernel_rfl) (fun _ _ _ h => h) (Or.inl ⟨by rfl, fun w' hM => op_load hM 1 rfl 23 (.tmp 6) rfl 0 rfl [_, _] (by kernel_rfl) (by kernel_rfl) rfl⟩) hS ?_ ?_
  rotate_left
  · simp only [Act.put, List.setIfInBounds_toArray, List.set_cons_zero, List.set_cons_succ, i64_w, i32_w]
    rfl
  refine one_ (i := 22) (N := (some 36)) #[true, true, true, true, true, true, true, true, true, true, true, true, true, true, true, true, true, true, true, true, true, true, true, true, true, true, false, false, false, false] rfl rfl (by kernel_rfl) (by decide) (fun K hK => ?_)
  refine goes_ Try.func20 (by kernel_rfl) rfl #[.agg #[.int .i64 _, .int .i64 _], .agg #[.int .i64 _, .int .i64 _]] (by rfl) rfl rfl (by (try simp only [List.map_toArray, List.map_cons, List.map_nil]); first | done | rfl) ?_
  refine Calls.mono (by first | (with_reducible exact meet_is M1 _) | (with_reducible exact meet_is M2 _) | (with_reducible exact meet_is M3 _) | (with_reducible exact meet_is M4 _) | (with_reducible exact meet_is M5 _)) ?_
  rintro e w12 ⟨rfl, hb⟩
  refine ⟨_, rfl, ?_⟩
  have M1 := M.call hb
  clear M hS hb
  have M := M1
  clear M1
  refine hK.out _ _ M (fun hS => ?_)
  clear hK K
  refine norm_ (a' := ?_) ?_ ?_
  rotate_left
  · show Act.put _ (some 36) _ = _
    simp only [Act.put, List.setIfInBounds_toArray, List.set_cons_zero, List.set_cons_succ, i64_w, i32_w]
    rfl
  refine one_ (i := 26) (N := (some 40)) #[true, true, true, true, true, true, true, true, true, true, true, true, true, true, true, true, true, true, true, true, true, true, true, true, true, true, true, false, false, false] rfl rfl (by kernel_rfl) (by decide) (fun K hK => ?_)
  refine goes_ Try.func20 (by kernel_rfl) rfl #[.agg #[.int .i64 _, .int .i64 _], .agg #[.int .i64 _, .int .i64 _]] (by rfl) rfl rfl (by (try simp only [List.map_toArray, List.map_cons, List.map_nil]); first | done | rfl) ?_
  refine Calls.mono (by first | (with_reducible exact meet_is M1 _) | (with_reducible exact meet_is M2 _) | (with_reducible exact meet_is M3 _) | (with_reducible exact meet_is M4 _) | (with_reducible exact meet_is M5 _)) ?_
  rintro e w13 ⟨rfl, hb⟩
  refine ⟨_, rfl, ?_⟩
  have M1 := M.call hb
  clear M hS hb
  have M := M1
  clear M1
  refine hK.out _ _ M (fun hS => ?_)
  clear hK K
  refine norm_ (a' := ?_) ?_ ?_
  rotate_left
  · show Act.put _ (some 40) _ = _
    simp only [Act.put, List.setIfInBounds_toArray, List.set_cons_zero, List.set_cons_succ, i64_w, i32_w]
    rfl
  refine one_ (i := 27) (N := (some 41)) #[true, true, true, true, true, true, true, true, true, true, true, true, true, true, true, true, true, true, true, true, true, true, true, true, true, true, true, true, false, false] rfl rfl (by kernel_rfl) (by decide) (fun K hK => ?_)
  refine goes_ Try.func20 (by kernel_rfl) rfl #[.agg #[.int .i64 _, .int .i64 _], .agg #[.int .i64 _, .int .i64 _]] (by rfl) rfl rfl (by (try simp only [List.map_toArray, List.map_cons, List.map_nil]); first | done | rfl) ?_
  refine Calls.mono (by first | (with_reducible exact meet_is M1 _) | (with_reducible exact meet_is M2 _) | (with_reducible exact meet_is M3 _) | (with_reducible exact meet_is M4 _) | (with_reducible exact meet_is M5 _)) ?_
  rintro e w14 ⟨rfl, hb⟩
  refine ⟨_, rfl, ?_⟩
  have M1 := M.call hb
  clear M hS hb
  have M := M1
  clear M1
  refine hK.out _ _ M (fun hS => ?_)
  clear hK K
  refine norm_ (a' := ?_) ?_ ?_
  rotate_left
  · show Act.put _ (some 41) _ = _
    simp only [Act.put, List.setIfInBounds_toArray, List.set_cons_zero, List.set_cons_succ, i64_w, i32_w]
    rfl
  refine pure_ (i := 28) (N := (some 42)) (v := ?_) (a' := ?_) #[true, true, true, true, true, true, true, true, true, true, true, true, true, true, true, true, true, true, true, true, true, true, true, true, true, true, true, true, true, false] rfl rfl (by kernel_rfl) (fun _ _ _ h => h) (Or.inl ⟨by rfl, ?_⟩) ?_ ?_
  rotate_left
  · intro w'
    go_simp
    with_reducible rfl
  rotate_left
  · simp only [Act.put, List.setIfInBounds_toArray, List.set_cons_zero, List.set_cons_succ, i64_w, i32_w]
    rfl
  refine pure_ (i := 29) (N := (some 43)) (v := ?_) (a' := ?_) #[true, true, true, true, true, true, true, true, true, true, true, true, true, true, true, true, true, true, true, true, true, true, true, true, true, true, true, true, true, true] rfl rfl (by kernel_rfl) (fun _ _ _ h => h) (Or.inl ⟨by rfl, ?_⟩) ?_ ?_
  rotate_left
  · intro w'
    go_simp
    with_reducible rfl
  rotate_left
  · simp only [Act.put, List.setIfInBounds_toArray, List.set_cons_zero, List.set_cons_succ, i64_w, i32_w]
    rfl
  refine done_ (by kernel_rfl) ?_
  try clear hS
  refine hK4 _ _ ?_
  clear hK4
  try clear K4
  refine wp_cond_false rfl ?_
  refine wp_skip ?_
  refine hK3 _ _ ?_
  clear hK3
  try clear K3
  refine wp_seq_k (fun K5 hK5 => ?_)
  refine wp_seq_k (fun K6 hK6 => ?_)
  refine wp_region_lit ?_
  refine ev_load M 0 rfl (N := 44) rfl rfl 23 (.tmp 9) rfl 0 rfl [_, _] (by kernel_rfl) (by kernel_rfl) rfl ?_
  refine ev_norm (a' := ?_) ?_ ?_
  rotate_left
  · simp only [Act.put, List.setIfInBounds_toArray, List.set_cons_zero, List.set_cons_succ, i64_w, i32_w]
    rfl
  refine ev_call (some 45) rfl rfl Try.func23 (by kernel_rfl) rfl #[.agg #[.int .i64 _, .int .i64 _]] rfl (by (try simp only [List.map_toArray, List.map_cons, List.map_nil]); first | done | rfl) (by first | (with_reducible exact empty_is E1 _) | (with_reducible exact empty_is E2 _)) rfl M ?_
  intro w15 M1
  clear M
  have M := M1
  clear M1
  refine ev_norm (a' := ?_) ?_ ?_
  rotate_left
  · simp only [Act.put, List.setIfInBounds_toArray, List.set_cons_zero, List.set_cons_succ, i64_w, i32_w]
    rfl
  refine ev_pure 46 (v := ?_) (a' := ?_) rfl rfl ?_ ?_ ?_
  rotate_left 2
  · intro w'
    go_simp
    with_reducible rfl
  · simp only [Act.put, List.setIfInBounds_toArray, List.set_cons_zero, List.set_cons_succ, i64_w, i32_w]
    rfl
  refine ev_load M 0 rfl (N := 47) rfl rfl 23 (.tmp 9) rfl 0 rfl [_, _] (by kernel_rfl) (by kernel_rfl) rfl ?_
  refine ev_norm (a' := ?_) ?_ ?_
  rotate_left
  · simp only [Act.put, List.setIfInBounds_toArray, List.set_cons_zero, List.set_cons_succ, i64_w, i32_w]
    rfl
  refine ev_pure 48 (v := ?_) (a' := ?_) rfl rfl ?_ ?_ ?_
  rotate_left 2
  · intro w'
    go_simp
    with_reducible rfl
  · simp only [Act.put, List.setIfInBounds_toArray, List.set_cons_zero, List.set_cons_succ, i64_w, i32_w]
    rfl
  refine ev_pure 49 (v := ?_) (a' := ?_) rfl rfl ?_ ?_ ?_
  rotate_left 2
  · intro w'
    go_simp
    with_reducible rfl
  · simp only [Act.put, List.setIfInBounds_toArray, List.set_cons_zero, List.set_cons_succ, i64_w, i32_w]
    rfl
  refine ev_pure 50 (v := ?_) (a' := ?_) rfl rfl ?_ ?_ ?_
  rotate_left 2
  · intro w'
    go_simp
    with_reducible rfl
  · simp only [Act.put, List.setIfInBounds_toArray, List.set_cons_zero, List.set_cons_succ, i64_w, i32_w]
    rfl
  refine ev_pure 51 (v := ?_) (a' := ?_) rfl rfl ?_ ?_ ?_
  rotate_left 2
  · intro w'
    go_simp
    with_reducible rfl
  · simp only [Act.put, List.setIfInBounds_toArray, List.set_cons_zero, List.set_cons_succ, i64_w, i32_w]
    rfl
  refine ev_load M 0 rfl (N := 52) rfl rfl 23 (.tmp 9) rfl 0 rfl [_, _] (by kernel_rfl) (by kernel_rfl) rfl ?_
  refine ev_norm (a' := ?_) ?_ ?_
  rotate_left
  · simp only [Act.put, List.setIfInBounds_toArray, List.set_cons_zero, List.set_cons_succ, i64_w, i32_w]
    rfl
  refine ev_load M 3 rfl (N := 53) rfl rfl 23 (.tmp 4) rfl 0 rfl [_, _] (by kernel_rfl) (by kernel_rfl) rfl ?_
  refine ev_norm (a' := ?_) ?_ ?_
  rotate_left
  · simp only [Act.put, List.setIfInBounds_toArray, List.set_cons_zero, List.set_cons_succ, i64_w, i32_w]
    rfl
  refine ev_call (some 54) rfl rfl Try.func24 (by kernel_rfl) rfl #[.agg #[.int .i64 _, .int .i64 _], .agg #[.int .i64 _, .int .i64 _]] rfl (by (try simp only [List.map_toArray, List.map_cons, List.map_nil]); first | done | rfl) (by first | (with_reducible exact within_is W1 _) | (with_reducible exact within_is W2 _) | (with_reducible exact within_is W3 _) | (with_reducible exact within_is W4 _)) rfl M ?_
  intro w16 M1
  clear M
  have M := M1
  clear M1
  refine ev_norm (a' := ?_) ?_ ?_
  rotate_left
  · simp only [Act.put, List.setIfInBounds_toArray, List.set_cons_zero, List.set_cons_succ, i64_w, i32_w]
    rfl
  refine ev_pure 55 (v := ?_) (a' := ?_) rfl rfl ?_ ?_ ?_
  rotate_left 2
  · intro w'
    go_simp
    with_reducible rfl
  · simp only [Act.put, List.setIfInBounds_toArray, List.set_cons_zero, List.set_cons_succ, i64_w, i32_w]
    rfl
  refine ev_pure 56 (v := ?_) (a' := ?_) rfl rfl ?_ ?_ ?_
  rotate_left 2
  · intro w'
    go_simp
    with_reducible rfl
  · simp only [Act.put, List.setIfInBounds_toArray, List.set_cons_zero, List.set_cons_succ, i64_w, i32_w]
    rfl
  refine ev_pure 57 (v := ?_) (a' := ?_) rfl rfl ?_ ?_ ?_
  rotate_left 2
  · intro w'
    go_simp
    with_reducible rfl
  · simp only [Act.put, List.setIfInBounds_toArray, List.set_cons_zero, List.set_cons_succ, i64_w, i32_w]
    rfl
  refine ev_load M 0 rfl (N := 58) rfl rfl 23 (.tmp 9) rfl 0 rfl [_, _] (by kernel_rfl) (by kernel_rfl) rfl ?_
  refine ev_norm (a' := ?_) ?_ ?_
  rotate_left
  · simp only [Act.put, List.setIfInBounds_toArray, List.set_cons_zero, List.set_cons_succ, i64_w, i32_w]
    rfl
  refine ev_load M 2 rfl (N := 59) rfl rfl 23 (.tmp 5) rfl 0 rfl [_, _] (by kernel_rfl) (by kernel_rfl) rfl ?_
  refine ev_norm (a' := ?_) ?_ ?_
  rotate_left
  · simp only [Act.put, List.setIfInBounds_toArray, List.set_cons_zero, List.set_cons_succ, i64_w, i32_w]
    rfl
  refine ev_call (some 60) rfl rfl Try.func24 (by kernel_rfl) rfl #[.agg #[.int .i64 _, .int .i64 _], .agg #[.int .i64 _, .int .i64 _]] rfl (by (try simp only [List.map_toArray, List.map_cons, List.map_nil]); first | done | rfl) (by first | (with_reducible exact within_is W1 _) | (with_reducible exact within_is W2 _) | (with_reducible exact within_is W3 _) | (with_reducible exact within_is W4 _)) rfl M ?_
  intro w17 M1
  clear M
  have M := M1
  clear M1
  refine ev_norm (a' := ?_) ?_ ?_
  rotate_left
  · simp only [Act.put, List.setIfInBounds_toArray, List.set_cons_zero, List.set_cons_succ, i64_w, i32_w]
    rfl
  refine ev_pure 61 (v := ?_) (a' := ?_) rfl rfl ?_ ?_ ?_
  rotate_left 2
  · intro w'
    go_simp
    with_reducible rfl
  · simp only [Act.put, List.setIfInBounds_toArray, List.set_cons_zero, List.set_cons_succ, i64_w, i32_w]
    rfl
  refine ev_pure 62 (v := ?_) (a' := ?_) rfl rfl ?_ ?_ ?_
  rotate_left 2
  · intro w'
    go_simp
    with_reducible rfl
  · simp only [Act.put, List.setIfInBounds_toArray, List.set_cons_zero, List.set_cons_succ, i64_w, i32_w]
    rfl
  refine ev_pure 63 (v := ?_) (a' := ?_) rfl rfl ?_ ?_ ?_
  rotate_left 2
  · intro w'
    go_simp
    with_reducible rfl
  · simp only [Act.put, List.setIfInBounds_toArray, List.set_cons_zero, List.set_cons_succ, i64_w, i32_w]
    rfl
  refine ev_load M 3 rfl (N := 64) rfl rfl 23 (.tmp 4) rfl 0 rfl [_, _] (by kernel_rfl) (by kernel_rfl) rfl ?_
  refine ev_norm (a' := ?_) ?_ ?_
  rotate_left
  · simp only [Act.put, List.setIfInBounds_toArray, List.set_cons_zero, List.set_cons_succ, i64_w, i32_w]
    rfl
  refine ev_load M 3 rfl (N := 65) rfl rfl 23 (.tmp 4) rfl 0 rfl [_, _] (by kernel_rfl) (by kernel_rfl) rfl ?_
  refine ev_norm (a' := ?_) ?_ ?_
  rotate_left
  · simp only [Act.put, List.setIfInBounds_toArray, List.set_cons_zero, List.set_cons_succ, i64_w, i32_w]
    rfl
  refine ev_call (some 66) rfl rfl Try.func24 (by kernel_rfl) rfl #[.agg #[.int .i64 _, .int .i64 _], .agg #[.int .i64 _, .int .i64 _]] rfl (by (try simp only [List.map_toArray, List.map_cons, List.map_nil]); first | done | rfl) (by first | (with_reducible exact within_is W1 _) | (with_reducible exact within_is W2 _) | (with_reducible exact within_is W3 _) | (with_reducible exact within_is W4 _)) rfl M ?_
  intro w18 M1
  clear M
  have M := M1
  clear M1
  refine ev_norm (a' := ?_) ?_ ?_
  rotate_left
  · simp only [Act.put, List.setIfInBounds_toArray, List.set_cons_zero, List.set_cons_succ, i64_w, i32_w]
    rfl
  refine ev_pure 67 (v := ?_) (a' := ?_) rfl rfl ?_ ?_ ?_
  rotate_left 2
  · intro w'
    go_simp
    with_reducible rfl
  · simp only [Act.put, List.setIfInBounds_toArray, List.set_cons_zero, List.set_cons_succ, i64_w, i32_w]
    rfl
  refine ev_pure 68 (v := ?_) (a' := ?_) rfl rfl ?_ ?_ ?_
  rotate_left 2
  · intro w'
    go_simp
    with_reducible rfl
  · simp only [Act.put, List.setIfInBounds_toArray, List.set_cons_zero, List.set_cons_succ, i64_w, i32_w]
    rfl
  refine wpList_nil ?_
  refine hK6 _ _ ?_
  clear hK6
  try clear K6
  refine wp_cond_false rfl ?_
  refine wp_skip ?_
  refine hK5 _ _ ?_
  clear hK5
  try clear K5
  refine wp_seq_k (fun K7 hK7 => ?_)
  refine wp_region_lit ?_
  refine ev_load M 0 rfl (N := 69) rfl rfl 23 (.tmp 9) rfl 0 rfl [_, _] (by kernel_rfl) (by kernel_rfl) rfl ?_
  refine ev_norm (a' := ?_) ?_ ?_
  rotate_left
  · simp only [Act.put, List.setIfInBounds_toArray, List.set_cons_zero, List.set_cons_succ, i64_w, i32_w]
    rfl
  refine ev_load M 3 rfl (N := 70) rfl rfl 23 (.tmp 4) rfl 0 rfl [_, _] (by kernel_rfl) (by kernel_rfl) rfl ?_
  refine ev_norm (a' := ?_) ?_ ?_
  rotate_left
  · simp only [Act.put, List.setIfInBounds_toArray, List.set_cons_zero, List.set_cons_succ, i64_w, i32_w]
    rfl
  refine ev_pure 71 (v := ?_) (a' := ?_) rfl rfl ?_ ?_ ?_
  rotate_left 2
  · intro w'
    go_simp
    with_reducible rfl
  · simp only [Act.put, List.setIfInBounds_toArray, List.set_cons_zero, List.set_cons_succ, i64_w, i32_w]
    rfl
  refine ev_pure 72 (v := ?_) (a' := ?_) rfl rfl ?_ ?_ ?_
  rotate_left 2
  · intro w'
    go_simp
    with_reducible rfl
  · simp only [Act.put, List.setIfInBounds_toArray, List.set_cons_zero, List.set_cons_succ, i64_w, i32_w]
    rfl
  refine ev_load M 3 rfl (N := 73) rfl rfl 23 (.tmp 4) rfl 0 rfl [_, _] (by kernel_rfl) (by kernel_rfl) rfl ?_
  refine ev_norm (a' := ?_) ?_ ?_
  rotate_left
  · simp only [Act.put, List.setIfInBounds_toArray, List.set_cons_zero, List.set_cons_succ, i64_w, i32_w]
    rfl
  refine ev_call (some 74) rfl rfl Try.func23 (by kernel_rfl) rfl #[.agg #[.int .i64 _, .int .i64 _]] rfl (by (try simp only [List.map_toArray, List.map_cons, List.map_nil]); first | done | rfl) (by first | (with_reducible exact empty_is E1 _) | (with_reducible exact empty_is E2 _)) rfl M ?_
  intro w19 M1
  clear M
  have M := M1
  clear M1
  refine ev_norm (a' := ?_) ?_ ?_
  rotate_left
  · simp only [Act.put, List.setIfInBounds_toArray, List.set_cons_zero, List.set_cons_succ, i64_w, i32_w]
    rfl
  refine ev_pure 75 (v := ?_) (a' := ?_) rfl rfl ?_ ?_ ?_
  rotate_left 2
  · intro w'
    go_simp
    with_reducible rfl
  · simp only [Act.put, List.setIfInBounds_toArray, List.set_cons_zero, List.set_cons_succ, i64_w, i32_w]
    rfl
  refine ev_pure 10 (v := ?_) (a' := ?_) rfl rfl ?_ ?_ ?_
  rotate_left 2
  · intro w'
    go_simp
    with_reducible rfl
  · simp only [Act.put, List.setIfInBounds_toArray, List.set_cons_zero, List.set_cons_succ, i64_w, i32_w]
    rfl
  refine wpList_nil ?_
  refine hK7 _ _ ?_
  clear hK7
  try clear K7
  refine wp_seq_k (fun K8 hK8 => ?_)
  refine start_ (n := 16) (S := fun w' => Mem w w' _) (ds := []) #[false, false, false, false, false, false, false, false, false, false, false, false, false, false, false, false] (by kernel_rfl) rfl rfl M.drew (fun hS => ?_)
  clear M
  generalize World.drew _ = w20 at hS ⊢
  have M := hS
  refine pure_ (i := 3) (N := (some 79)) (v := ?_) (a' := ?_) #[false, false, false, true, false, false, false, false, false, false, false, false, false, false, false, false] rfl rfl (by kernel_rfl) (fun _ _ _ h => h) (Or.inl ⟨by rfl, ?_⟩) ?_ ?_
  rotate_left
  · intro w'
    go_simp
    with_reducible rfl
  rotate_left
  · simp only [Act.put, List.setIfInBounds_toArray, List.set_cons_zero, List.set_cons_succ, i64_w, i32_w]
    rfl
  refine take_ (i := 0) (N := (some 76)) (v := _) (a' := ?_) #[true, false, false, true, false, false, false, false, false, false, false, false, false, false, false, false] rfl rfl (by kernel_rfl) (fun _ _ _ h => h) (Or.inl ⟨by rfl, fun w' hM => op_load hM 3 rfl 23 (.tmp 4) rfl 0 rfl [_, _] (by kernel_rfl) (by kernel_rfl) rfl⟩) hS ?_ ?_
  rotate_left
  · simp only [Act.put, List.setIfInBounds_toArray, List.set_cons_zero, List.set_cons_succ, i64_w, i32_w]
    rfl
  refine take_ (i := 1) (N := (some 77)) (v := _) (a' := ?_) #[true, true, false, true, false, false, false, false, false, false, false, false, false, false, false, false] rfl rfl (by kernel_rfl) (fun _ _ _ h => h) (Or.inl ⟨by rfl, fun w' hM => op_load hM 2 rfl 23 (.tmp 5) rfl 0 rfl [_, _] (by kernel_rfl) (by kernel_rfl) rfl⟩) hS ?_ ?_
  rotate_left
  · simp only [Act.put, List.setIfInBounds_toArray, List.set_cons_zero, List.set_cons_succ, i64_w, i32_w]
    rfl
  refine one_ (i := 2) (N := (some 78)) #[true, true, true, true, false, false, false, false, false, false, false, false, false, false, false, false] rfl rfl (by kernel_rfl) (by decide) (fun K hK => ?_)
  refine goes_ Try.func24 (by kernel_rfl) rfl #[.agg #[.int .i64 _, .int .i64 _], .agg #[.int .i64 _, .int .i64 _]] (by rfl) rfl rfl (by (try simp only [List.map_toArray, List.map_cons, List.map_nil]); first | done | rfl) ?_
  refine Calls.mono (by first | (with_reducible exact within_is W1 _) | (with_reducible exact within_is W2 _) | (with_reducible exact within_is W3 _) | (with_reducible exact within_is W4 _)) ?_
  rintro e w21 ⟨rfl, hb⟩
  refine ⟨_, rfl, ?_⟩
  have M1 := M.call hb
  clear M hS hb
  have M := M1
  clear M1
  refine hK.out _ _ M (fun hS => ?_)
  clear hK K
  refine norm_ (a' := ?_) ?_ ?_
  rotate_left
  · show Act.put _ (some 78) _ = _
    simp only [Act.put, List.setIfInBounds_toArray, List.set_cons_zero, List.set_cons_succ, i64_w, i32_w]
    rfl
  refine pure_ (i := 4) (N := (some 80)) (v := ?_) (a' := ?_) #[true, true, true, true, true, false, false, false, false, false, false, false, false, false, false, false] rfl rfl (by kernel_rfl) (fun _ _ _ h => h) (Or.inl ⟨by rfl, ?_⟩) ?_ ?_
  rotate_left
  · intro w'
    go_simp
    with_reducible rfl
  rotate_left
  · simp only [Act.put, List.setIfInBounds_toArray, List.set_cons_zero, List.set_cons_succ, i64_w, i32_w]
    rfl
  refine pure_ (i := 5) (N := (some 81)) (v := ?_) (a' := ?_) #[true, true, true, true, true, true, false, false, false, false, false, false, false, false, false, false] rfl rfl (by kernel_rfl) (fun _ _ _ h => h) (Or.inl ⟨by rfl, ?_⟩) ?_ ?_
  rotate_left
  · intro w'
    go_simp
    with_reducible rfl
  rotate_left
  · simp only [Act.put, List.setIfInBounds_toArray, List.set_cons_zero, List.set_cons_succ, i64_w, i32_w]
    rfl
  refine take_ (i := 6) (N := (some 82)) (v := _) (a' := ?_) #[true, true, true, true, true, true, true, false, false, false, false, false, false, false, false, false] rfl rfl (by kernel_rfl) (fun _ _ _ h => h) (Or.inl ⟨by rfl, fun w' hM => op_load hM 0 rfl 23 (.tmp 9) rfl 0 rfl [_, _] (by kernel_rfl) (by kernel_rfl) rfl⟩) hS ?_ ?_
  rotate_left
  · simp only [Act.put, List.setIfInBounds_toArray, List.set_cons_zero, List.set_cons_succ, i64_w, i32_w]
    rfl
  refine take_ (i := 7) (N := (some 83)) (v := _) (a' := ?_) #[true, true, true, true, true, true, true, true, false, false, false, false, false, false, false, false] rfl rfl (by kernel_rfl) (fun _ _ _ h => h) (Or.inl ⟨by rfl, fun w' hM => op_load hM 3 rfl 23 (.tmp 4) rfl 0 rfl [_, _] (by kernel_rfl) (by kernel_rfl) rfl⟩) hS ?_ ?_
  rotate_left
  · simp only [Act.put, List.setIfInBounds_toArray, List.set_cons_zero, List.set_cons_succ, i64_w, i32_w]
    rfl
  refine take_ (i := 8) (N := (some 84)) (v := _) (a' := ?_) #[true, true, true, true, true, true, true, true, true, false, false, false, false, false, false, false] rfl rfl (by kernel_rfl) (fun _ _ _ h => h) (Or.inl ⟨by rfl, fun w' hM => op_load hM 2 rfl 23 (.tmp 5) rfl 0 rfl [_, _] (by kernel_rfl) (by kernel_rfl) rfl⟩) hS ?_ ?_
  rotate_left
  · simp only [Act.put, List.setIfInBounds_toArray, List.set_cons_zero, List.set_cons_succ, i64_w, i32_w]
    rfl
  refine one_ (i := 9) (N := (some 85)) #[true, true, true, true, true, true, true, true, true, true, false, false, false, false, false, false] rfl rfl (by kernel_rfl) (by decide) (fun K hK => ?_)
  refine goes_ Try.func26 (by kernel_rfl) rfl #[.agg #[.int .i64 _, .int .i64 _], .agg #[.int .i64 _, .int .i64 _]] (by rfl) rfl rfl (by (try simp only [List.map_toArray, List.map_cons, List.map_nil]); first | done | rfl) ?_
  refine Calls.mono (by first | (with_reducible exact rmeet_is M1 _)) ?_
  rintro e w22 ⟨rfl, hb⟩
  refine ⟨_, rfl, ?_⟩
  have M1 := M.call hb
  clear M hS hb
  have M := M1
  clear M1
  refine hK.out _ _ M (fun hS => ?_)
  clear hK K
  refine norm_ (a' := ?_) ?_ ?_
  rotate_left
  · show Act.put _ (some 85) _ = _
    simp only [Act.put, List.setIfInBounds_toArray, List.set_cons_zero, List.set_cons_succ, i64_w, i32_w]
    rfl
  refine pure_ (i := 10) (N := (some 86)) (v := ?_) (a' := ?_) #[true, true, true, true, true, true, true, true, true, true, true, false, false, false, false, false] rfl rfl (by kernel_rfl) (fun _ _ _ h => h) (Or.inl ⟨by rfl, ?_⟩) ?_ ?_
  rotate_left
  · intro w'
    go_simp
    with_reducible rfl
  rotate_left
  · simp only [Act.put, List.setIfInBounds_toArray, List.set_cons_zero, List.set_cons_succ, i64_w, i32_w]
    rfl
  refine pure_ (i := 11) (N := (some 87)) (v := ?_) (a' := ?_) #[true, true, true, true, true, true, true, true, true, true, true, true, false, false, false, false] rfl rfl (by kernel_rfl) (fun _ _ _ h => h) (Or.inl ⟨by rfl, ?_⟩) ?_ ?_
  rotate_left
  · intro w'
    go_simp
    with_reducible rfl
  rotate_left
  · simp only [Act.put, List.setIfInBounds_toArray, List.set_cons_zero, List.set_cons_succ, i64_w, i32_w]
    rfl
  refine pure_ (i := 12) (N := (some 88)) (v := ?_) (a' := ?_) #[true, true, true, true, true, true, true, true, true, true, true, true, true, false, false, false] rfl rfl (by kernel_rfl) (fun _ _ _ h => h) (Or.inl ⟨by rfl, ?_⟩) ?_ ?_
  rotate_left
  · intro w'
    go_simp
    with_reducible rfl
  rotate_left
  · simp only [Act.put, List.setIfInBounds_toArray, List.set_cons_zero, List.set_cons_succ, i64_w, i32_w]
    rfl
  refine one_ (i := 13) (N := (some 89)) #[true, true, true, true, true, true, true, true, true, true, true, true, true, true, false, false] rfl rfl (by kernel_rfl) (by decide) (fun K hK => ?_)
  refine goes_ Try.func5 (by kernel_rfl) rfl #[] (by rfl) rfl rfl (by (try simp only [List.map_toArray, List.map_cons, List.map_nil]); first | done | rfl) ?_
  refine Calls.mono (by first | (with_reducible exact runs_is _)) ?_
  rintro e w23 ⟨rfl, hb⟩
  refine ⟨_, rfl, ?_⟩
  have M1 := M.call hb
  clear M hS hb
  have M := M1
  clear M1
  refine hK.out _ _ M (fun hS => ?_)
  clear hK K
  refine norm_ (a' := ?_) ?_ ?_
  rotate_left
  · show Act.put _ (some 89) _ = _
    simp only [Act.put, List.setIfInBounds_toArray, List.set_cons_zero, List.set_cons_succ, i64_w, i32_w]
    rfl
  refine pure_ (i := 14) (N := (some 90)) (v := ?_) (a' := ?_) #[true, true, true, true, true, true, true, true, true, true, true, true, true, true, true, false] rfl rfl (by kernel_rfl) (fun _ _ _ h => h) (Or.inl ⟨by rfl, ?_⟩) ?_ ?_
  rotate_left
  · intro w'
    go_simp
    with_reducible rfl
  rotate_left
  · simp only [Act.put, List.setIfInBounds_toArray, List.set_cons_zero, List.set_cons_succ, i64_w, i32_w]
    rfl
  refine pure_ (i := 15) (N := (some 8)) (v := ?_) (a' := ?_) #[true, true, true, true, true, true, true, true, true, true, true, true, true, true, true, true] rfl rfl (by kernel_rfl) (fun _ _ _ h => h) (Or.inl ⟨by rfl, ?_⟩) ?_ ?_
  rotate_left
  · intro w'
    go_simp
    with_reducible rfl
  rotate_left
  · simp only [Act.put, List.setIfInBounds_toArray, List.set_cons_zero, List.set_cons_succ, i64_w, i32_w]
    rfl
  refine done_ (by kernel_rfl) ?_
  try clear hS
  refine hK8 _ _ ?_
  clear hK8
  try clear K8
  refine wp_ret ?_
  (try simp only [Exit.inBlock, Exit.then])
  refine bodyPost_ret (res1 rfl (rv_tmp 8)) rfl ⟨?_, M.below⟩
  rfl
set_option maxHeartbeats 8000000 in
set_option maxRecDepth 100000 in
theorem wayTFT (w : World) {m0 m1 b0 b1 c0 c1 n d0 d1 f0 f1 : Int} {same : Bool}
    (M1 : meetS (m0, m1) (b0, b1) = (m0, m1)) (M2 : meetS (b0, b1) (m0, m1) = (m0, m1)) (M3 : meetS (m0, m1) (c0, c1) = (d0, d1)) (M4 : meetS (b0, b1) (c0, c1) = (f0, f1)) (M5 : meetS (m0, m1) (f0, f1) = (d0, d1))
    (H1 : (decide (m0 ≤ n) && decide (n ≤ m1)) = true) (H2 : (decide (m0 ≤ n) && decide (n ≤ m1)) = true) (H3 : (decide (b0 ≤ n) && decide (n ≤ b1)) = true)
    (E1 : decide (m1 < m0) = false) (E2 : decide (m1 < m0) = same) (Q : True)
    (W1 : (decide (m1 < m0) || (decide (m0 ≤ m0) && decide (m1 ≤ m1))) = true) (W2 : (decide (m1 < m0) || (decide (b0 ≤ m0) && decide (m1 ≤ b1))) = true) (W3 : (decide (m1 < m0) || (decide (m0 ≤ m0) && decide (m1 ≤ m1))) = true)
    (W4 : (decide (m1 < m0) || (decide (b0 ≤ m0) && decide (m1 ≤ b1))) = true) :
    Calls Try.prog 10 #[sp m0 m1, sp b0 b1, sp c0 c1, .int .i64 n] w fun e w' => e = .returned (.bool true) ∧ Below w.heap.size w w' := by
  go_enter Try.func10, Try.ntmps10
  have M := Mem.start w
  refine wp_seq_k (fun K1 hK1 => ?_)
  refine wp_region_lit ?_
  refine ev_boxv M (N := 4) rfl rfl 23 _ rfl [_, _] rfl ?_
  intro g0 w1 M1
  clear M
  have M := M1
  clear M1
  refine ev_norm (a' := ?_) ?_ ?_
  rotate_left
  · simp only [Act.put, List.setIfInBounds_toArray, List.set_cons_zero, List.set_cons_succ, i64_w, i32_w]
    rfl
  refine ev_boxv M (N := 5) rfl rfl 23 _ rfl [_, _] rfl ?_
  intro g1 w2 M1
  clear M
  have M := M1
  clear M1
  refine ev_norm (a' := ?_) ?_ ?_
  rotate_left
  · simp only [Act.put, List.setIfInBounds_toArray, List.set_cons_zero, List.set_cons_succ, i64_w, i32_w]
    rfl
  refine ev_boxv M (N := 6) rfl rfl 23 _ rfl [_, _] rfl ?_
  intro g2 w3 M1
  clear M
  have M := M1
  clear M1
  refine ev_norm (a' := ?_) ?_ ?_
  rotate_left
  · simp only [Act.put, List.setIfInBounds_toArray, List.set_cons_zero, List.set_cons_succ, i64_w, i32_w]
    rfl
  refine ev_pure 8 (v := ?_) (a' := ?_) rfl rfl ?_ ?_ ?_
  rotate_left 2
  · intro w'
    go_simp
    with_reducible rfl
  · simp only [Act.put, List.setIfInBounds_toArray, List.set_cons_zero, List.set_cons_succ, i64_w, i32_w]
    rfl
  refine wpList_nil ?_
  refine hK1 _ _ ?_
  clear hK1
  try clear K1
  refine wp_seq_k (fun K2 hK2 => ?_)
  refine wp_region_lit ?_
  refine ev_load M 2 rfl (N := 11) rfl rfl 23 (.tmp 4) rfl 0 rfl [_, _] (by kernel_rfl) (by kernel_rfl) rfl ?_
  refine ev_norm (a' := ?_) ?_ ?_
  rotate_left
  · simp only [Act.put, List.setIfInBounds_toArray, List.set_cons_zero, List.set_cons_succ, i64_w, i32_w]
    rfl
  refine ev_load M 1 rfl (N := 12) rfl rfl 23 (.tmp 5) rfl 0 rfl [_, _] (by kernel_rfl) (by kernel_rfl) rfl ?_
  refine ev_norm (a' := ?_) ?_ ?_
  rotate_left
  · simp only [Act.put, List.setIfInBounds_toArray, List.set_cons_zero, List.set_cons_succ, i64_w, i32_w]
    rfl
  refine ev_call (some 13) rfl rfl Try.func20 (by kernel_rfl) rfl #[.agg #[.int .i64 _, .int .i64 _], .agg #[.int .i64 _, .int .i64 _]] rfl (by (try simp only [List.map_toArray, List.map_cons, List.map_nil]); first | done | rfl) (by first | (with_reducible exact meet_is M1 _) | (with_reducible exact meet_is M2 _) | (with_reducible exact meet_is M3 _) | (with_reducible exact meet_is M4 _) | (with_reducible exact meet_is M5 _)) rfl M ?_
  intro w4 M1
  clear M
  have M := M1
  clear M1
  refine ev_norm (a' := ?_) ?_ ?_
  rotate_left
  · simp only [Act.put, List.setIfInBounds_toArray, List.set_cons_zero, List.set_cons_succ, i64_w, i32_w]
    rfl
  refine ev_alloc M (N := 9) rfl rfl 23 rfl (.agg #[.int .i64 0, .int .i64 0]) (by kernel_rfl) [.int .i64 0, .int .i64 0] rfl ?_
  intro g3 w5 M1
  clear M
  have M := M1
  clear M1
  refine ev_norm (a' := ?_) ?_ ?_
  rotate_left
  · simp only [Act.put, List.setIfInBounds_toArray, List.set_cons_zero, List.set_cons_succ, i64_w, i32_w]
    rfl
  refine ev_store M 0 rfl rfl rfl 23 (.tmp 9) _ rfl 0 rfl [_, _] rfl (by kernel_rfl) rfl (Nat.le_of_ble_eq_true rfl) [_, _] rfl [_, _, _, _] rfl ?_
  intro w6 M1
  clear M
  have M := M1
  clear M1
  refine wpList_nil ?_
  refine hK2 _ _ ?_
  clear hK2
  try clear K2
  refine wp_seq_k (fun K3 hK3 => ?_)
  refine wp_seq_k (fun K4 hK4 => ?_)
  refine start_ (n := 30) (S := fun w' => Mem w w' _) (ds := []) #[false, false, false, false, false, false, false, false, false, false, false, false, false, false, false, false, false, false, false, false, false, false, false, false, false, false, false, false, false, false] (by kernel_rfl) rfl rfl M.drew (fun hS => ?_)
  clear M
  generalize World.drew _ = w7 at hS ⊢
  have M := hS
  refine pure_ (i := 1) (N := (some 15)) (v := ?_) (a' := ?_) #[false, true, false, false, false, false, false, false, false, false, false, false, false, false, false, false, false, false, false, false, false, false, false, false, false, false, false, false, false, false] rfl rfl (by kernel_rfl) (fun _ _ _ h => h) (Or.inl ⟨by rfl, ?_⟩) ?_ ?_
  rotate_left
  · intro w'
    go_simp
    with_reducible rfl
  rotate_left
  · simp only [Act.put, List.setIfInBounds_toArray, List.set_cons_zero, List.set_cons_succ, i64_w, i32_w]
    rfl
  refine pure_ (i := 4) (N := (some 18)) (v := ?_) (a' := ?_) #[false, true, false, false, true, false, false, false, false, false, false, false, false, false, false, false, false, false, false, false, false, false, false, false, false, false, false, false, false, false] rfl rfl (by kernel_rfl) (fun _ _ _ h => h) (Or.inl ⟨by rfl, ?_⟩) ?_ ?_
  rotate_left
  · intro w'
    go_simp
    with_reducible rfl
  rotate_left
  · simp only [Act.put, List.setIfInBounds_toArray, List.set_cons_zero, List.set_cons_succ, i64_w, i32_w]
    rfl
  refine take_ (i := 0) (N := (some 14)) (v := _) (a' := ?_) #[true, true, false, false, true, false, false, false, false, false, false, false, false, false, false, false, false, false, false, false, false, false, false, false, false, false, false, false, false, false] rfl rfl (by kernel_rfl) (fun _ _ _ h => h) (Or.inl ⟨by rfl, fun w' hM => op_load hM 0 rfl 23 (.tmp 9) rfl 0 rfl [_, _] (by kernel_rfl) (by kernel_rfl) rfl⟩) hS ?_ ?_
  rotate_left
  · simp only [Act.put, List.setIfInBounds_toArray, List.set_cons_zero, List.set_cons_succ, i64_w, i32_w]
    rfl
  refine take_ (i := 3) (N := (some 17)) (v := _) (a' := ?_) #[true, true, false, true, true, false, false, false, false, false, false, false, false, false, false, false, false, false, false, false, false, false, false, false, false, false, false, false, false, false] rfl rfl (by kernel_rfl) (fun _ _ _ h => h) (Or.inl ⟨by rfl, fun w' hM => op_load hM 3 rfl 23 (.tmp 4) rfl 0 rfl [_, _] (by kernel_rfl) (by kernel_rfl) rfl⟩) hS ?_ ?_
  rotate_left
  · simp only [Act.put, List.setIfInBounds_toArray, List.set_cons_zero, List.set_cons_succ, i64_w, i32_w]
    rfl
  refine one_ (i := 2) (N := (some 16)) #[true, true, true, true, true, false, false, false, false, false, false, false, false, false, false, false, false, false, false, false, false, false, false, false, false, false, false, false, false, false] rfl rfl (by kernel_rfl) (by decide) (fun K hK => ?_)
  refine goes_ Try.func25 (by kernel_rfl) rfl #[.agg #[.int .i64 _, .int .i64 _], .int .i64 _] (by rfl) rfl rfl (by (try simp only [List.map_toArray, List.map_cons, List.map_nil]); first | done | rfl) ?_
  refine Calls.mono (by first | (with_reducible exact has_is H1 _) | (with_reducible exact has_is H2 _) | (with_reducible exact has_is H3 _)) ?_
  rintro e w8 ⟨rfl, hb⟩
  refine ⟨_, rfl, ?_⟩
  have M1 := M.call hb
  clear M hS hb
  have M := M1
  clear M1
  refine hK.out _ _ M (fun hS => ?_)
  clear hK K
  refine norm_ (a' := ?_) ?_ ?_
  rotate_left
  · show Act.put _ (some 16) _ = _
    simp only [Act.put, List.setIfInBounds_toArray, List.set_cons_zero, List.set_cons_succ, i64_w, i32_w]
    rfl
  refine one_ (i := 5) (N := (some 19)) #[true, true, true, true, true, true, false, false, false, false, false, false, false, false, false, false, false, false, false, false, false, false, false, false, false, false, false, false, false, false] rfl rfl (by kernel_rfl) (by decide) (fun K hK => ?_)
  refine goes_ Try.func25 (by kernel_rfl) rfl #[.agg #[.int .i64 _, .int .i64 _], .int .i64 _] (by rfl) rfl rfl (by (try simp only [List.map_toArray, List.map_cons, List.map_nil]); first | done | rfl) ?_
  refine Calls.mono (by first | (with_reducible exact has_is H1 _) | (with_reducible exact has_is H2 _) | (with_reducible exact has_is H3 _)) ?_
  rintro e w9 ⟨rfl, hb⟩
  refine ⟨_, rfl, ?_⟩
  have M1 := M.call hb
  clear M hS hb
  have M := M1
  clear M1
  refine hK.out _ _ M (fun hS => ?_)
  clear hK K
  refine norm_ (a' := ?_) ?_ ?_
  rotate_left
  · show Act.put _ (some 19) _ = _
    simp only [Act.put, List.setIfInBounds_toArray, List.set_cons_zero, List.set_cons_succ, i64_w, i32_w]
    rfl
  refine pure_ (i := 6) (N := (some 20)) (v := ?_) (a' := ?_) #[true, true, true, true, true, true, true, false, false, false, false, false, false, false, false, false, false, false, false, false, false, false, false, false, false, false, false, false, false, false] rfl rfl (by kernel_rfl) (fun _ _ _ h => h) (Or.inl ⟨by rfl, ?_⟩) ?_ ?_
  rotate_left
  · intro w'
    go_simp
    with_reducible rfl
  rotate_left
  · simp only [Act.put, List.setIfInBounds_toArray, List.set_cons_zero, List.set_cons_succ, i64_w, i32_w]
    rfl
  refine pure_ (i := 8) (N := (some 22)) (v := ?_) (a' := ?_) #[true, true, true, true, true, true, true, false, true, false, false, false, false, false, false, false, false, false, false, false, false, false, false, false, false, false, false, false, false, false] rfl rfl (by kernel_rfl) (fun _ _ _ h => h) (Or.inl ⟨by rfl, ?_⟩) ?_ ?_
  rotate_left
  · intro w'
    go_simp
    with_reducible rfl
  rotate_left
  · simp only [Act.put, List.setIfInBounds_toArray, List.set_cons_zero, List.set_cons_succ, i64_w, i32_w]
    rfl
  refine take_ (i := 7) (N := (some 21)) (v := _) (a' := ?_) #[true, true, true, true, true, true, true, true, true, false, false, false, false, false, false, false, false, false, false, false, false, false, false, false, false, false, false, false, false, false] rfl rfl (by kernel_rfl) (fun _ _ _ h => h) (Or.inl ⟨by rfl, fun w' hM => op_load hM 2 rfl 23 (.tmp 5) rfl 0 rfl [_, _] (by kernel_rfl) (by kernel_rfl) rfl⟩) hS ?_ ?_
  rotate_left
  · simp only [Act.put, List.setIfInBounds_toArray, List.set_cons_zero, List.set_cons_succ, i64_w, i32_w]
    rfl
  refine one_ (i := 9) (N := (some 23)) #[true, true, true, true, true, true, true, true, true, true, false, false, false, false, false, false, false, false, false, false, false, false, false, false, false, false, false, false, false, false] rfl rfl (by kernel_rfl) (by decide) (fun K hK => ?_)
  refine goes_ Try.func25 (by kernel_rfl) rfl #[.agg #[.int .i64 _, .int .i64 _], .int .i64 _] (by rfl) rfl rfl (by (try simp only [List.map_toArray, List.map_cons, List.map_nil]); first | done | rfl) ?_
  refine Calls.mono (by first | (with_reducible exact has_is H1 _) | (with_reducible exact has_is H2 _) | (with_reducible exact has_is H3 _)) ?_
  rintro e w10 ⟨rfl, hb⟩
  refine ⟨_, rfl, ?_⟩
  have M1 := M.call hb
  clear M hS hb
  have M := M1
  clear M1
  refine hK.out _ _ M (fun hS => ?_)
  clear hK K
  refine norm_ (a' := ?_) ?_ ?_
  rotate_left
  · show Act.put _ (some 23) _ = _
    simp only [Act.put, List.setIfInBounds_toArray, List.set_cons_zero, List.set_cons_succ, i64_w, i32_w]
    rfl
  refine pure_ (i := 10) (N := (some 24)) (v := ?_) (a' := ?_) #[true, true, true, true, true, true, true, true, true, true, true, false, false, false, false, false, false, false, false, false, false, false, false, false, false, false, false, false, false, false] rfl rfl (by kernel_rfl) (fun _ _ _ h => h) (Or.inl ⟨by rfl, ?_⟩) ?_ ?_
  rotate_left
  · intro w'
    go_simp
    with_reducible rfl
  rotate_left
  · simp only [Act.put, List.setIfInBounds_toArray, List.set_cons_zero, List.set_cons_succ, i64_w, i32_w]
    rfl
  refine pure_ (i := 11) (N := (some 25)) (v := ?_) (a' := ?_) #[true, true, true, true, true, true, true, true, true, true, true, true, false, false, false, false, false, false, false, false, false, false, false, false, false, false, false, false, false, false] rfl rfl (by kernel_rfl) (fun _ _ _ h => h) (Or.inl ⟨by rfl, ?_⟩) ?_ ?_
  rotate_left
  · intro w'
    go_simp
    with_reducible rfl
  rotate_left
  · simp only [Act.put, List.setIfInBounds_toArray, List.set_cons_zero, List.set_cons_succ, i64_w, i32_w]
    rfl
  refine pure_ (i := 12) (N := (some 26)) (v := ?_) (a' := ?_) #[true, true, true, true, true, true, true, true, true, true, true, true, true, false, false, false, false, false, false, false, false, false, false, false, false, false, false, false, false, false] rfl rfl (by kernel_rfl) (fun _ _ _ h => h) (Or.inl ⟨by rfl, ?_⟩) ?_ ?_
  rotate_left
  · intro w'
    go_simp
    with_reducible rfl
  rotate_left
  · simp only [Act.put, List.setIfInBounds_toArray, List.set_cons_zero, List.set_cons_succ, i64_w, i32_w]
    rfl
  refine take_ (i := 13) (N := (some 27)) (v := _) (a' := ?_) #[true, true, true, true, true, true, true, true, true, true, true, true, true, true, false, false, false, false, false, false, false, false, false, false, false, false, false, false, false, false] rfl rfl (by kernel_rfl) (fun _ _ _ h => h) (Or.inl ⟨by rfl, fun w' hM => op_load hM 0 rfl 23 (.tmp 9) rfl 0 rfl [_, _] (by kernel_rfl) (by kernel_rfl) rfl⟩) hS ?_ ?_
  rotate_left
  · simp only [Act.put, List.setIfInBounds_toArray, List.set_cons_zero, List.set_cons_succ, i64_w, i32_w]
    rfl
  refine take_ (i := 14) (N := (some 28)) (v := _) (a' := ?_) #[true, true, true, true, true, true, true, true, true, true, true, true, true, true, true, false, false, false, false, false, false, false, false, false, false, false, false, false, false, false] rfl rfl (by kernel_rfl) (fun _ _ _ h => h) (Or.inl ⟨by rfl, fun w' hM => op_load hM 2 rfl 23 (.tmp 5) rfl 0 rfl [_, _] (by kernel_rfl) (by kernel_rfl) rfl⟩) hS ?_ ?_
  rotate_left
  · simp only [Act.put, List.setIfInBounds_toArray, List.set_cons_zero, List.set_cons_succ, i64_w, i32_w]
    rfl
  refine take_ (i := 15) (N := (some 29)) (v := _) (a' := ?_) #[true, true, true, true, true, true, true, true, true, true, true, true, true, true, true, true, false, false, false, false, false, false, false, false, false, false, false, false, false, false] rfl rfl (by kernel_rfl) (fun _ _ _ h => h) (Or.inl ⟨by rfl, fun w' hM => op_load hM 3 rfl 23 (.tmp 4) rfl 0 rfl [_, _] (by kernel_rfl) (by kernel_rfl) rfl⟩) hS ?_ ?_
  rotate_left
  · simp only [Act.put, List.setIfInBounds_toArray, List.set_cons_zero, List.set_cons_succ, i64_w, i32_w]
    rfl
  refine one_ (i := 16) (N := (some 30)) #[true, true, true, true, true, true, true, true, true, true, true, true, true, true, true, true, true, false, false, false, false, false, false, false, false, false, false, false, false, false] rfl rfl (by kernel_rfl) (by decide) (fun K hK => ?_)
  refine goes_ Try.func20 (by kernel_rfl) rfl #[.agg #[.int .i64 _, .int .i64 _], .agg #[.int .i64 _, .int .i64 _]] (by rfl) rfl rfl (by (try simp only [List.map_toArray, List.map_cons, List.map_nil]); first | done | rfl) ?_
  refine Calls.mono (by first | (with_reducible exact meet_is M1 _) | (with_reducible exact meet_is M2 _) | (with_reducible exact meet_is M3 _) | (with_reducible exact meet_is M4 _) | (with_reducible exact meet_is M5 _)) ?_
  rintro e w11 ⟨rfl, hb⟩
  refine ⟨_, rfl, ?_⟩
  have M1 := M.call hb
  clear M hS hb
  have M := M1
  clear M1
  refine hK.out _ _ M (fun hS => ?_)
  clear hK K
  refine norm_ (a' := ?_) ?_ ?_
  rotate_left
  · show Act.put _ (some 30) _ = _
    simp only [Act.put, List.setIfInBounds_toArray, List.set_cons_zero, List.set_cons_succ, i64_w, i32_w]
    rfl
  refine pure_ (i := 17) (N := (some 31)) (v := ?_) (a' := ?_) #[true, true, true, true, true, true, true, true, true, true, true, true, true, true, true, true, true, true, false, false, false, false, false, false, false, false, false, false, false, false] rfl rfl (by kernel_rfl) (fun _ _ _ h => h) (Or.inl ⟨by rfl, ?_⟩) ?_ ?_
  rotate_left
  · intro w'
    go_simp
    with_reducible rfl
  rotate_left
  · simp only [Act.put, List.setIfInBounds_toArray, List.set_cons_zero, List.set_cons_succ, i64_w, i32_w]
    rfl
  refine pure_ (i := 18) (N := (some 32)) (v := ?_) (a' := ?_) #[true, true, true, true, true, true, true, true, true, true, true, true, true, true, true, true, true, true, true, false, false, false, false, false, false, false, false, false, false, false] rfl rfl (by kernel_rfl) (fun _ _ _ h => h) (Or.inl ⟨by rfl, ?_⟩) ?_ ?_
  rotate_left
  · intro w'
    go_simp
    with_reducible rfl
  rotate_left
  · simp only [Act.put, List.setIfInBounds_toArray, List.set_cons_zero, List.set_cons_succ, i64_w, i32_w]
    rfl
  refine pure_ (i := 19) (N := (some 33)) (v := ?_) (a' := ?_) #[true, true, true, true, true, true, true, true, true, true, true, true, true, true, true, true, true, true, true, true, false, false, false, false, false, false, false, false, false, false] rfl rfl (by kernel_rfl) (fun _ _ _ h => h) (Or.inl ⟨by rfl, ?_⟩) ?_ ?_
  rotate_left
  · intro w'
    go_simp
    with_reducible rfl
  rotate_left
  · simp only [Act.put, List.setIfInBounds_toArray, List.set_cons_zero, List.set_cons_succ, i64_w, i32_w]
    rfl
  refine take_ (i := 20) (N := (some 34)) (v := _) (a' := ?_) #[true, true, true, true, true, true, true, true, true, true, true, true, true, true, true, true, true, true, true, true, true, false, false, false, false, false, false, false, false, false] rfl rfl (by kernel_rfl) (fun _ _ _ h => h) (Or.inl ⟨by rfl, fun w' hM => op_load hM 0 rfl 23 (.tmp 9) rfl 0 rfl [_, _] (by kernel_rfl) (by kernel_rfl) rfl⟩) hS ?_ ?_
  rotate_left
  · simp only [Act.put, List.setIfInBounds_toArray, List.set_cons_zero, List.set_cons_succ, i64_w, i32_w]
    rfl
  refine take_ (i := 21) (N := (some 35)) (v := _) (a' := ?_) #[true, true, true, true, true, true, true, true, true, true, true, true, true, true, true, true, true, true, true, true, true, true, false, false, false, false, false, false, false, false] rfl rfl (by kernel_rfl) (fun _ _ _ h => h) (Or.inl ⟨by rfl, fun w' hM => op_load hM 1 rfl 23 (.tmp 6) rfl 0 rfl [_, _] (by kernel_rfl) (by kernel_rfl) rfl⟩) hS ?_ ?_
  rotate_left
  · simp only [Act.put, List.setIfInBounds_toArray, List.set_cons_zero, List.set_cons_succ, i64_w, i32_w]
    rfl
  refine take_ (i := 23) (N := (some 37)) (v := _) (a' := ?_) #[true, true, true, true, true, true, true, true, true, true, true, true, true, true, true, true, true, true, true, true, true, true, false, true, false, false, false, false, false, false] rfl rfl (by kernel_rfl) (fun _ _ _ h => h) (Or.inl ⟨by rfl, fun w' hM => op_load hM 3 rfl 23 (.tmp 4) rfl 0 rfl [_, _] (by kernel_rfl) (by kernel_rfl) rfl⟩) hS ?_ ?_
  rotate_left
  · simp only [Act.put, List.setIfInBounds_toArray, List.set_cons_zero, List.set_cons_succ, i64_w, i32_w]
    rfl
  refine take_ (i := 24) (N := (some 38)) (v := _) (a' := ?_) #[true, true, true, true, true, true, true, true, true, true, true, true, true, true, true, true, true, true, true, true, true, true, false, true, true, false, false, false, false, false] rfl rfl (by kernel_rfl) (fun _ _ _ h => h) (Or.inl ⟨by rfl, fun w' hM => op_load hM 2 rfl 23 (.tmp 5) rfl 0 rfl [_, _] (by kernel_rfl) (by kernel_rfl) rfl⟩) hS ?_ ?_
  rotate_left
  · simp only [Act.put, List.setIfInBounds_toArray, List.set_cons_zero, List.set_cons_succ, i64_w, i32_w]
    rfl
  refine take_ (i := 25) (N := (some 39)) (v := _) (a' := ?_) #[true, true, true, true, true, true, true, true, true, true, true, true, true, true, true, true, true, true, true, true, true, true, false, true, true, true, false, false, false, false] rfl rfl (by kernel_rfl) (fun _ _ _ h => h) (Or.inl ⟨by rfl, fun w' hM => op_load hM 1 rfl 23 (.tmp 6) rfl 0 rfl [_, _] (by kernel_rfl) (by kernel_rfl) rfl⟩) hS ?_ ?_
  rotate_left
  · simp only [Act.put, List.setIfInBounds_toArray, List.set_cons_zero, List.set_cons_succ, i64_w, i32_w]
    rfl
  refine one_ (i := 22) (N := (some 36)) #[true, true, true, true, true, true, true, true, true, true, true, true, true, true, true, true, true, true, true, true, true, true, true, true, true, true, false, false, false, false] rfl rfl (by kernel_rfl) (by decide) (fun K hK => ?_)
  refine goes_ Try.func20 (by kernel_rfl) rfl #[.agg #[.int .i64 _, .int .i64 _], .agg #[.int .i64 _, .int .i64 _]] (by rfl) rfl rfl (by (try simp only [List.map_toArray, List.map_cons, List.map_nil]); first | done | rfl) ?_
  refine Calls.mono (by first | (with_reducible exact meet_is M1 _) | (with_reducible exact meet_is M2 _) | (with_reducible exact meet_is M3 _) | (with_reducible exact meet_is M4 _) | (with_reducible exact meet_is M5 _)) ?_
  rintro e w12 ⟨rfl, hb⟩
  refine ⟨_, rfl, ?_⟩
  have M1 := M.call hb
  clear M hS hb
  have M := M1
  clear M1
  refine hK.out _ _ M (fun hS => ?_)
  clear hK K
  refine norm_ (a' := ?_) ?_ ?_
  rotate_left
  · show Act.put _ (some 36) _ = _
    simp only [Act.put, List.setIfInBounds_toArray, List.set_cons_zero, List.set_cons_succ, i64_w, i32_w]
    rfl
  refine one_ (i := 26) (N := (some 40)) #[true, true, true, true, true, true, true, true, true, true, true, true, true, true, true, true, true, true, true, true, true, true, true, true, true, true, true, false, false, false] rfl rfl (by kernel_rfl) (by decide) (fun K hK => ?_)
  refine goes_ Try.func20 (by kernel_rfl) rfl #[.agg #[.int .i64 _, .int .i64 _], .agg #[.int .i64 _, .int .i64 _]] (by rfl) rfl rfl (by (try simp only [List.map_toArray, List.map_cons, List.map_nil]); first | done | rfl) ?_
  refine Calls.mono (by first | (with_reducible exact meet_is M1 _) | (with_reducible exact meet_is M2 _) | (with_reducible exact meet_is M3 _) | (with_reducible exact meet_is M4 _) | (with_reducible exact meet_is M5 _)) ?_
  rintro e w13 ⟨rfl, hb⟩
  refine ⟨_, rfl, ?_⟩
  have M1 := M.call hb
  clear M hS hb
  have M := M1
  clear M1
  refine hK.out _ _ M (fun hS => ?_)
  clear hK K
  refine norm_ (a' := ?_) ?_ ?_
  rotate_left
  · show Act.put _ (some 40) _ = _
    simp only [Act.put, List.setIfInBounds_toArray, List.set_cons_zero, List.set_cons_succ, i64_w, i32_w]
    rfl
  refine one_ (i := 27) (N := (some 41)) #[true, true, true, true, true, true, true, true, true, true, true, true, true, true, true, true, true, true, true, true, true, true, true, true, true, true, true, true, false, false] rfl rfl (by kernel_rfl) (by decide) (fun K hK => ?_)
  refine goes_ Try.func20 (by kernel_rfl) rfl #[.agg #[.int .i64 _, .int .i64 _], .agg #[.int .i64 _, .int .i64 _]] (by rfl) rfl rfl (by (try simp only [List.map_toArray, List.map_cons, List.map_nil]); first | done | rfl) ?_
  refine Calls.mono (by first | (with_reducible exact meet_is M1 _) | (with_reducible exact meet_is M2 _) | (with_reducible exact meet_is M3 _) | (with_reducible exact meet_is M4 _) | (with_reducible exact meet_is M5 _)) ?_
  rintro e w14 ⟨rfl, hb⟩
  refine ⟨_, rfl, ?_⟩
  have M1 := M.call hb
  clear M hS hb
  have M := M1
  clear M1
  refine hK.out _ _ M (fun hS => ?_)
  clear hK K
  refine norm_ (a' := ?_) ?_ ?_
  rotate_left
  · show Act.put _ (some 41) _ = _
    simp only [Act.put, List.setIfInBounds_toArray, List.set_cons_zero, List.set_cons_succ, i64_w, i32_w]
    rfl
  refine pure_ (i := 28) (N := (some 42)) (v := ?_) (a' := ?_) #[true, true, true, true, true, true, true, true, true, true, true, true, true, true, true, true, true, true, true, true, true, true, true, true, true, true, true, true, true, false] rfl rfl (by kernel_rfl) (fun _ _ _ h => h) (Or.inl ⟨by rfl, ?_⟩) ?_ ?_
  rotate_left
  · intro w'
    go_simp
    with_reducible rfl
  rotate_left
  · simp only [Act.put, List.setIfInBounds_toArray, List.set_cons_zero, List.set_cons_succ, i64_w, i32_w]
    rfl
  refine pure_ (i := 29) (N := (some 43)) (v := ?_) (a' := ?_) #[true, true, true, true, true, true, true, true, true, true, true, true, true, true, true, true, true, true, true, true, true, true, true, true, true, true, true, true, true, true] rfl rfl (by kernel_rfl) (fun _ _ _ h => h) (Or.inl ⟨by rfl, ?_⟩) ?_ ?_
  rotate_left
  · intro w'
    go_simp
    with_reducible rfl
  rotate_left
  · simp only [Act.put, List.setIfInBounds_toArray, List.set_cons_zero, List.set_cons_succ, i64_w, i32_w]
    rfl
  refine done_ (by kernel_rfl) ?_
  try clear hS
  refine hK4 _ _ ?_
  clear hK4
  try clear K4
  refine wp_cond_false rfl ?_
  refine wp_skip ?_
  refine hK3 _ _ ?_
  clear hK3
  try clear K3
  refine wp_seq_k (fun K5 hK5 => ?_)
  refine wp_seq_k (fun K6 hK6 => ?_)
  refine wp_region_lit ?_
  refine ev_load M 0 rfl (N := 44) rfl rfl 23 (.tmp 9) rfl 0 rfl [_, _] (by kernel_rfl) (by kernel_rfl) rfl ?_
  refine ev_norm (a' := ?_) ?_ ?_
  rotate_left
  · simp only [Act.put, List.setIfInBounds_toArray, List.set_cons_zero, List.set_cons_succ, i64_w, i32_w]
    rfl
  refine ev_call (some 45) rfl rfl Try.func23 (by kernel_rfl) rfl #[.agg #[.int .i64 _, .int .i64 _]] rfl (by (try simp only [List.map_toArray, List.map_cons, List.map_nil]); first | done | rfl) (by first | (with_reducible exact empty_is E1 _) | (with_reducible exact empty_is E2 _)) rfl M ?_
  intro w15 M1
  clear M
  have M := M1
  clear M1
  refine ev_norm (a' := ?_) ?_ ?_
  rotate_left
  · simp only [Act.put, List.setIfInBounds_toArray, List.set_cons_zero, List.set_cons_succ, i64_w, i32_w]
    rfl
  refine ev_pure 46 (v := ?_) (a' := ?_) rfl rfl ?_ ?_ ?_
  rotate_left 2
  · intro w'
    go_simp
    with_reducible rfl
  · simp only [Act.put, List.setIfInBounds_toArray, List.set_cons_zero, List.set_cons_succ, i64_w, i32_w]
    rfl
  refine ev_off (some 47) (a' := ?_) rfl rfl ?_ ?_
  rotate_left
  · simp only [Act.put, List.setIfInBounds_toArray, List.set_cons_zero, List.set_cons_succ, i64_w, i32_w]
    rfl
  refine ev_off (some 48) (a' := ?_) rfl rfl ?_ ?_
  rotate_left
  · simp only [Act.put, List.setIfInBounds_toArray, List.set_cons_zero, List.set_cons_succ, i64_w, i32_w]
    rfl
  refine ev_off (some 49) (a' := ?_) rfl rfl ?_ ?_
  rotate_left
  · simp only [Act.put, List.setIfInBounds_toArray, List.set_cons_zero, List.set_cons_succ, i64_w, i32_w]
    rfl
  refine ev_pure 50 (v := ?_) (a' := ?_) rfl rfl ?_ ?_ ?_
  rotate_left 2
  · intro w'
    go_simp
    with_reducible rfl
  · simp only [Act.put, List.setIfInBounds_toArray, List.set_cons_zero, List.set_cons_succ, i64_w, i32_w]
    rfl
  refine ev_pure 51 (v := ?_) (a' := ?_) rfl rfl ?_ ?_ ?_
  rotate_left 2
  · intro w'
    go_simp
    with_reducible rfl
  · simp only [Act.put, List.setIfInBounds_toArray, List.set_cons_zero, List.set_cons_succ, i64_w, i32_w]
    rfl
  refine ev_load M 0 rfl (N := 52) rfl rfl 23 (.tmp 9) rfl 0 rfl [_, _] (by kernel_rfl) (by kernel_rfl) rfl ?_
  refine ev_norm (a' := ?_) ?_ ?_
  rotate_left
  · simp only [Act.put, List.setIfInBounds_toArray, List.set_cons_zero, List.set_cons_succ, i64_w, i32_w]
    rfl
  refine ev_load M 3 rfl (N := 53) rfl rfl 23 (.tmp 4) rfl 0 rfl [_, _] (by kernel_rfl) (by kernel_rfl) rfl ?_
  refine ev_norm (a' := ?_) ?_ ?_
  rotate_left
  · simp only [Act.put, List.setIfInBounds_toArray, List.set_cons_zero, List.set_cons_succ, i64_w, i32_w]
    rfl
  refine ev_call (some 54) rfl rfl Try.func24 (by kernel_rfl) rfl #[.agg #[.int .i64 _, .int .i64 _], .agg #[.int .i64 _, .int .i64 _]] rfl (by (try simp only [List.map_toArray, List.map_cons, List.map_nil]); first | done | rfl) (by first | (with_reducible exact within_is W1 _) | (with_reducible exact within_is W2 _) | (with_reducible exact within_is W3 _) | (with_reducible exact within_is W4 _)) rfl M ?_
  intro w16 M1
  clear M
  have M := M1
  clear M1
  refine ev_norm (a' := ?_) ?_ ?_
  rotate_left
  · simp only [Act.put, List.setIfInBounds_toArray, List.set_cons_zero, List.set_cons_succ, i64_w, i32_w]
    rfl
  refine ev_pure 55 (v := ?_) (a' := ?_) rfl rfl ?_ ?_ ?_
  rotate_left 2
  · intro w'
    go_simp
    with_reducible rfl
  · simp only [Act.put, List.setIfInBounds_toArray, List.set_cons_zero, List.set_cons_succ, i64_w, i32_w]
    rfl
  refine ev_pure 56 (v := ?_) (a' := ?_) rfl rfl ?_ ?_ ?_
  rotate_left 2
  · intro w'
    go_simp
    with_reducible rfl
  · simp only [Act.put, List.setIfInBounds_toArray, List.set_cons_zero, List.set_cons_succ, i64_w, i32_w]
    rfl
  refine ev_pure 57 (v := ?_) (a' := ?_) rfl rfl ?_ ?_ ?_
  rotate_left 2
  · intro w'
    go_simp
    with_reducible rfl
  · simp only [Act.put, List.setIfInBounds_toArray, List.set_cons_zero, List.set_cons_succ, i64_w, i32_w]
    rfl
  refine ev_load M 0 rfl (N := 58) rfl rfl 23 (.tmp 9) rfl 0 rfl [_, _] (by kernel_rfl) (by kernel_rfl) rfl ?_
  refine ev_norm (a' := ?_) ?_ ?_
  rotate_left
  · simp only [Act.put, List.setIfInBounds_toArray, List.set_cons_zero, List.set_cons_succ, i64_w, i32_w]
    rfl
  refine ev_load M 2 rfl (N := 59) rfl rfl 23 (.tmp 5) rfl 0 rfl [_, _] (by kernel_rfl) (by kernel_rfl) rfl ?_
  refine ev_norm (a' := ?_) ?_ ?_
  rotate_left
  · simp only [Act.put, List.setIfInBounds_toArray, List.set_cons_zero, List.set_cons_succ, i64_w, i32_w]
    rfl
  refine ev_call (some 60) rfl rfl Try.func24 (by kernel_rfl) rfl #[.agg #[.int .i64 _, .int .i64 _], .agg #[.int .i64 _, .int .i64 _]] rfl (by (try simp only [List.map_toArray, List.map_cons, List.map_nil]); first | done | rfl) (by first | (with_reducible exact within_is W1 _) | (with_reducible exact within_is W2 _) | (with_reducible exact within_is W3 _) | (with_reducible exact within_is W4 _)) rfl M ?_
  intro w17 M1
  clear M
  have M := M1
  clear M1
  refine ev_norm (a' := ?_) ?_ ?_
  rotate_left
  · simp only [Act.put, List.setIfInBounds_toArray, List.set_cons_zero, List.set_cons_succ, i64_w, i32_w]
    rfl
  refine ev_pure 61 (v := ?_) (a' := ?_) rfl rfl ?_ ?_ ?_
  rotate_left 2
  · intro w'
    go_simp
    with_reducible rfl
  · simp only [Act.put, List.setIfInBounds_toArray, List.set_cons_zero, List.set_cons_succ, i64_w, i32_w]
    rfl
  refine ev_pure 62 (v := ?_) (a' := ?_) rfl rfl ?_ ?_ ?_
  rotate_left 2
  · intro w'
    go_simp
    with_reducible rfl
  · simp only [Act.put, List.setIfInBounds_toArray, List.set_cons_zero, List.set_cons_succ, i64_w, i32_w]
    rfl
  refine ev_pure 63 (v := ?_) (a' := ?_) rfl rfl ?_ ?_ ?_
  rotate_left 2
  · intro w'
    go_simp
    with_reducible rfl
  · simp only [Act.put, List.setIfInBounds_toArray, List.set_cons_zero, List.set_cons_succ, i64_w, i32_w]
    rfl
  refine ev_load M 3 rfl (N := 64) rfl rfl 23 (.tmp 4) rfl 0 rfl [_, _] (by kernel_rfl) (by kernel_rfl) rfl ?_
  refine ev_norm (a' := ?_) ?_ ?_
  rotate_left
  · simp only [Act.put, List.setIfInBounds_toArray, List.set_cons_zero, List.set_cons_succ, i64_w, i32_w]
    rfl
  refine ev_load M 3 rfl (N := 65) rfl rfl 23 (.tmp 4) rfl 0 rfl [_, _] (by kernel_rfl) (by kernel_rfl) rfl ?_
  refine ev_norm (a' := ?_) ?_ ?_
  rotate_left
  · simp only [Act.put, List.setIfInBounds_toArray, List.set_cons_zero, List.set_cons_succ, i64_w, i32_w]
    rfl
  refine ev_call (some 66) rfl rfl Try.func24 (by kernel_rfl) rfl #[.agg #[.int .i64 _, .int .i64 _], .agg #[.int .i64 _, .int .i64 _]] rfl (by (try simp only [List.map_toArray, List.map_cons, List.map_nil]); first | done | rfl) (by first | (with_reducible exact within_is W1 _) | (with_reducible exact within_is W2 _) | (with_reducible exact within_is W3 _) | (with_reducible exact within_is W4 _)) rfl M ?_
  intro w18 M1
  clear M
  have M := M1
  clear M1
  refine ev_norm (a' := ?_) ?_ ?_
  rotate_left
  · simp only [Act.put, List.setIfInBounds_toArray, List.set_cons_zero, List.set_cons_succ, i64_w, i32_w]
    rfl
  refine ev_pure 67 (v := ?_) (a' := ?_) rfl rfl ?_ ?_ ?_
  rotate_left 2
  · intro w'
    go_simp
    with_reducible rfl
  · simp only [Act.put, List.setIfInBounds_toArray, List.set_cons_zero, List.set_cons_succ, i64_w, i32_w]
    rfl
  refine ev_pure 68 (v := ?_) (a' := ?_) rfl rfl ?_ ?_ ?_
  rotate_left 2
  · intro w'
    go_simp
    with_reducible rfl
  · simp only [Act.put, List.setIfInBounds_toArray, List.set_cons_zero, List.set_cons_succ, i64_w, i32_w]
    rfl
  refine wpList_nil ?_
  refine hK6 _ _ ?_
  clear hK6
  try clear K6
  refine wp_cond_false rfl ?_
  refine wp_skip ?_
  refine hK5 _ _ ?_
  clear hK5
  try clear K5
  refine wp_seq_k (fun K7 hK7 => ?_)
  refine wp_region_lit ?_
  refine ev_load M 0 rfl (N := 69) rfl rfl 23 (.tmp 9) rfl 0 rfl [_, _] (by kernel_rfl) (by kernel_rfl) rfl ?_
  refine ev_norm (a' := ?_) ?_ ?_
  rotate_left
  · simp only [Act.put, List.setIfInBounds_toArray, List.set_cons_zero, List.set_cons_succ, i64_w, i32_w]
    rfl
  refine ev_load M 3 rfl (N := 70) rfl rfl 23 (.tmp 4) rfl 0 rfl [_, _] (by kernel_rfl) (by kernel_rfl) rfl ?_
  refine ev_norm (a' := ?_) ?_ ?_
  rotate_left
  · simp only [Act.put, List.setIfInBounds_toArray, List.set_cons_zero, List.set_cons_succ, i64_w, i32_w]
    rfl
  refine ev_pure 71 (v := ?_) (a' := ?_) rfl rfl ?_ ?_ ?_
  rotate_left 2
  · intro w'
    go_simp
    with_reducible rfl
  · simp only [Act.put, List.setIfInBounds_toArray, List.set_cons_zero, List.set_cons_succ, i64_w, i32_w]
    rfl
  refine ev_pure 72 (v := ?_) (a' := ?_) rfl rfl ?_ ?_ ?_
  rotate_left 2
  · intro w'
    go_simp
    with_reducible rfl
  · simp only [Act.put, List.setIfInBounds_toArray, List.set_cons_zero, List.set_cons_succ, i64_w, i32_w]
    rfl
  refine ev_off (some 73) (a' := ?_) rfl rfl ?_ ?_
  rotate_left
  · simp only [Act.put, List.setIfInBounds_toArray, List.set_cons_zero, List.set_cons_succ, i64_w, i32_w]
    rfl
  refine ev_off (some 74) (a' := ?_) rfl rfl ?_ ?_
  rotate_left
  · simp only [Act.put, List.setIfInBounds_toArray, List.set_cons_zero, List.set_cons_succ, i64_w, i32_w]
    rfl
  refine ev_pure 75 (v := ?_) (a' := ?_) rfl rfl ?_ ?_ ?_
  rotate_left 2
  · intro w'
    go_simp
    with_reducible rfl
  · simp only [Act.put, List.setIfInBounds_toArray, List.set_cons_zero, List.set_cons_succ, i64_w, i32_w]
    rfl
  refine ev_pure 10 (v := ?_) (a' := ?_) rfl rfl ?_ ?_ ?_
  rotate_left 2
  · intro w'
    go_simp
    with_reducible rfl
  · simp only [Act.put, List.setIfInBounds_toArray, List.set_cons_zero, List.set_cons_succ, i64_w, i32_w]
    rfl
  refine wpList_nil ?_
  refine hK7 _ _ ?_
  clear hK7
  try clear K7
  refine wp_seq_k (fun K8 hK8 => ?_)
  refine start_ (n := 16) (S := fun w' => Mem w w' _) (ds := []) #[false, false, false, false, false, false, false, false, false, false, false, false, false, false, false, false] (by kernel_rfl) rfl rfl M.drew (fun hS => ?_)
  clear M
  generalize World.drew _ = w19 at hS ⊢
  have M := hS
  refine pure_ (i := 3) (N := (some 79)) (v := ?_) (a' := ?_) #[false, false, false, true, false, false, false, false, false, false, false, false, false, false, false, false] rfl rfl (by kernel_rfl) (fun _ _ _ h => h) (Or.inl ⟨by rfl, ?_⟩) ?_ ?_
  rotate_left
  · intro w'
    go_simp
    with_reducible rfl
  rotate_left
  · simp only [Act.put, List.setIfInBounds_toArray, List.set_cons_zero, List.set_cons_succ, i64_w, i32_w]
    rfl
  refine take_ (i := 0) (N := (some 76)) (v := _) (a' := ?_) #[true, false, false, true, false, false, false, false, false, false, false, false, false, false, false, false] rfl rfl (by kernel_rfl) (fun _ _ _ h => h) (Or.inl ⟨by rfl, fun w' hM => op_load hM 3 rfl 23 (.tmp 4) rfl 0 rfl [_, _] (by kernel_rfl) (by kernel_rfl) rfl⟩) hS ?_ ?_
  rotate_left
  · simp only [Act.put, List.setIfInBounds_toArray, List.set_cons_zero, List.set_cons_succ, i64_w, i32_w]
    rfl
  refine take_ (i := 1) (N := (some 77)) (v := _) (a' := ?_) #[true, true, false, true, false, false, false, false, false, false, false, false, false, false, false, false] rfl rfl (by kernel_rfl) (fun _ _ _ h => h) (Or.inl ⟨by rfl, fun w' hM => op_load hM 2 rfl 23 (.tmp 5) rfl 0 rfl [_, _] (by kernel_rfl) (by kernel_rfl) rfl⟩) hS ?_ ?_
  rotate_left
  · simp only [Act.put, List.setIfInBounds_toArray, List.set_cons_zero, List.set_cons_succ, i64_w, i32_w]
    rfl
  refine one_ (i := 2) (N := (some 78)) #[true, true, true, true, false, false, false, false, false, false, false, false, false, false, false, false] rfl rfl (by kernel_rfl) (by decide) (fun K hK => ?_)
  refine goes_ Try.func24 (by kernel_rfl) rfl #[.agg #[.int .i64 _, .int .i64 _], .agg #[.int .i64 _, .int .i64 _]] (by rfl) rfl rfl (by (try simp only [List.map_toArray, List.map_cons, List.map_nil]); first | done | rfl) ?_
  refine Calls.mono (by first | (with_reducible exact within_is W1 _) | (with_reducible exact within_is W2 _) | (with_reducible exact within_is W3 _) | (with_reducible exact within_is W4 _)) ?_
  rintro e w20 ⟨rfl, hb⟩
  refine ⟨_, rfl, ?_⟩
  have M1 := M.call hb
  clear M hS hb
  have M := M1
  clear M1
  refine hK.out _ _ M (fun hS => ?_)
  clear hK K
  refine norm_ (a' := ?_) ?_ ?_
  rotate_left
  · show Act.put _ (some 78) _ = _
    simp only [Act.put, List.setIfInBounds_toArray, List.set_cons_zero, List.set_cons_succ, i64_w, i32_w]
    rfl
  refine pure_ (i := 4) (N := (some 80)) (v := ?_) (a' := ?_) #[true, true, true, true, true, false, false, false, false, false, false, false, false, false, false, false] rfl rfl (by kernel_rfl) (fun _ _ _ h => h) (Or.inl ⟨by rfl, ?_⟩) ?_ ?_
  rotate_left
  · intro w'
    go_simp
    with_reducible rfl
  rotate_left
  · simp only [Act.put, List.setIfInBounds_toArray, List.set_cons_zero, List.set_cons_succ, i64_w, i32_w]
    rfl
  refine pure_ (i := 5) (N := (some 81)) (v := ?_) (a' := ?_) #[true, true, true, true, true, true, false, false, false, false, false, false, false, false, false, false] rfl rfl (by kernel_rfl) (fun _ _ _ h => h) (Or.inl ⟨by rfl, ?_⟩) ?_ ?_
  rotate_left
  · intro w'
    go_simp
    with_reducible rfl
  rotate_left
  · simp only [Act.put, List.setIfInBounds_toArray, List.set_cons_zero, List.set_cons_succ, i64_w, i32_w]
    rfl
  refine take_ (i := 6) (N := (some 82)) (v := _) (a' := ?_) #[true, true, true, true, true, true, true, false, false, false, false, false, false, false, false, false] rfl rfl (by kernel_rfl) (fun _ _ _ h => h) (Or.inl ⟨by rfl, fun w' hM => op_load hM 0 rfl 23 (.tmp 9) rfl 0 rfl [_, _] (by kernel_rfl) (by kernel_rfl) rfl⟩) hS ?_ ?_
  rotate_left
  · simp only [Act.put, List.setIfInBounds_toArray, List.set_cons_zero, List.set_cons_succ, i64_w, i32_w]
    rfl
  refine take_ (i := 7) (N := (some 83)) (v := _) (a' := ?_) #[true, true, true, true, true, true, true, true, false, false, false, false, false, false, false, false] rfl rfl (by kernel_rfl) (fun _ _ _ h => h) (Or.inl ⟨by rfl, fun w' hM => op_load hM 3 rfl 23 (.tmp 4) rfl 0 rfl [_, _] (by kernel_rfl) (by kernel_rfl) rfl⟩) hS ?_ ?_
  rotate_left
  · simp only [Act.put, List.setIfInBounds_toArray, List.set_cons_zero, List.set_cons_succ, i64_w, i32_w]
    rfl
  refine take_ (i := 8) (N := (some 84)) (v := _) (a' := ?_) #[true, true, true, true, true, true, true, true, true, false, false, false, false, false, false, false] rfl rfl (by kernel_rfl) (fun _ _ _ h => h) (Or.inl ⟨by rfl, fun w' hM => op_load hM 2 rfl 23 (.tmp 5) rfl 0 rfl [_, _] (by kernel_rfl) (by kernel_rfl) rfl⟩) hS ?_ ?_
  rotate_left
  · simp only [Act.put, List.setIfInBounds_toArray, List.set_cons_zero, List.set_cons_succ, i64_w, i32_w]
    rfl
  refine one_ (i := 9) (N := (some 85)) #[true, true, true, true, true, true, true, true, true, true, false, false, false, false, false, false] rfl rfl (by kernel_rfl) (by decide) (fun K hK => ?_)
  refine goes_ Try.func26 (by kernel_rfl) rfl #[.agg #[.int .i64 _, .int .i64 _], .agg #[.int .i64 _, .int .i64 _]] (by rfl) rfl rfl (by (try simp only [List.map_toArray, List.map_cons, List.map_nil]); first | done | rfl) ?_
  refine Calls.mono (by first | (with_reducible exact rmeet_is M1 _)) ?_
  rintro e w21 ⟨rfl, hb⟩
  refine ⟨_, rfl, ?_⟩
  have M1 := M.call hb
  clear M hS hb
  have M := M1
  clear M1
  refine hK.out _ _ M (fun hS => ?_)
  clear hK K
  refine norm_ (a' := ?_) ?_ ?_
  rotate_left
  · show Act.put _ (some 85) _ = _
    simp only [Act.put, List.setIfInBounds_toArray, List.set_cons_zero, List.set_cons_succ, i64_w, i32_w]
    rfl
  refine pure_ (i := 10) (N := (some 86)) (v := ?_) (a' := ?_) #[true, true, true, true, true, true, true, true, true, true, true, false, false, false, false, false] rfl rfl (by kernel_rfl) (fun _ _ _ h => h) (Or.inl ⟨by rfl, ?_⟩) ?_ ?_
  rotate_left
  · intro w'
    go_simp
    with_reducible rfl
  rotate_left
  · simp only [Act.put, List.setIfInBounds_toArray, List.set_cons_zero, List.set_cons_succ, i64_w, i32_w]
    rfl
  refine pure_ (i := 11) (N := (some 87)) (v := ?_) (a' := ?_) #[true, true, true, true, true, true, true, true, true, true, true, true, false, false, false, false] rfl rfl (by kernel_rfl) (fun _ _ _ h => h) (Or.inl ⟨by rfl, ?_⟩) ?_ ?_
  rotate_left
  · intro w'
    go_simp
    with_reducible rfl
  rotate_left
  · simp only [Act.put, List.setIfInBounds_toArray, List.set_cons_zero, List.set_cons_succ, i64_w, i32_w]
    rfl
  refine pure_ (i := 12) (N := (some 88)) (v := ?_) (a' := ?_) #[true, true, true, true, true, true, true, true, true, true, true, true, true, false, false, false] rfl rfl (by kernel_rfl) (fun _ _ _ h => h) (Or.inl ⟨by rfl, ?_⟩) ?_ ?_
  rotate_left
  · intro w'
    go_simp
    with_reducible rfl
  rotate_left
  · simp only [Act.put, List.setIfInBounds_toArray, List.set_cons_zero, List.set_cons_succ, i64_w, i32_w]
    rfl
  refine one_ (i := 13) (N := (some 89)) #[true, true, true, true, true, true, true, true, true, true, true, true, true, true, false, false] rfl rfl (by kernel_rfl) (by decide) (fun K hK => ?_)
  refine goes_ Try.func5 (by kernel_rfl) rfl #[] (by rfl) rfl rfl (by (try simp only [List.map_toArray, List.map_cons, List.map_nil]); first | done | rfl) ?_
  refine Calls.mono (by first | (with_reducible exact runs_is _)) ?_
  rintro e w22 ⟨rfl, hb⟩
  refine ⟨_, rfl, ?_⟩
  have M1 := M.call hb
  clear M hS hb
  have M := M1
  clear M1
  refine hK.out _ _ M (fun hS => ?_)
  clear hK K
  refine norm_ (a' := ?_) ?_ ?_
  rotate_left
  · show Act.put _ (some 89) _ = _
    simp only [Act.put, List.setIfInBounds_toArray, List.set_cons_zero, List.set_cons_succ, i64_w, i32_w]
    rfl
  refine pure_ (i := 14) (N := (some 90)) (v := ?_) (a' := ?_) #[true, true, true, true, true, true, true, true, true, true, true, true, true, true, true, false] rfl rfl (by kernel_rfl) (fun _ _ _ h => h) (Or.inl ⟨by rfl, ?_⟩) ?_ ?_
  rotate_left
  · intro w'
    go_simp
    with_reducible rfl
  rotate_left
  · simp only [Act.put, List.setIfInBounds_toArray, List.set_cons_zero, List.set_cons_succ, i64_w, i32_w]
    rfl
  refine pure_ (i := 15) (N := (some 8)) (v := ?_) (a' := ?_) #[true, true, true, true, true, true, true, true, true, true, true, true, true, true, true, true] rfl rfl (by kernel_rfl) (fun _ _ _ h => h) (Or.inl ⟨by rfl, ?_⟩) ?_ ?_
  rotate_left
  · intro w'
    go_simp
    with_reducible rfl
  rotate_left
  · simp only [Act.put, List.setIfInBounds_toArray, List.set_cons_zero, List.set_cons_succ, i64_w, i32_w]
    rfl
  refine done_ (by kernel_rfl) ?_
  try clear hS
  refine hK8 _ _ ?_
  clear hK8
  try clear K8
  refine wp_ret ?_
  (try simp only [Exit.inBlock, Exit.then])
  refine bodyPost_ret (res1 rfl (rv_tmp 8)) rfl ⟨?_, M.below⟩
  rfl
set_option maxHeartbeats 8000000 in
set_option maxRecDepth 100000 in
theorem wayTFF (w : World) {a0 a1 m0 m1 b0 b1 c0 c1 n d0 d1 f0 f1 : Int} {hb same : Bool}
    (M1 : meetS (a0, a1) (b0, b1) = (m0, m1)) (M2 : meetS (b0, b1) (a0, a1) = (m0, m1)) (M3 : meetS (m0, m1) (c0, c1) = (d0, d1)) (M4 : meetS (b0, b1) (c0, c1) = (f0, f1)) (M5 : meetS (a0, a1) (f0, f1) = (d0, d1))
    (H1 : (decide (m0 ≤ n) && decide (n ≤ m1)) = hb) (H2 : (decide (a0 ≤ n) && decide (n ≤ a1)) = true) (H3 : (decide (b0 ≤ n) && decide (n ≤ b1)) = hb)
    (E1 : decide (m1 < m0) = false) (E2 : decide (a1 < a0) = same) (Q : ¬ m0 = a0)
    (W1 : (decide (m1 < m0) || (decide (a0 ≤ m0) && decide (m1 ≤ a1))) = true) (W2 : (decide (m1 < m0) || (decide (b0 ≤ m0) && decide (m1 ≤ b1))) = true) (W3 : (decide (a1 < a0) || (decide (a0 ≤ a0) && decide (a1 ≤ a1))) = true)
    (W4 : (decide (a1 < a0) || (decide (b0 ≤ a0) && decide (a1 ≤ b1))) = same) :
    Calls Try.prog 10 #[sp a0 a1, sp b0 b1, sp c0 c1, .int .i64 n] w fun e w' => e = .returned (.bool true) ∧ Below w.heap.size w w' := by
  go_enter Try.func10, Try.ntmps10
  have M := Mem.start w
  refine wp_seq_k (fun K1 hK1 => ?_)
  refine wp_region_lit ?_
  refine ev_boxv M (N := 4) rfl rfl 23 _ rfl [_, _] rfl ?_
  intro g0 w1 M1
  clear M
  have M := M1
  clear M1
  refine ev_norm (a' := ?_) ?_ ?_
  rotate_left
  · simp only [Act.put, List.setIfInBounds_toArray, List.set_cons_zero, List.set_cons_succ, i64_w, i32_w]
    rfl
  refine ev_boxv M (N := 5) rfl rfl 23 _ rfl [_, _] rfl ?_
  intro g1 w2 M1
  clear M
  have M := M1
  clear M1
  refine ev_norm (a' := ?_) ?_ ?_
  rotate_left
  · simp only [Act.put, List.setIfInBounds_toArray, List.set_cons_zero, List.set_cons_succ, i64_w, i32_w]
    rfl
  refine ev_boxv M (N := 6) rfl rfl 23 _ rfl [_, _] rfl ?_
  intro g2 w3 M1
  clear M
  have M := M1
  clear M1
  refine ev_norm (a' := ?_) ?_ ?_
  rotate_left
  · simp only [Act.put, List.setIfInBounds_toArray, List.set_cons_zero, List.set_cons_succ, i64_w, i32_w]
    rfl
  refine ev_pure 8 (v := ?_) (a' := ?_) rfl rfl ?_ ?_ ?_
  rotate_left 2
  · intro w'
    go_simp
    with_reducible rfl
  · simp only [Act.put, List.setIfInBounds_toArray, List.set_cons_zero, List.set_cons_succ, i64_w, i32_w]
    rfl
  refine wpList_nil ?_
  refine hK1 _ _ ?_
  clear hK1
  try clear K1
  refine wp_seq_k (fun K2 hK2 => ?_)
  refine wp_region_lit ?_
  refine ev_load M 2 rfl (N := 11) rfl rfl 23 (.tmp 4) rfl 0 rfl [_, _] (by kernel_rfl) (by kernel_rfl) rfl ?_
  refine ev_norm (a' := ?_) ?_ ?_
  rotate_left
  · simp only [Act.put, List.setIfInBounds_toArray, List.set_cons_zero, List.set_cons_succ, i64_w, i32_w]
    rfl
  refine ev_load M 1 rfl (N := 12) rfl rfl 23 (.tmp 5) rfl 0 rfl [_, _] (by kernel_rfl) (by kernel_rfl) rfl ?_
  refine ev_norm (a' := ?_) ?_ ?_
  rotate_left
  · simp only [Act.put, List.setIfInBounds_toArray, List.set_cons_zero, List.set_cons_succ, i64_w, i32_w]
    rfl
  refine ev_call (some 13) rfl rfl Try.func20 (by kernel_rfl) rfl #[.agg #[.int .i64 _, .int .i64 _], .agg #[.int .i64 _, .int .i64 _]] rfl (by (try simp only [List.map_toArray, List.map_cons, List.map_nil]); first | done | rfl) (by first | (with_reducible exact meet_is M1 _) | (with_reducible exact meet_is M2 _) | (with_reducible exact meet_is M3 _) | (with_reducible exact meet_is M4 _) | (with_reducible exact meet_is M5 _)) rfl M ?_
  intro w4 M1
  clear M
  have M := M1
  clear M1
  refine ev_norm (a' := ?_) ?_ ?_
  rotate_left
  · simp only [Act.put, List.setIfInBounds_toArray, List.set_cons_zero, List.set_cons_succ, i64_w, i32_w]
    rfl
  refine ev_alloc M (N := 9) rfl rfl 23 rfl (.agg #[.int .i64 0, .int .i64 0]) (by kernel_rfl) [.int .i64 0, .int .i64 0] rfl ?_
  intro g3 w5 M1
  clear M
  have M := M1
  clear M1
  refine ev_norm (a' := ?_) ?_ ?_
  rotate_left
  · simp only [Act.put, List.setIfInBounds_toArray, List.set_cons_zero, List.set_cons_succ, i64_w, i32_w]
    rfl
  refine ev_store M 0 rfl rfl rfl 23 (.tmp 9) _ rfl 0 rfl [_, _] rfl (by kernel_rfl) rfl (Nat.le_of_ble_eq_true rfl) [_, _] rfl [_, _, _, _] rfl ?_
  intro w6 M1
  clear M
  have M := M1
  clear M1
  refine wpList_nil ?_
  refine hK2 _ _ ?_
  clear hK2
  try clear K2
  refine wp_seq_k (fun K3 hK3 => ?_)
  refine wp_seq_k (fun K4 hK4 => ?_)
  refine start_ (n := 30) (S := fun w' => Mem w w' _) (ds := []) #[false, false, false, false, false, false, false, false, false, false, false, false, false, false, false, false, false, false, false, false, false, false, false, false, false, false, false, false, false, false] (by kernel_rfl) rfl rfl M.drew (fun hS => ?_)
  clear M
  generalize World.drew _ = w7 at hS ⊢
  have M := hS
  refine pure_ (i := 1) (N := (some 15)) (v := ?_) (a' := ?_) #[false, true, false, false, false, false, false, false, false, false, false, false, false, false, false, false, false, false, false, false, false, false, false, false, false, false, false, false, false, false] rfl rfl (by kernel_rfl) (fun _ _ _ h => h) (Or.inl ⟨by rfl, ?_⟩) ?_ ?_
  rotate_left
  · intro w'
    go_simp
    with_reducible rfl
  rotate_left
  · simp only [Act.put, List.setIfInBounds_toArray, List.set_cons_zero, List.set_cons_succ, i64_w, i32_w]
    rfl
  refine pure_ (i := 4) (N := (some 18)) (v := ?_) (a' := ?_) #[false, true, false, false, true, false, false, false, false, false, false, false, false, false, false, false, false, false, false, false, false, false, false, false, false, false, false, false, false, false] rfl rfl (by kernel_rfl) (fun _ _ _ h => h) (Or.inl ⟨by rfl, ?_⟩) ?_ ?_
  rotate_left
  · intro w'
    go_simp
    with_reducible rfl
  rotate_left
  · simp only [Act.put, List.setIfInBounds_toArray, List.set_cons_zero, List.set_cons_succ, i64_w, i32_w]
    rfl
  refine take_ (i := 0) (N := (some 14)) (v := _) (a' := ?_) #[true, true, false, false, true, false, false, false, false, false, false, false, false, false, false, false, false, false, false, false, false, false, false, false, false, false, false, false, false, false] rfl rfl (by kernel_rfl) (fun _ _ _ h => h) (Or.inl ⟨by rfl, fun w' hM => op_load hM 0 rfl 23 (.tmp 9) rfl 0 rfl [_, _] (by kernel_rfl) (by kernel_rfl) rfl⟩) hS ?_ ?_
  rotate_left
  · simp only [Act.put, List.setIfInBounds_toArray, List.set_cons_zero, List.set_cons_succ, i64_w, i32_w]
    rfl
  refine take_ (i := 3) (N := (some 17)) (v := _) (a' := ?_) #[true, true, false, true, true, false, false, false, false, false, false, false, false, false, false, false, false, false, false, false, false, false, false, false, false, false, false, false, false, false] rfl rfl (by kernel_rfl) (fun _ _ _ h => h) (Or.inl ⟨by rfl, fun w' hM => op_load hM 3 rfl 23 (.tmp 4) rfl 0 rfl [_, _] (by kernel_rfl) (by kernel_rfl) rfl⟩) hS ?_ ?_
  rotate_left
  · simp only [Act.put, List.setIfInBounds_toArray, List.set_cons_zero, List.set_cons_succ, i64_w, i32_w]
    rfl
  refine one_ (i := 2) (N := (some 16)) #[true, true, true, true, true, false, false, false, false, false, false, false, false, false, false, false, false, false, false, false, false, false, false, false, false, false, false, false, false, false] rfl rfl (by kernel_rfl) (by decide) (fun K hK => ?_)
  refine goes_ Try.func25 (by kernel_rfl) rfl #[.agg #[.int .i64 _, .int .i64 _], .int .i64 _] (by rfl) rfl rfl (by (try simp only [List.map_toArray, List.map_cons, List.map_nil]); first | done | rfl) ?_
  refine Calls.mono (by first | (with_reducible exact has_is H1 _) | (with_reducible exact has_is H2 _) | (with_reducible exact has_is H3 _)) ?_
  rintro e w8 ⟨rfl, hb⟩
  refine ⟨_, rfl, ?_⟩
  have M1 := M.call hb
  clear M hS hb
  have M := M1
  clear M1
  refine hK.out _ _ M (fun hS => ?_)
  clear hK K
  refine norm_ (a' := ?_) ?_ ?_
  rotate_left
  · show Act.put _ (some 16) _ = _
    simp only [Act.put, List.setIfInBounds_toArray, List.set_cons_zero, List.set_cons_succ, i64_w, i32_w]
    rfl
  refine one_ (i := 5) (N := (some 19)) #[true, true, true, true, true, true, false, false, false, false, false, false, false, false, false, false, false, false, false, false, false, false, false, false, false, false, false, false, false, false] rfl rfl (by kernel_rfl) (by decide) (fun K hK => ?_)
  refine goes_ Try.func25 (by kernel_rfl) rfl #[.agg #[.int .i64 _, .int .i64 _], .int .i64 _] (by rfl) rfl rfl (by (try simp only [List.map_toArray, List.map_cons, List.map_nil]); first | done | rfl) ?_
  refine Calls.mono (by first | (with_reducible exact has_is H1 _) | (with_reducible exact has_is H2 _) | (with_reducible exact has_is H3 _)) ?_
  rintro e w9 ⟨rfl, hb⟩
  refine ⟨_, rfl, ?_⟩
  have M1 := M.call hb
  clear M hS hb
  have M := M1
  clear M1
  refine hK.out _ _ M (fun hS => ?_)
  clear hK K
  refine norm_ (a' := ?_) ?_ ?_
  rotate_left
  · show Act.put _ (some 19) _ = _
    simp only [Act.put, List.setIfInBounds_toArray, List.set_cons_zero, List.set_cons_succ, i64_w, i32_w]
    rfl
  refine pure_ (i := 6) (N := (some 20)) (v := ?_) (a' := ?_) #[true, true, true, true, true, true, true, false, false, false, false, false, false, false, false, false, false, false, false, false, false, false, false, false, false, false, false, false, false, false] rfl rfl (by kernel_rfl) (fun _ _ _ h => h) (Or.inl ⟨by rfl, ?_⟩) ?_ ?_
  rotate_left
  · intro w'
    go_simp
    with_reducible rfl
  rotate_left
  · simp only [Act.put, List.setIfInBounds_toArray, List.set_cons_zero, List.set_cons_succ, i64_w, i32_w]
    rfl
  refine pure_ (i := 8) (N := (some 22)) (v := ?_) (a' := ?_) #[true, true, true, true, true, true, true, false, true, false, false, false, false, false, false, false, false, false, false, false, false, false, false, false, false, false, false, false, false, false] rfl rfl (by kernel_rfl) (fun _ _ _ h => h) (Or.inl ⟨by rfl, ?_⟩) ?_ ?_
  rotate_left
  · intro w'
    go_simp
    with_reducible rfl
  rotate_left
  · simp only [Act.put, List.setIfInBounds_toArray, List.set_cons_zero, List.set_cons_succ, i64_w, i32_w]
    rfl
  refine take_ (i := 7) (N := (some 21)) (v := _) (a' := ?_) #[true, true, true, true, true, true, true, true, true, false, false, false, false, false, false, false, false, false, false, false, false, false, false, false, false, false, false, false, false, false] rfl rfl (by kernel_rfl) (fun _ _ _ h => h) (Or.inl ⟨by rfl, fun w' hM => op_load hM 2 rfl 23 (.tmp 5) rfl 0 rfl [_, _] (by kernel_rfl) (by kernel_rfl) rfl⟩) hS ?_ ?_
  rotate_left
  · simp only [Act.put, List.setIfInBounds_toArray, List.set_cons_zero, List.set_cons_succ, i64_w, i32_w]
    rfl
  refine one_ (i := 9) (N := (some 23)) #[true, true, true, true, true, true, true, true, true, true, false, false, false, false, false, false, false, false, false, false, false, false, false, false, false, false, false, false, false, false] rfl rfl (by kernel_rfl) (by decide) (fun K hK => ?_)
  refine goes_ Try.func25 (by kernel_rfl) rfl #[.agg #[.int .i64 _, .int .i64 _], .int .i64 _] (by rfl) rfl rfl (by (try simp only [List.map_toArray, List.map_cons, List.map_nil]); first | done | rfl) ?_
  refine Calls.mono (by first | (with_reducible exact has_is H1 _) | (with_reducible exact has_is H2 _) | (with_reducible exact has_is H3 _)) ?_
  rintro e w10 ⟨rfl, hb⟩
  refine ⟨_, rfl, ?_⟩
  have M1 := M.call hb
  clear M hS hb
  have M := M1
  clear M1
  refine hK.out _ _ M (fun hS => ?_)
  clear hK K
  refine norm_ (a' := ?_) ?_ ?_
  rotate_left
  · show Act.put _ (some 23) _ = _
    simp only [Act.put, List.setIfInBounds_toArray, List.set_cons_zero, List.set_cons_succ, i64_w, i32_w]
    rfl
  refine pure_ (i := 10) (N := (some 24)) (v := ?_) (a' := ?_) #[true, true, true, true, true, true, true, true, true, true, true, false, false, false, false, false, false, false, false, false, false, false, false, false, false, false, false, false, false, false] rfl rfl (by kernel_rfl) (fun _ _ _ h => h) (Or.inl ⟨by rfl, ?_⟩) ?_ ?_
  rotate_left
  · intro w'
    go_simp
    with_reducible rfl
  rotate_left
  · simp only [Act.put, List.setIfInBounds_toArray, List.set_cons_zero, List.set_cons_succ, i64_w, i32_w]
    rfl
  refine pure_ (i := 11) (N := (some 25)) (v := ?_) (a' := ?_) #[true, true, true, true, true, true, true, true, true, true, true, true, false, false, false, false, false, false, false, false, false, false, false, false, false, false, false, false, false, false] rfl rfl (by kernel_rfl) (fun _ _ _ h => h) (Or.inl ⟨by rfl, ?_⟩) ?_ ?_
  rotate_left
  · intro w'
    go_simp
    with_reducible rfl
  rotate_left
  · simp only [Act.put, List.setIfInBounds_toArray, List.set_cons_zero, List.set_cons_succ, i64_w, i32_w]
    rfl
  refine pure_ (i := 12) (N := (some 26)) (v := ?_) (a' := ?_) #[true, true, true, true, true, true, true, true, true, true, true, true, true, false, false, false, false, false, false, false, false, false, false, false, false, false, false, false, false, false] rfl rfl (by kernel_rfl) (fun _ _ _ h => h) (Or.inl ⟨by rfl, ?_⟩) ?_ ?_
  rotate_left
  · intro w'
    go_simp
    with_reducible rfl
  rotate_left
  · simp only [Act.put, List.setIfInBounds_toArray, List.set_cons_zero, List.set_cons_succ, i64_w, i32_w]
    rfl
  refine take_ (i := 13) (N := (some 27)) (v := _) (a' := ?_) #[true, true, true, true, true, true, true, true, true, true, true, true, true, true, false, false, false, false, false, false, false, false, false, false, false, false, false, false, false, false] rfl rfl (by kernel_rfl) (fun _ _ _ h => h) (Or.inl ⟨by rfl, fun w' hM => op_load hM 0 rfl 23 (.tmp 9) rfl 0 rfl [_, _] (by kernel_rfl) (by kernel_rfl) rfl⟩) hS ?_ ?_
  rotate_left
  · simp only [Act.put, List.setIfInBounds_toArray, List.set_cons_zero, List.set_cons_succ, i64_w, i32_w]
    rfl
  refine take_ (i := 14) (N := (some 28)) (v := _) (a' := ?_) #[true, true, true, true, true, true, true, true, true, true, true, true, true, true, true, false, false, false, false, false, false, false, false, false, false, false, false, false, false, false] rfl rfl (by kernel_rfl) (fun _ _ _ h => h) (Or.inl ⟨by rfl, fun w' hM => op_load hM 2 rfl 23 (.tmp 5) rfl 0 rfl [_, _] (by kernel_rfl) (by kernel_rfl) rfl⟩) hS ?_ ?_
  rotate_left
  · simp only [Act.put, List.setIfInBounds_toArray, List.set_cons_zero, List.set_cons_succ, i64_w, i32_w]
    rfl
  refine take_ (i := 15) (N := (some 29)) (v := _) (a' := ?_) #[true, true, true, true, true, true, true, true, true, true, true, true, true, true, true, true, false, false, false, false, false, false, false, false, false, false, false, false, false, false] rfl rfl (by kernel_rfl) (fun _ _ _ h => h) (Or.inl ⟨by rfl, fun w' hM => op_load hM 3 rfl 23 (.tmp 4) rfl 0 rfl [_, _] (by kernel_rfl) (by kernel_rfl) rfl⟩) hS ?_ ?_
  rotate_left
  · simp only [Act.put, List.setIfInBounds_toArray, List.set_cons_zero, List.set_cons_succ, i64_w, i32_w]
    rfl
  refine one_ (i := 16) (N := (some 30)) #[true, true, true, true, true, true, true, true, true, true, true, true, true, true, true, true, true, false, false, false, false, false, false, false, false, false, false, false, false, false] rfl rfl (by kernel_rfl) (by decide) (fun K hK => ?_)
  refine goes_ Try.func20 (by kernel_rfl) rfl #[.agg #[.int .i64 _, .int .i64 _], .agg #[.int .i64 _, .int .i64 _]] (by rfl) rfl rfl (by (try simp only [List.map_toArray, List.map_cons, List.map_nil]); first | done | rfl) ?_
  refine Calls.mono (by first | (with_reducible exact meet_is M1 _) | (with_reducible exact meet_is M2 _) | (with_reducible exact meet_is M3 _) | (with_reducible exact meet_is M4 _) | (with_reducible exact meet_is M5 _)) ?_
  rintro e w11 ⟨rfl, hb⟩
  refine ⟨_, rfl, ?_⟩
  have M1 := M.call hb
  clear M hS hb
  have M := M1
  clear M1
  refine hK.out _ _ M (fun hS => ?_)
  clear hK K
  refine norm_ (a' := ?_) ?_ ?_
  rotate_left
  · show Act.put _ (some 30) _ = _
    simp only [Act.put, List.setIfInBounds_toArray, List.set_cons_zero, List.set_cons_succ, i64_w, i32_w]
    rfl
  refine pure_ (i := 17) (N := (some 31)) (v := ?_) (a' := ?_) #[true, true, true, true, true, true, true, true, true, true, true, true, true, true, true, true, true, true, false, false, false, false, false, false, false, false, false, false, false, false] rfl rfl (by kernel_rfl) (fun _ _ _ h => h) (Or.inl ⟨by rfl, ?_⟩) ?_ ?_
  rotate_left
  · intro w'
    go_simp
    with_reducible rfl
  rotate_left
  · simp only [Act.put, List.setIfInBounds_toArray, List.set_cons_zero, List.set_cons_succ, i64_w, i32_w]
    rfl
  refine pure_ (i := 18) (N := (some 32)) (v := ?_) (a' := ?_) #[true, true, true, true, true, true, true, true, true, true, true, true, true, true, true, true, true, true, true, false, false, false, false, false, false, false, false, false, false, false] rfl rfl (by kernel_rfl) (fun _ _ _ h => h) (Or.inl ⟨by rfl, ?_⟩) ?_ ?_
  rotate_left
  · intro w'
    go_simp
    with_reducible rfl
  rotate_left
  · simp only [Act.put, List.setIfInBounds_toArray, List.set_cons_zero, List.set_cons_succ, i64_w, i32_w]
    rfl
  refine pure_ (i := 19) (N := (some 33)) (v := ?_) (a' := ?_) #[true, true, true, true, true, true, true, true, true, true, true, true, true, true, true, true, true, true, true, true, false, false, false, false, false, false, false, false, false, false] rfl rfl (by kernel_rfl) (fun _ _ _ h => h) (Or.inl ⟨by rfl, ?_⟩) ?_ ?_
  rotate_left
  · intro w'
    go_simp
    with_reducible rfl
  rotate_left
  · simp only [Act.put, List.setIfInBounds_toArray, List.set_cons_zero, List.set_cons_succ, i64_w, i32_w]
    rfl
  refine take_ (i := 20) (N := (some 34)) (v := _) (a' := ?_) #[true, true, true, true, true, true, true, true, true, true, true, true, true, true, true, true, true, true, true, true, true, false, false, false, false, false, false, false, false, false] rfl rfl (by kernel_rfl) (fun _ _ _ h => h) (Or.inl ⟨by rfl, fun w' hM => op_load hM 0 rfl 23 (.tmp 9) rfl 0 rfl [_, _] (by kernel_rfl) (by kernel_rfl) rfl⟩) hS ?_ ?_
  rotate_left
  · simp only [Act.put, List.setIfInBounds_toArray, List.set_cons_zero, List.set_cons_succ, i64_w, i32_w]
    rfl
  refine take_ (i := 21) (N := (some 35)) (v := _) (a' := ?_) #[true, true, true, true, true, true, true, true, true, true, true, true, true, true, true, true, true, true, true, true, true, true, false, false, false, false, false, false, false, false] rfl rfl (by kernel_rfl) (fun _ _ _ h => h) (Or.inl ⟨by rfl, fun w' hM => op_load hM 1 rfl 23 (.tmp 6) rfl 0 rfl [_, _] (by kernel_rfl) (by kernel_rfl) rfl⟩) hS ?_ ?_
  rotate_left
  · simp only [Act.put, List.setIfInBounds_toArray, List.set_cons_zero, List.set_cons_succ, i64_w, i32_w]
    rfl
  refine take_ (i := 23) (N := (some 37)) (v := _) (a' := ?_) #[true, true, true, true, true, true, true, true, true, true, true, true, true, true, true, true, true, true, true, true, true, true, false, true, false, false, false, false, false, false] rfl rfl (by kernel_rfl) (fun _ _ _ h => h) (Or.inl ⟨by rfl, fun w' hM => op_load hM 3 rfl 23 (.tmp 4) rfl 0 rfl [_, _] (by kernel_rfl) (by kernel_rfl) rfl⟩) hS ?_ ?_
  rotate_left
  · simp only [Act.put, List.setIfInBounds_toArray, List.set_cons_zero, List.set_cons_succ, i64_w, i32_w]
    rfl
  refine take_ (i := 24) (N := (some 38)) (v := _) (a' := ?_) #[true, true, true, true, true, true, true, true, true, true, true, true, true, true, true, true, true, true, true, true, true, true, false, true, true, false, false, false, false, false] rfl rfl (by kernel_rfl) (fun _ _ _ h => h) (Or.inl ⟨by rfl, fun w' hM => op_load hM 2 rfl 23 (.tmp 5) rfl 0 rfl [_, _] (by kernel_rfl) (by kernel_rfl) rfl⟩) hS ?_ ?_
  rotate_left
  · simp only [Act.put, List.setIfInBounds_toArray, List.set_cons_zero, List.set_cons_succ, i64_w, i32_w]
    rfl
  refine take_ (i := 25) (N := (some 39)) (v := _) (a' := ?_) #[true, true, true, true, true, true, true, true, true, true, true, true, true, true, true, true, true, true, true, true, true, true, false, true, true, true, false, false, false, false] rfl rfl (by kernel_rfl) (fun _ _ _ h => h) (Or.inl ⟨by rfl, fun w' hM => op_load hM 1 rfl 23 (.tmp 6) rfl 0 rfl [_, _] (by kernel_rfl) (by kernel_rfl) rfl⟩) hS ?_ ?_
  rotate_left
  · simp only [Act.put, List.setIfInBounds_toArray, List.set_cons_zero, List.set_cons_succ, i64_w, i32_w]
    rfl
  refine one_ (i := 22) (N := (some 36)) #[true, true, true, true, true, true, true, true, true, true, true, true, true, true, true, true, true, true, true, true, true, true, true, true, true, true, false, false, false, false] rfl rfl (by kernel_rfl) (by decide) (fun K hK => ?_)
  refine goes_ Try.func20 (by kernel_rfl) rfl #[.agg #[.int .i64 _, .int .i64 _], .agg #[.int .i64 _, .int .i64 _]] (by rfl) rfl rfl (by (try simp only [List.map_toArray, List.map_cons, List.map_nil]); first | done | rfl) ?_
  refine Calls.mono (by first | (with_reducible exact meet_is M1 _) | (with_reducible exact meet_is M2 _) | (with_reducible exact meet_is M3 _) | (with_reducible exact meet_is M4 _) | (with_reducible exact meet_is M5 _)) ?_
  rintro e w12 ⟨rfl, hb⟩
  refine ⟨_, rfl, ?_⟩
  have M1 := M.call hb
  clear M hS hb
  have M := M1
  clear M1
  refine hK.out _ _ M (fun hS => ?_)
  clear hK K
  refine norm_ (a' := ?_) ?_ ?_
  rotate_left
  · show Act.put _ (some 36) _ = _
    simp only [Act.put, List.setIfInBounds_toArray, List.set_cons_zero, List.set_cons_succ, i64_w, i32_w]
    rfl
  refine one_ (i := 26) (N := (some 40)) #[true, true, true, true, true, true, true, true, true, true, true, true, true, true, true, true, true, true, true, true, true, true, true, true, true, true, true, false, false, false] rfl rfl (by kernel_rfl) (by decide) (fun K hK => ?_)
  refine goes_ Try.func20 (by kernel_rfl) rfl #[.agg #[.int .i64 _, .int .i64 _], .agg #[.int .i64 _, .int .i64 _]] (by rfl) rfl rfl (by (try simp only [List.map_toArray, List.map_cons, List.map_nil]); first | done | rfl) ?_
  refine Calls.mono (by first | (with_reducible exact meet_is M1 _) | (with_reducible exact meet_is M2 _) | (with_reducible exact meet_is M3 _) | (with_reducible exact meet_is M4 _) | (with_reducible exact meet_is M5 _)) ?_
  rintro e w13 ⟨rfl, hb⟩
  refine ⟨_, rfl, ?_⟩
  have M1 := M.call hb
  clear M hS hb
  have M := M1
  clear M1
  refine hK.out _ _ M (fun hS => ?_)
  clear hK K
  refine norm_ (a' := ?_) ?_ ?_
  rotate_left
  · show Act.put _ (some 40) _ = _
    simp only [Act.put, List.setIfInBounds_toArray, List.set_cons_zero, List.set_cons_succ, i64_w, i32_w]
    rfl
  refine one_ (i := 27) (N := (some 41)) #[true, true, true, true, true, true, true, true, true, true, true, true, true, true, true, true, true, true, true, true, true, true, true, true, true, true, true, true, false, false] rfl rfl (by kernel_rfl) (by decide) (fun K hK => ?_)
  refine goes_ Try.func20 (by kernel_rfl) rfl #[.agg #[.int .i64 _, .int .i64 _], .agg #[.int .i64 _, .int .i64 _]] (by rfl) rfl rfl (by (try simp only [List.map_toArray, List.map_cons, List.map_nil]); first | done | rfl) ?_
  refine Calls.mono (by first | (with_reducible exact meet_is M1 _) | (with_reducible exact meet_is M2 _) | (with_reducible exact meet_is M3 _) | (with_reducible exact meet_is M4 _) | (with_reducible exact meet_is M5 _)) ?_
  rintro e w14 ⟨rfl, hb⟩
  refine ⟨_, rfl, ?_⟩
  have M1 := M.call hb
  clear M hS hb
  have M := M1
  clear M1
  refine hK.out _ _ M (fun hS => ?_)
  clear hK K
  refine norm_ (a' := ?_) ?_ ?_
  rotate_left
  · show Act.put _ (some 41) _ = _
    simp only [Act.put, List.setIfInBounds_toArray, List.set_cons_zero, List.set_cons_succ, i64_w, i32_w]
    rfl
  refine pure_ (i := 28) (N := (some 42)) (v := ?_) (a' := ?_) #[true, true, true, true, true, true, true, true, true, true, true, true, true, true, true, true, true, true, true, true, true, true, true, true, true, true, true, true, true, false] rfl rfl (by kernel_rfl) (fun _ _ _ h => h) (Or.inl ⟨by rfl, ?_⟩) ?_ ?_
  rotate_left
  · intro w'
    go_simp
    with_reducible rfl
  rotate_left
  · simp only [Act.put, List.setIfInBounds_toArray, List.set_cons_zero, List.set_cons_succ, i64_w, i32_w]
    rfl
  refine pure_ (i := 29) (N := (some 43)) (v := ?_) (a' := ?_) #[true, true, true, true, true, true, true, true, true, true, true, true, true, true, true, true, true, true, true, true, true, true, true, true, true, true, true, true, true, true] rfl rfl (by kernel_rfl) (fun _ _ _ h => h) (Or.inl ⟨by rfl, ?_⟩) ?_ ?_
  rotate_left
  · intro w'
    go_simp
    with_reducible rfl
  rotate_left
  · simp only [Act.put, List.setIfInBounds_toArray, List.set_cons_zero, List.set_cons_succ, i64_w, i32_w]
    rfl
  refine done_ (by kernel_rfl) ?_
  try clear hS
  refine hK4 _ _ ?_
  clear hK4
  try clear K4
  refine wp_cond_false rfl ?_
  refine wp_skip ?_
  refine hK3 _ _ ?_
  clear hK3
  try clear K3
  refine wp_seq_k (fun K5 hK5 => ?_)
  refine wp_seq_k (fun K6 hK6 => ?_)
  refine wp_region_lit ?_
  refine ev_load M 0 rfl (N := 44) rfl rfl 23 (.tmp 9) rfl 0 rfl [_, _] (by kernel_rfl) (by kernel_rfl) rfl ?_
  refine ev_norm (a' := ?_) ?_ ?_
  rotate_left
  · simp only [Act.put, List.setIfInBounds_toArray, List.set_cons_zero, List.set_cons_succ, i64_w, i32_w]
    rfl
  refine ev_call (some 45) rfl rfl Try.func23 (by kernel_rfl) rfl #[.agg #[.int .i64 _, .int .i64 _]] rfl (by (try simp only [List.map_toArray, List.map_cons, List.map_nil]); first | done | rfl) (by first | (with_reducible exact empty_is E1 _) | (with_reducible exact empty_is E2 _)) rfl M ?_
  intro w15 M1
  clear M
  have M := M1
  clear M1
  refine ev_norm (a' := ?_) ?_ ?_
  rotate_left
  · simp only [Act.put, List.setIfInBounds_toArray, List.set_cons_zero, List.set_cons_succ, i64_w, i32_w]
    rfl
  refine ev_pure 46 (v := ?_) (a' := ?_) rfl rfl ?_ ?_ ?_
  rotate_left 2
  · intro w'
    go_simp
    with_reducible rfl
  · simp only [Act.put, List.setIfInBounds_toArray, List.set_cons_zero, List.set_cons_succ, i64_w, i32_w]
    rfl
  refine ev_off (some 47) (a' := ?_) rfl rfl ?_ ?_
  rotate_left
  · simp only [Act.put, List.setIfInBounds_toArray, List.set_cons_zero, List.set_cons_succ, i64_w, i32_w]
    rfl
  refine ev_off (some 48) (a' := ?_) rfl rfl ?_ ?_
  rotate_left
  · simp only [Act.put, List.setIfInBounds_toArray, List.set_cons_zero, List.set_cons_succ, i64_w, i32_w]
    rfl
  refine ev_off (some 49) (a' := ?_) rfl rfl ?_ ?_
  rotate_left
  · simp only [Act.put, List.setIfInBounds_toArray, List.set_cons_zero, List.set_cons_succ, i64_w, i32_w]
    rfl
  refine ev_pure 50 (v := ?_) (a' := ?_) rfl rfl ?_ ?_ ?_
  rotate_left 2
  · intro w'
    go_simp
    with_reducible rfl
  · simp only [Act.put, List.setIfInBounds_toArray, List.set_cons_zero, List.set_cons_succ, i64_w, i32_w]
    rfl
  refine ev_pure 51 (v := ?_) (a' := ?_) rfl rfl ?_ ?_ ?_
  rotate_left 2
  · intro w'
    go_simp
    with_reducible rfl
  · simp only [Act.put, List.setIfInBounds_toArray, List.set_cons_zero, List.set_cons_succ, i64_w, i32_w]
    rfl
  refine ev_load M 0 rfl (N := 52) rfl rfl 23 (.tmp 9) rfl 0 rfl [_, _] (by kernel_rfl) (by kernel_rfl) rfl ?_
  refine ev_norm (a' := ?_) ?_ ?_
  rotate_left
  · simp only [Act.put, List.setIfInBounds_toArray, List.set_cons_zero, List.set_cons_succ, i64_w, i32_w]
    rfl
  refine ev_load M 3 rfl (N := 53) rfl rfl 23 (.tmp 4) rfl 0 rfl [_, _] (by kernel_rfl) (by kernel_rfl) rfl ?_
  refine ev_norm (a' := ?_) ?_ ?_
  rotate_left
  · simp only [Act.put, List.setIfInBounds_toArray, List.set_cons_zero, List.set_cons_succ, i64_w, i32_w]
    rfl
  refine ev_call (some 54) rfl rfl Try.func24 (by kernel_rfl) rfl #[.agg #[.int .i64 _, .int .i64 _], .agg #[.int .i64 _, .int .i64 _]] rfl (by (try simp only [List.map_toArray, List.map_cons, List.map_nil]); first | done | rfl) (by first | (with_reducible exact within_is W1 _) | (with_reducible exact within_is W2 _) | (with_reducible exact within_is W3 _) | (with_reducible exact within_is W4 _)) rfl M ?_
  intro w16 M1
  clear M
  have M := M1
  clear M1
  refine ev_norm (a' := ?_) ?_ ?_
  rotate_left
  · simp only [Act.put, List.setIfInBounds_toArray, List.set_cons_zero, List.set_cons_succ, i64_w, i32_w]
    rfl
  refine ev_pure 55 (v := ?_) (a' := ?_) rfl rfl ?_ ?_ ?_
  rotate_left 2
  · intro w'
    go_simp
    with_reducible rfl
  · simp only [Act.put, List.setIfInBounds_toArray, List.set_cons_zero, List.set_cons_succ, i64_w, i32_w]
    rfl
  refine ev_pure 56 (v := ?_) (a' := ?_) rfl rfl ?_ ?_ ?_
  rotate_left 2
  · intro w'
    go_simp
    with_reducible rfl
  · simp only [Act.put, List.setIfInBounds_toArray, List.set_cons_zero, List.set_cons_succ, i64_w, i32_w]
    rfl
  refine ev_pure 57 (v := ?_) (a' := ?_) rfl rfl ?_ ?_ ?_
  rotate_left 2
  · intro w'
    go_simp
    with_reducible rfl
  · simp only [Act.put, List.setIfInBounds_toArray, List.set_cons_zero, List.set_cons_succ, i64_w, i32_w]
    rfl
  refine ev_load M 0 rfl (N := 58) rfl rfl 23 (.tmp 9) rfl 0 rfl [_, _] (by kernel_rfl) (by kernel_rfl) rfl ?_
  refine ev_norm (a' := ?_) ?_ ?_
  rotate_left
  · simp only [Act.put, List.setIfInBounds_toArray, List.set_cons_zero, List.set_cons_succ, i64_w, i32_w]
    rfl
  refine ev_load M 2 rfl (N := 59) rfl rfl 23 (.tmp 5) rfl 0 rfl [_, _] (by kernel_rfl) (by kernel_rfl) rfl ?_
  refine ev_norm (a' := ?_) ?_ ?_
  rotate_left
  · simp only [Act.put, List.setIfInBounds_toArray, List.set_cons_zero, List.set_cons_succ, i64_w, i32_w]
    rfl
  refine ev_call (some 60) rfl rfl Try.func24 (by kernel_rfl) rfl #[.agg #[.int .i64 _, .int .i64 _], .agg #[.int .i64 _, .int .i64 _]] rfl (by (try simp only [List.map_toArray, List.map_cons, List.map_nil]); first | done | rfl) (by first | (with_reducible exact within_is W1 _) | (with_reducible exact within_is W2 _) | (with_reducible exact within_is W3 _) | (with_reducible exact within_is W4 _)) rfl M ?_
  intro w17 M1
  clear M
  have M := M1
  clear M1
  refine ev_norm (a' := ?_) ?_ ?_
  rotate_left
  · simp only [Act.put, List.setIfInBounds_toArray, List.set_cons_zero, List.set_cons_succ, i64_w, i32_w]
    rfl
  refine ev_pure 61 (v := ?_) (a' := ?_) rfl rfl ?_ ?_ ?_
  rotate_left 2
  · intro w'
    go_simp
    with_reducible rfl
  · simp only [Act.put, List.setIfInBounds_toArray, List.set_cons_zero, List.set_cons_succ, i64_w, i32_w]
    rfl
  refine ev_pure 62 (v := ?_) (a' := ?_) rfl rfl ?_ ?_ ?_
  rotate_left 2
  · intro w'
    go_simp
    with_reducible rfl
  · simp only [Act.put, List.setIfInBounds_toArray, List.set_cons_zero, List.set_cons_succ, i64_w, i32_w]
    rfl
  refine ev_pure 63 (v := ?_) (a' := ?_) rfl rfl ?_ ?_ ?_
  rotate_left 2
  · intro w'
    go_simp
    with_reducible rfl
  · simp only [Act.put, List.setIfInBounds_toArray, List.set_cons_zero, List.set_cons_succ, i64_w, i32_w]
    rfl
  refine ev_load M 3 rfl (N := 64) rfl rfl 23 (.tmp 4) rfl 0 rfl [_, _] (by kernel_rfl) (by kernel_rfl) rfl ?_
  refine ev_norm (a' := ?_) ?_ ?_
  rotate_left
  · simp only [Act.put, List.setIfInBounds_toArray, List.set_cons_zero, List.set_cons_succ, i64_w, i32_w]
    rfl
  refine ev_load M 3 rfl (N := 65) rfl rfl 23 (.tmp 4) rfl 0 rfl [_, _] (by kernel_rfl) (by kernel_rfl) rfl ?_
  refine ev_norm (a' := ?_) ?_ ?_
  rotate_left
  · simp only [Act.put, List.setIfInBounds_toArray, List.set_cons_zero, List.set_cons_succ, i64_w, i32_w]
    rfl
  refine ev_call (some 66) rfl rfl Try.func24 (by kernel_rfl) rfl #[.agg #[.int .i64 _, .int .i64 _], .agg #[.int .i64 _, .int .i64 _]] rfl (by (try simp only [List.map_toArray, List.map_cons, List.map_nil]); first | done | rfl) (by first | (with_reducible exact within_is W1 _) | (with_reducible exact within_is W2 _) | (with_reducible exact within_is W3 _) | (with_reducible exact within_is W4 _)) rfl M ?_
  intro w18 M1
  clear M
  have M := M1
  clear M1
  refine ev_norm (a' := ?_) ?_ ?_
  rotate_left
  · simp only [Act.put, List.setIfInBounds_toArray, List.set_cons_zero, List.set_cons_succ, i64_w, i32_w]
    rfl
  refine ev_pure 67 (v := ?_) (a' := ?_) rfl rfl ?_ ?_ ?_
  rotate_left 2
  · intro w'
    go_simp
    with_reducible rfl
  · simp only [Act.put, List.setIfInBounds_toArray, List.set_cons_zero, List.set_cons_succ, i64_w, i32_w]
    rfl
  refine ev_pure 68 (v := ?_) (a' := ?_) rfl rfl ?_ ?_ ?_
  rotate_left 2
  · intro w'
    go_simp
    with_reducible rfl
  · simp only [Act.put, List.setIfInBounds_toArray, List.set_cons_zero, List.set_cons_succ, i64_w, i32_w]
    rfl
  refine wpList_nil ?_
  refine hK6 _ _ ?_
  clear hK6
  try clear K6
  refine wp_cond_false rfl ?_
  refine wp_skip ?_
  refine hK5 _ _ ?_
  clear hK5
  try clear K5
  refine wp_seq_k (fun K7 hK7 => ?_)
  refine wp_region_lit ?_
  refine ev_load M 0 rfl (N := 69) rfl rfl 23 (.tmp 9) rfl 0 rfl [_, _] (by kernel_rfl) (by kernel_rfl) rfl ?_
  refine ev_norm (a' := ?_) ?_ ?_
  rotate_left
  · simp only [Act.put, List.setIfInBounds_toArray, List.set_cons_zero, List.set_cons_succ, i64_w, i32_w]
    rfl
  refine ev_load M 3 rfl (N := 70) rfl rfl 23 (.tmp 4) rfl 0 rfl [_, _] (by kernel_rfl) (by kernel_rfl) rfl ?_
  refine ev_norm (a' := ?_) ?_ ?_
  rotate_left
  · simp only [Act.put, List.setIfInBounds_toArray, List.set_cons_zero, List.set_cons_succ, i64_w, i32_w]
    rfl
  refine ev_pure 71 (v := ?_) (a' := ?_) rfl rfl ?_ ?_ ?_
  rotate_left 2
  · intro w'
    go_simp
    with_reducible rfl
  · simp only [Act.put, List.setIfInBounds_toArray, List.set_cons_zero, List.set_cons_succ, i64_w, i32_w]
    rfl
  refine ev_pure 72 (v := ?_) (a' := ?_) rfl rfl ?_ ?_ ?_
  rotate_left 2
  · intro w'
    go_simp
    with_reducible rfl
  · simp only [Act.put, List.setIfInBounds_toArray, List.set_cons_zero, List.set_cons_succ, i64_w, i32_w]
    rfl
  refine ev_load M 3 rfl (N := 73) rfl rfl 23 (.tmp 4) rfl 0 rfl [_, _] (by kernel_rfl) (by kernel_rfl) rfl ?_
  refine ev_norm (a' := ?_) ?_ ?_
  rotate_left
  · simp only [Act.put, List.setIfInBounds_toArray, List.set_cons_zero, List.set_cons_succ, i64_w, i32_w]
    rfl
  refine ev_call (some 74) rfl rfl Try.func23 (by kernel_rfl) rfl #[.agg #[.int .i64 _, .int .i64 _]] rfl (by (try simp only [List.map_toArray, List.map_cons, List.map_nil]); first | done | rfl) (by first | (with_reducible exact empty_is E1 _) | (with_reducible exact empty_is E2 _)) rfl M ?_
  intro w19 M1
  clear M
  have M := M1
  clear M1
  refine ev_norm (a' := ?_) ?_ ?_
  rotate_left
  · simp only [Act.put, List.setIfInBounds_toArray, List.set_cons_zero, List.set_cons_succ, i64_w, i32_w]
    rfl
  refine ev_pure 75 (v := ?_) (a' := ?_) rfl rfl ?_ ?_ ?_
  rotate_left 2
  · intro w'
    go_simp
    with_reducible rfl
  · simp only [Act.put, List.setIfInBounds_toArray, List.set_cons_zero, List.set_cons_succ, i64_w, i32_w]
    rfl
  refine ev_pure 10 (v := ?_) (a' := ?_) rfl rfl ?_ ?_ ?_
  rotate_left 2
  · intro w'
    go_simp
    with_reducible rfl
  · simp only [Act.put, List.setIfInBounds_toArray, List.set_cons_zero, List.set_cons_succ, i64_w, i32_w]
    rfl
  refine wpList_nil ?_
  refine hK7 _ _ ?_
  clear hK7
  try clear K7
  refine wp_seq_k (fun K8 hK8 => ?_)
  refine start_ (n := 16) (S := fun w' => Mem w w' _) (ds := []) #[false, false, false, false, false, false, false, false, false, false, false, false, false, false, false, false] (by kernel_rfl) rfl rfl M.drew (fun hS => ?_)
  clear M
  generalize World.drew _ = w20 at hS ⊢
  have M := hS
  refine pure_ (i := 3) (N := (some 79)) (v := ?_) (a' := ?_) #[false, false, false, true, false, false, false, false, false, false, false, false, false, false, false, false] rfl rfl (by kernel_rfl) (fun _ _ _ h => h) (Or.inl ⟨by rfl, ?_⟩) ?_ ?_
  rotate_left
  · intro w'
    go_simp
    with_reducible rfl
  rotate_left
  · simp only [Act.put, List.setIfInBounds_toArray, List.set_cons_zero, List.set_cons_succ, i64_w, i32_w]
    rfl
  refine take_ (i := 0) (N := (some 76)) (v := _) (a' := ?_) #[true, false, false, true, false, false, false, false, false, false, false, false, false, false, false, false] rfl rfl (by kernel_rfl) (fun _ _ _ h => h) (Or.inl ⟨by rfl, fun w' hM => op_load hM 3 rfl 23 (.tmp 4) rfl 0 rfl [_, _] (by kernel_rfl) (by kernel_rfl) rfl⟩) hS ?_ ?_
  rotate_left
  · simp only [Act.put, List.setIfInBounds_toArray, List.set_cons_zero, List.set_cons_succ, i64_w, i32_w]
    rfl
  refine take_ (i := 1) (N := (some 77)) (v := _) (a' := ?_) #[true, true, false, true, false, false, false, false, false, false, false, false, false, false, false, false] rfl rfl (by kernel_rfl) (fun _ _ _ h => h) (Or.inl ⟨by rfl, fun w' hM => op_load hM 2 rfl 23 (.tmp 5) rfl 0 rfl [_, _] (by kernel_rfl) (by kernel_rfl) rfl⟩) hS ?_ ?_
  rotate_left
  · simp only [Act.put, List.setIfInBounds_toArray, List.set_cons_zero, List.set_cons_succ, i64_w, i32_w]
    rfl
  refine one_ (i := 2) (N := (some 78)) #[true, true, true, true, false, false, false, false, false, false, false, false, false, false, false, false] rfl rfl (by kernel_rfl) (by decide) (fun K hK => ?_)
  refine goes_ Try.func24 (by kernel_rfl) rfl #[.agg #[.int .i64 _, .int .i64 _], .agg #[.int .i64 _, .int .i64 _]] (by rfl) rfl rfl (by (try simp only [List.map_toArray, List.map_cons, List.map_nil]); first | done | rfl) ?_
  refine Calls.mono (by first | (with_reducible exact within_is W1 _) | (with_reducible exact within_is W2 _) | (with_reducible exact within_is W3 _) | (with_reducible exact within_is W4 _)) ?_
  rintro e w21 ⟨rfl, hb⟩
  refine ⟨_, rfl, ?_⟩
  have M1 := M.call hb
  clear M hS hb
  have M := M1
  clear M1
  refine hK.out _ _ M (fun hS => ?_)
  clear hK K
  refine norm_ (a' := ?_) ?_ ?_
  rotate_left
  · show Act.put _ (some 78) _ = _
    simp only [Act.put, List.setIfInBounds_toArray, List.set_cons_zero, List.set_cons_succ, i64_w, i32_w]
    rfl
  refine pure_ (i := 4) (N := (some 80)) (v := ?_) (a' := ?_) #[true, true, true, true, true, false, false, false, false, false, false, false, false, false, false, false] rfl rfl (by kernel_rfl) (fun _ _ _ h => h) (Or.inl ⟨by rfl, ?_⟩) ?_ ?_
  rotate_left
  · intro w'
    go_simp
    with_reducible rfl
  rotate_left
  · simp only [Act.put, List.setIfInBounds_toArray, List.set_cons_zero, List.set_cons_succ, i64_w, i32_w]
    rfl
  refine pure_ (i := 5) (N := (some 81)) (v := ?_) (a' := ?_) #[true, true, true, true, true, true, false, false, false, false, false, false, false, false, false, false] rfl rfl (by kernel_rfl) (fun _ _ _ h => h) (Or.inl ⟨by rfl, ?_⟩) ?_ ?_
  rotate_left
  · intro w'
    go_simp
    with_reducible rfl
  rotate_left
  · simp only [Act.put, List.setIfInBounds_toArray, List.set_cons_zero, List.set_cons_succ, i64_w, i32_w]
    rfl
  refine take_ (i := 6) (N := (some 82)) (v := _) (a' := ?_) #[true, true, true, true, true, true, true, false, false, false, false, false, false, false, false, false] rfl rfl (by kernel_rfl) (fun _ _ _ h => h) (Or.inl ⟨by rfl, fun w' hM => op_load hM 0 rfl 23 (.tmp 9) rfl 0 rfl [_, _] (by kernel_rfl) (by kernel_rfl) rfl⟩) hS ?_ ?_
  rotate_left
  · simp only [Act.put, List.setIfInBounds_toArray, List.set_cons_zero, List.set_cons_succ, i64_w, i32_w]
    rfl
  refine take_ (i := 7) (N := (some 83)) (v := _) (a' := ?_) #[true, true, true, true, true, true, true, true, false, false, false, false, false, false, false, false] rfl rfl (by kernel_rfl) (fun _ _ _ h => h) (Or.inl ⟨by rfl, fun w' hM => op_load hM 3 rfl 23 (.tmp 4) rfl 0 rfl [_, _] (by kernel_rfl) (by kernel_rfl) rfl⟩) hS ?_ ?_
  rotate_left
  · simp only [Act.put, List.setIfInBounds_toArray, List.set_cons_zero, List.set_cons_succ, i64_w, i32_w]
    rfl
  refine take_ (i := 8) (N := (some 84)) (v := _) (a' := ?_) #[true, true, true, true, true, true, true, true, true, false, false, false, false, false, false, false] rfl rfl (by kernel_rfl) (fun _ _ _ h => h) (Or.inl ⟨by rfl, fun w' hM => op_load hM 2 rfl 23 (.tmp 5) rfl 0 rfl [_, _] (by kernel_rfl) (by kernel_rfl) rfl⟩) hS ?_ ?_
  rotate_left
  · simp only [Act.put, List.setIfInBounds_toArray, List.set_cons_zero, List.set_cons_succ, i64_w, i32_w]
    rfl
  refine one_ (i := 9) (N := (some 85)) #[true, true, true, true, true, true, true, true, true, true, false, false, false, false, false, false] rfl rfl (by kernel_rfl) (by decide) (fun K hK => ?_)
  refine goes_ Try.func26 (by kernel_rfl) rfl #[.agg #[.int .i64 _, .int .i64 _], .agg #[.int .i64 _, .int .i64 _]] (by rfl) rfl rfl (by (try simp only [List.map_toArray, List.map_cons, List.map_nil]); first | done | rfl) ?_
  refine Calls.mono (by first | (with_reducible exact rmeet_is M1 _)) ?_
  rintro e w22 ⟨rfl, hb⟩
  refine ⟨_, rfl, ?_⟩
  have M1 := M.call hb
  clear M hS hb
  have M := M1
  clear M1
  refine hK.out _ _ M (fun hS => ?_)
  clear hK K
  refine norm_ (a' := ?_) ?_ ?_
  rotate_left
  · show Act.put _ (some 85) _ = _
    simp only [Act.put, List.setIfInBounds_toArray, List.set_cons_zero, List.set_cons_succ, i64_w, i32_w]
    rfl
  refine pure_ (i := 10) (N := (some 86)) (v := ?_) (a' := ?_) #[true, true, true, true, true, true, true, true, true, true, true, false, false, false, false, false] rfl rfl (by kernel_rfl) (fun _ _ _ h => h) (Or.inl ⟨by rfl, ?_⟩) ?_ ?_
  rotate_left
  · intro w'
    go_simp
    with_reducible rfl
  rotate_left
  · simp only [Act.put, List.setIfInBounds_toArray, List.set_cons_zero, List.set_cons_succ, i64_w, i32_w]
    rfl
  refine pure_ (i := 11) (N := (some 87)) (v := ?_) (a' := ?_) #[true, true, true, true, true, true, true, true, true, true, true, true, false, false, false, false] rfl rfl (by kernel_rfl) (fun _ _ _ h => h) (Or.inl ⟨by rfl, ?_⟩) ?_ ?_
  rotate_left
  · intro w'
    go_simp
    with_reducible rfl
  rotate_left
  · simp only [Act.put, List.setIfInBounds_toArray, List.set_cons_zero, List.set_cons_succ, i64_w, i32_w]
    rfl
  refine pure_ (i := 12) (N := (some 88)) (v := ?_) (a' := ?_) #[true, true, true, true, true, true, true, true, true, true, true, true, true, false, false, false] rfl rfl (by kernel_rfl) (fun _ _ _ h => h) (Or.inl ⟨by rfl, ?_⟩) ?_ ?_
  rotate_left
  · intro w'
    go_simp
    with_reducible rfl
  rotate_left
  · simp only [Act.put, List.setIfInBounds_toArray, List.set_cons_zero, List.set_cons_succ, i64_w, i32_w]
    rfl
  refine one_ (i := 13) (N := (some 89)) #[true, true, true, true, true, true, true, true, true, true, true, true, true, true, false, false] rfl rfl (by kernel_rfl) (by decide) (fun K hK => ?_)
  refine goes_ Try.func5 (by kernel_rfl) rfl #[] (by rfl) rfl rfl (by (try simp only [List.map_toArray, List.map_cons, List.map_nil]); first | done | rfl) ?_
  refine Calls.mono (by first | (with_reducible exact runs_is _)) ?_
  rintro e w23 ⟨rfl, hb⟩
  refine ⟨_, rfl, ?_⟩
  have M1 := M.call hb
  clear M hS hb
  have M := M1
  clear M1
  refine hK.out _ _ M (fun hS => ?_)
  clear hK K
  refine norm_ (a' := ?_) ?_ ?_
  rotate_left
  · show Act.put _ (some 89) _ = _
    simp only [Act.put, List.setIfInBounds_toArray, List.set_cons_zero, List.set_cons_succ, i64_w, i32_w]
    rfl
  refine pure_ (i := 14) (N := (some 90)) (v := ?_) (a' := ?_) #[true, true, true, true, true, true, true, true, true, true, true, true, true, true, true, false] rfl rfl (by kernel_rfl) (fun _ _ _ h => h) (Or.inl ⟨by rfl, ?_⟩) ?_ ?_
  rotate_left
  · intro w'
    go_simp
    with_reducible rfl
  rotate_left
  · simp only [Act.put, List.setIfInBounds_toArray, List.set_cons_zero, List.set_cons_succ, i64_w, i32_w]
    rfl
  refine pure_ (i := 15) (N := (some 8)) (v := ?_) (a' := ?_) #[true, true, true, true, true, true, true, true, true, true, true, true, true, true, true, true] rfl rfl (by kernel_rfl) (fun _ _ _ h => h) (Or.inl ⟨by rfl, ?_⟩) ?_ ?_
  rotate_left
  · intro w'
    go_simp
    with_reducible rfl
  rotate_left
  · simp only [Act.put, List.setIfInBounds_toArray, List.set_cons_zero, List.set_cons_succ, i64_w, i32_w]
    rfl
  refine done_ (by kernel_rfl) ?_
  try clear hS
  refine hK8 _ _ ?_
  clear hK8
  try clear K8
  refine wp_ret ?_
  (try simp only [Exit.inBlock, Exit.then])
  refine bodyPost_ret (res1 rfl (rv_tmp 8)) rfl ⟨?_, M.below⟩
  rfl
set_option maxHeartbeats 8000000 in
set_option maxRecDepth 100000 in
theorem wayTFG (w : World) {a1 m0 m1 b0 b1 c0 c1 n d0 d1 f0 f1 : Int} {hb same : Bool}
    (M1 : meetS (m0, a1) (b0, b1) = (m0, m1)) (M2 : meetS (b0, b1) (m0, a1) = (m0, m1)) (M3 : meetS (m0, m1) (c0, c1) = (d0, d1)) (M4 : meetS (b0, b1) (c0, c1) = (f0, f1)) (M5 : meetS (m0, a1) (f0, f1) = (d0, d1))
    (H1 : (decide (m0 ≤ n) && decide (n ≤ m1)) = hb) (H2 : (decide (m0 ≤ n) && decide (n ≤ a1)) = true) (H3 : (decide (b0 ≤ n) && decide (n ≤ b1)) = hb)
    (E1 : decide (m1 < m0) = false) (E2 : decide (a1 < m0) = same) (Q : ¬ m1 = a1)
    (W1 : (decide (m1 < m0) || (decide (m0 ≤ m0) && decide (m1 ≤ a1))) = true) (W2 : (decide (m1 < m0) || (decide (b0 ≤ m0) && decide (m1 ≤ b1))) = true) (W3 : (decide (a1 < m0) || (decide (m0 ≤ m0) && decide (a1 ≤ a1))) = true)
    (W4 : (decide (a1 < m0) || (decide (b0 ≤ m0) && decide (a1 ≤ b1))) = same) :
    Calls Try.prog 10 #[sp m0 a1, sp b0 b1, sp c0 c1, .int .i64 n] w fun e w' => e = .returned (.bool true) ∧ Below w.heap.size w w' := by
  go_enter Try.func10, Try.ntmps10
  have M := Mem.start w
  refine wp_seq_k (fun K1 hK1 => ?_)
  refine wp_region_lit ?_
  refine ev_boxv M (N := 4) rfl rfl 23 _ rfl [_, _] rfl ?_
  intro g0 w1 M1
  clear M
  have M := M1
  clear M1
  refine ev_norm (a' := ?_) ?_ ?_
  rotate_left
  · simp only [Act.put, List.setIfInBounds_toArray, List.set_cons_zero, List.set_cons_succ, i64_w, i32_w]
    rfl
  refine ev_boxv M (N := 5) rfl rfl 23 _ rfl [_, _] rfl ?_
  intro g1 w2 M1
  clear M
  have M := M1
  clear M1
  refine ev_norm (a' := ?_) ?_ ?_
  rotate_left
  · simp only [Act.put, List.setIfInBounds_toArray, List.set_cons_zero, List.set_cons_succ, i64_w, i32_w]
    rfl
  refine ev_boxv M (N := 6) rfl rfl 23 _ rfl [_, _] rfl ?_
  intro g2 w3 M1
  clear M
  have M := M1
  clear M1
  refine ev_norm (a' := ?_) ?_ ?_
  rotate_left
  · simp only [Act.put, List.setIfInBounds_toArray, List.set_cons_zero, List.set_cons_succ, i64_w, i32_w]
    rfl
  refine ev_pure 8 (v := ?_) (a' := ?_) rfl rfl ?_ ?_ ?_
  rotate_left 2
  · intro w'
    go_simp
    with_reducible rfl
  · simp only [Act.put, List.setIfInBounds_toArray, List.set_cons_zero, List.set_cons_succ, i64_w, i32_w]
    rfl
  refine wpList_nil ?_
  refine hK1 _ _ ?_
  clear hK1
  try clear K1
  refine wp_seq_k (fun K2 hK2 => ?_)
  refine wp_region_lit ?_
  refine ev_load M 2 rfl (N := 11) rfl rfl 23 (.tmp 4) rfl 0 rfl [_, _] (by kernel_rfl) (by kernel_rfl) rfl ?_
  refine ev_norm (a' := ?_) ?_ ?_
  rotate_left
  · simp only [Act.put, List.setIfInBounds_toArray, List.set_cons_zero, List.set_cons_succ, i64_w, i32_w]
    rfl
  refine ev_load M 1 rfl (N := 12) rfl rfl 23 (.tmp 5) rfl 0 rfl [_, _] (by kernel_rfl) (by kernel_rfl) rfl ?_
  refine ev_norm (a' := ?_) ?_ ?_
  rotate_left
  · simp only [Act.put, List.setIfInBounds_toArray, List.set_cons_zero, List.set_cons_succ, i64_w, i32_w]
    rfl
  refine ev_call (some 13) rfl rfl Try.func20 (by kernel_rfl) rfl #[.agg #[.int .i64 _, .int .i64 _], .agg #[.int .i64 _, .int .i64 _]] rfl (by (try simp only [List.map_toArray, List.map_cons, List.map_nil]); first | done | rfl) (by first | (with_reducible exact meet_is M1 _) | (with_reducible exact meet_is M2 _) | (with_reducible exact meet_is M3 _) | (with_reducible exact meet_is M4 _) | (with_reducible exact meet_is M5 _)) rfl M ?_
  intro w4 M1
  clear M
  have M := M1
  clear M1
  refine ev_norm (a' := ?_) ?_ ?_
  rotate_left
  · simp only [Act.put, List.setIfInBounds_toArray, List.set_cons_zero, List.set_cons_succ, i64_w, i32_w]
    rfl
  refine ev_alloc M (N := 9) rfl rfl 23 rfl (.agg #[.int .i64 0, .int .i64 0]) (by kernel_rfl) [.int .i64 0, .int .i64 0] rfl ?_
  intro g3 w5 M1
  clear M
  have M := M1
  clear M1
  refine ev_norm (a' := ?_) ?_ ?_
  rotate_left
  · simp only [Act.put, List.setIfInBounds_toArray, List.set_cons_zero, List.set_cons_succ, i64_w, i32_w]
    rfl
  refine ev_store M 0 rfl rfl rfl 23 (.tmp 9) _ rfl 0 rfl [_, _] rfl (by kernel_rfl) rfl (Nat.le_of_ble_eq_true rfl) [_, _] rfl [_, _, _, _] rfl ?_
  intro w6 M1
  clear M
  have M := M1
  clear M1
  refine wpList_nil ?_
  refine hK2 _ _ ?_
  clear hK2
  try clear K2
  refine wp_seq_k (fun K3 hK3 => ?_)
  refine wp_seq_k (fun K4 hK4 => ?_)
  refine start_ (n := 30) (S := fun w' => Mem w w' _) (ds := []) #[false, false, false, false, false, false, false, false, false, false, false, false, false, false, false, false, false, false, false, false, false, false, false, false, false, false, false, false, false, false] (by kernel_rfl) rfl rfl M.drew (fun hS => ?_)
  clear M
  generalize World.drew _ = w7 at hS ⊢
  have M := hS
  refine pure_ (i := 1) (N := (some 15)) (v := ?_) (a' := ?_) #[false, true, false, false, false, false, false, false, false, false, false, false, false, false, false, false, false, false, false, false, false, false, false, false, false, false, false, false, false, false] rfl rfl (by kernel_rfl) (fun _ _ _ h => h) (Or.inl ⟨by rfl, ?_⟩) ?_ ?_
  rotate_left
  · intro w'
    go_simp
    with_reducible rfl
  rotate_left
  · simp only [Act.put, List.setIfInBounds_toArray, List.set_cons_zero, List.set_cons_succ, i64_w, i32_w]
    rfl
  refine pure_ (i := 4) (N := (some 18)) (v := ?_) (a' := ?_) #[false, true, false, false, true, false, false, false, false, false, false, false, false, false, false, false, false, false, false, false, false, false, false, false, false, false, false, false, false, false] rfl rfl (by kernel_rfl) (fun _ _ _ h => h) (Or.inl ⟨by rfl, ?_⟩) ?_ ?_
  rotate_left
  · intro w'
    go_simp
    with_reducible rfl
  rotate_left
  · simp only [Act.put, List.setIfInBounds_toArray, List.set_cons_zero, List.set_cons_succ, i64_w, i32_w]
    rfl
  refine take_ (i := 0) (N := (some 14)) (v := _) (a' := ?_) #[true, true, false, false, true, false, false, false, false, false, false, false, false, false, false, false, false, false, false, false, false, false, false, false, false, false, false, false, false, false] rfl rfl (by kernel_rfl) (fun _ _ _ h => h) (Or.inl ⟨by rfl, fun w' hM => op_load hM 0 rfl 23 (.tmp 9) rfl 0 rfl [_, _] (by kernel_rfl) (by kernel_rfl) rfl⟩) hS ?_ ?_
  rotate_left
  · simp only [Act.put, List.setIfInBounds_toArray, List.set_cons_zero, List.set_cons_succ, i64_w, i32_w]
    rfl
  refine take_ (i := 3) (N := (some 17)) (v := _) (a' := ?_) #[true, true, false, true, true, false, false, false, false, false, false, false, false, false, false, false, false, false, false, false, false, false, false, false, false, false, false, false, false, false] rfl rfl (by kernel_rfl) (fun _ _ _ h => h) (Or.inl ⟨by rfl, fun w' hM => op_load hM 3 rfl 23 (.tmp 4) rfl 0 rfl [_, _] (by kernel_rfl) (by kernel_rfl) rfl⟩) hS ?_ ?_
  rotate_left
  · simp only [Act.put, List.setIfInBounds_toArray, List.set_cons_zero, List.set_cons_succ, i64_w, i32_w]
    rfl
  refine one_ (i := 2) (N := (some 16)) #[true, true, true, true, true, false, false, false, false, false, false, false, false, false, false, false, false, false, false, false, false, false, false, false, false, false, false, false, false, false] rfl rfl (by kernel_rfl) (by decide) (fun K hK => ?_)
  refine goes_ Try.func25 (by kernel_rfl) rfl #[.agg #[.int .i64 _, .int .i64 _], .int .i64 _] (by rfl) rfl rfl (by (try simp only [List.map_toArray, List.map_cons, List.map_nil]); first | done | rfl) ?_
  refine Calls.mono (by first | (with_reducible exact has_is H1 _) | (with_reducible exact has_is H2 _) | (with_reducible exact has_is H3 _)) ?_
  rintro e w8 ⟨rfl, hb⟩
  refine ⟨_, rfl, ?_⟩
  have M1 := M.call hb
  clear M hS hb
  have M := M1
  clear M1
  refine hK.out _ _ M (fun hS => ?_)
  clear hK K
  refine norm_ (a' := ?_) ?_ ?_
  rotate_left
  · show Act.put _ (some 16) _ = _
    simp only [Act.put, List.setIfInBounds_toArray, List.set_cons_zero, List.set_cons_succ, i64_w, i32_w]
    rfl
  refine one_ (i := 5) (N := (some 19)) #[true, true, true, true, true, true, false, false, false, false, false, false, false, false, false, false, false, false, false, false, false, false, false, false, false, false, false, false, false, false] rfl rfl (by kernel_rfl) (by decide) (fun K hK => ?_)
  refine goes_ Try.func25 (by kernel_rfl) rfl #[.agg #[.int .i64 _, .int .i64 _], .int .i64 _] (by rfl) rfl rfl (by (try simp only [List.map_toArray, List.map_cons, List.map_nil]); first | done | rfl) ?_
  refine Calls.mono (by first | (with_reducible exact has_is H1 _) | (with_reducible exact has_is H2 _) | (with_reducible exact has_is H3 _)) ?_
  rintro e w9 ⟨rfl, hb⟩
  refine ⟨_, rfl, ?_⟩
  have M1 := M.call hb
  clear M hS hb
  have M := M1
  clear M1
  refine hK.out _ _ M (fun hS => ?_)
  clear hK K
  refine norm_ (a' := ?_) ?_ ?_
  rotate_left
  · show Act.put _ (some 19) _ = _
    simp only [Act.put, List.setIfInBounds_toArray, List.set_cons_zero, List.set_cons_succ, i64_w, i32_w]
    rfl
  refine pure_ (i := 6) (N := (some 20)) (v := ?_) (a' := ?_) #[true, true, true, true, true, true, true, false, false, false, false, false, false, false, false, false, false, false, false, false, false, false, false, false, false, false, false, false, false, false] rfl rfl (by kernel_rfl) (fun _ _ _ h => h) (Or.inl ⟨by rfl, ?_⟩) ?_ ?_
  rotate_left
  · intro w'
    go_simp
    with_reducible rfl
  rotate_left
  · simp only [Act.put, List.setIfInBounds_toArray, List.set_cons_zero, List.set_cons_succ, i64_w, i32_w]
    rfl
  refine pure_ (i := 8) (N := (some 22)) (v := ?_) (a' := ?_) #[true, true, true, true, true, true, true, false, true, false, false, false, false, false, false, false, false, false, false, false, false, false, false, false, false, false, false, false, false, false] rfl rfl (by kernel_rfl) (fun _ _ _ h => h) (Or.inl ⟨by rfl, ?_⟩) ?_ ?_
  rotate_left
  · intro w'
    go_simp
    with_reducible rfl
  rotate_left
  · simp only [Act.put, List.setIfInBounds_toArray, List.set_cons_zero, List.set_cons_succ, i64_w, i32_w]
    rfl
  refine take_ (i := 7) (N := (some 21)) (v := _) (a' := ?_) #[true, true, true, true, true, true, true, true, true, false, false, false, false, false, false, false, false, false, false, false, false, false, false, false, false, false, false, false, false, false] rfl rfl (by kernel_rfl) (fun _ _ _ h => h) (Or.inl ⟨by rfl, fun w' hM => op_load hM 2 rfl 23 (.tmp 5) rfl 0 rfl [_, _] (by kernel_rfl) (by kernel_rfl) rfl⟩) hS ?_ ?_
  rotate_left
  · simp only [Act.put, List.setIfInBounds_toArray, List.set_cons_zero, List.set_cons_succ, i64_w, i32_w]
    rfl
  refine one_ (i := 9) (N := (some 23)) #[true, true, true, true, true, true, true, true, true, true, false, false, false, false, false, false, false, false, false, false, false, false, false, false, false, false, false, false, false, false] rfl rfl (by kernel_rfl) (by decide) (fun K hK => ?_)
  refine goes_ Try.func25 (by kernel_rfl) rfl #[.agg #[.int .i64 _, .int .i64 _], .int .i64 _] (by rfl) rfl rfl (by (try simp only [List.map_toArray, List.map_cons, List.map_nil]); first | done | rfl) ?_
  refine Calls.mono (by first | (with_reducible exact has_is H1 _) | (with_reducible exact has_is H2 _) | (with_reducible exact has_is H3 _)) ?_
  rintro e w10 ⟨rfl, hb⟩
  refine ⟨_, rfl, ?_⟩
  have M1 := M.call hb
  clear M hS hb
  have M := M1
  clear M1
  refine hK.out _ _ M (fun hS => ?_)
  clear hK K
  refine norm_ (a' := ?_) ?_ ?_
  rotate_left
  · show Act.put _ (some 23) _ = _
    simp only [Act.put, List.setIfInBounds_toArray, List.set_cons_zero, List.set_cons_succ, i64_w, i32_w]
    rfl
  refine pure_ (i := 10) (N := (some 24)) (v := ?_) (a' := ?_) #[true, true, true, true, true, true, true, true, true, true, true, false, false, false, false, false, false, false, false, false, false, false, false, false, false, false, false, false, false, false] rfl rfl (by kernel_rfl) (fun _ _ _ h => h) (Or.inl ⟨by rfl, ?_⟩) ?_ ?_
  rotate_left
  · intro w'
    go_simp
    with_reducible rfl
  rotate_left
  · simp only [Act.put, List.setIfInBounds_toArray, List.set_cons_zero, List.set_cons_succ, i64_w, i32_w]
    rfl
  refine pure_ (i := 11) (N := (some 25)) (v := ?_) (a' := ?_) #[true, true, true, true, true, true, true, true, true, true, true, true, false, false, false, false, false, false, false, false, false, false, false, false, false, false, false, false, false, false] rfl rfl (by kernel_rfl) (fun _ _ _ h => h) (Or.inl ⟨by rfl, ?_⟩) ?_ ?_
  rotate_left
  · intro w'
    go_simp
    with_reducible rfl
  rotate_left
  · simp only [Act.put, List.setIfInBounds_toArray, List.set_cons_zero, List.set_cons_succ, i64_w, i32_w]
    rfl
  refine pure_ (i := 12) (N := (some 26)) (v := ?_) (a' := ?_) #[true, true, true, true, true, true, true, true, true, true, true, true, true, false, false, false, false, false, false, false, false, false, false, false, false, false, false, false, false, false] rfl rfl (by kernel_rfl) (fun _ _ _ h => h) (Or.inl ⟨by rfl, ?_⟩) ?_ ?_
  rotate_left
  · intro w'
    go_simp
    with_reducible rfl
  rotate_left
  · simp only [Act.put, List.setIfInBounds_toArray, List.set_cons_zero, List.set_cons_succ, i64_w, i32_w]
    rfl
  refine take_ (i := 13) (N := (some 27)) (v := _) (a' := ?_) #[true, true, true, true, true, true, true, true, true, true, true, true, true, true, false, false, false, false, false, false, false, false, false, false, false, false, false, false, false, false] rfl rfl (by kernel_rfl) (fun _ _ _ h => h) (Or.inl ⟨by rfl, fun w' hM => op_load hM 0 rfl 23 (.tmp 9) rfl 0 rfl [_, _] (by kernel_rfl) (by kernel_rfl) rfl⟩) hS ?_ ?_
  rotate_left
  · simp only [Act.put, List.setIfInBounds_toArray, List.set_cons_zero, List.set_cons_succ, i64_w, i32_w]
    rfl
  refine take_ (i := 14) (N := (some 28)) (v := _) (a' := ?_) #[true, true, true, true, true, true, true, true, true, true, true, true, true, true, true, false, false, false, false, false, false, false, false, false, false, false, false, false, false, false] rfl rfl (by kernel_rfl) (fun _ _ _ h => h) (Or.inl ⟨by rfl, fun w' hM => op_load hM 2 rfl 23 (.tmp 5) rfl 0 rfl [_, _] (by kernel_rfl) (by kernel_rfl) rfl⟩) hS ?_ ?_
  rotate_left
  · simp only [Act.put, List.setIfInBounds_toArray, List.set_cons_zero, List.set_cons_succ, i64_w, i32_w]
    rfl
  refine take_ (i := 15) (N := (some 29)) (v := _) (a' := ?_) #[true, true, true, true, true, true, true, true, true, true, true, true, true, true, true, true, false, false, false, false, false, false, false, false, false, false, false, false, false, false] rfl rfl (by kernel_rfl) (fun _ _ _ h => h) (Or.inl ⟨by rfl, fun w' hM => op_load hM 3 rfl 23 (.tmp 4) rfl 0 rfl [_, _] (by kernel_rfl) (by kernel_rfl) rfl⟩) hS ?_ ?_
  rotate_left
  · simp only [Act.put, List.setIfInBounds_toArray, List.set_cons_zero, List.set_cons_succ, i64_w, i32_w]
    rfl
  refine one_ (i := 16) (N := (some 30)) #[true, true, true, true, true, true, true, true, true, true, true, true, true, true, true, true, true, false, false, false, false, false, false, false, false, false, false, false, false, false] rfl rfl (by kernel_rfl) (by decide) (fun K hK => ?_)
  refine goes_ Try.func20 (by kernel_rfl) rfl #[.agg #[.int .i64 _, .int .i64 _], .agg #[.int .i64 _, .int .i64 _]] (by rfl) rfl rfl (by (try simp only [List.map_toArray, List.map_cons, List.map_nil]); first | done | rfl) ?_
  refine Calls.mono (by first | (with_reducible exact meet_is M1 _) | (with_reducible exact meet_is M2 _) | (with_reducible exact meet_is M3 _) | (with_reducible exact meet_is M4 _) | (with_reducible exact meet_is M5 _)) ?_
  rintro e w11 ⟨rfl, hb⟩
  refine ⟨_, rfl, ?_⟩
  have M1 := M.call hb
  clear M hS hb
  have M := M1
  clear M1
  refine hK.out _ _ M (fun hS => ?_)
  clear hK K
  refine norm_ (a' := ?_) ?_ ?_
  rotate_left
  · show Act.put _ (some 30) _ = _
    simp only [Act.put, List.setIfInBounds_toArray, List.set_cons_zero, List.set_cons_succ, i64_w, i32_w]
    rfl
  refine pure_ (i := 17) (N := (some 31)) (v := ?_) (a' := ?_) #[true, true, true, true, true, true, true, true, true, true, true, true, true, true, true, true, true, true, false, false, false, false, false, false, false, false, false, false, false, false] rfl rfl (by kernel_rfl) (fun _ _ _ h => h) (Or.inl ⟨by rfl, ?_⟩) ?_ ?_
  rotate_left
  · intro w'
    go_simp
    with_reducible rfl
  rotate_left
  · simp only [Act.put, List.setIfInBounds_toArray, List.set_cons_zero, List.set_cons_succ, i64_w, i32_w]
    rfl
  refine pure_ (i := 18) (N := (some 32)) (v := ?_) (a' := ?_) #[true, true, true, true, true, true, true, true, true, true, true, true, true, true, true, true, true, true, true, false, false, false, false, false, false, false, false, false, false, false] rfl rfl (by kernel_rfl) (fun _ _ _ h => h) (Or.inl ⟨by rfl, ?_⟩) ?_ ?_
  rotate_left
  · intro w'
    go_simp
    with_reducible rfl
  rotate_left
  · simp only [Act.put, List.setIfInBounds_toArray, List.set_cons_zero, List.set_cons_succ, i64_w, i32_w]
    rfl
  refine pure_ (i := 19) (N := (some 33)) (v := ?_) (a' := ?_) #[true, true, true, true, true, true, true, true, true, true, true, true, true, true, true, true, true, true, true, true, false, false, false, false, false, false, false, false, false, false] rfl rfl (by kernel_rfl) (fun _ _ _ h => h) (Or.inl ⟨by rfl, ?_⟩) ?_ ?_
  rotate_left
  · intro w'
    go_simp
    with_reducible rfl
  rotate_left
  · simp only [Act.put, List.setIfInBounds_toArray, List.set_cons_zero, List.set_cons_succ, i64_w, i32_w]
    rfl
  refine take_ (i := 20) (N := (some 34)) (v := _) (a' := ?_) #[true, true, true, true, true, true, true, true, true, true, true, true, true, true, true, true, true, true, true, true, true, false, false, false, false, false, false, false, false, false] rfl rfl (by kernel_rfl) (fun _ _ _ h => h) (Or.inl ⟨by rfl, fun w' hM => op_load hM 0 rfl 23 (.tmp 9) rfl 0 rfl [_, _] (by kernel_rfl) (by kernel_rfl) rfl⟩) hS ?_ ?_
  rotate_left
  · simp only [Act.put, List.setIfInBounds_toArray, List.set_cons_zero, List.set_cons_succ, i64_w, i32_w]
    rfl
  refine take_ (i := 21) (N := (some 35)) (v := _) (a' := ?_) #[true, true, true, true, true, true, true, true, true, true, true, true, true, true, true, true, true, true, true, true, true, true, false, false, false, false, false, false, false, false] rfl rfl (by kernel_rfl) (fun _ _ _ h => h) (Or.inl ⟨by rfl, fun w' hM => op_load hM 1 rfl 23 (.tmp 6) rfl 0 rfl [_, _] (by kernel_rfl) (by kernel_rfl) rfl⟩) hS ?_ ?_
  rotate_left
  · simp only [Act.put, List.setIfInBounds_toArray, List.set_cons_zero, List.set_cons_succ, i64_w, i32_w]
    rfl
  refine take_ (i := 23) (N := (some 37)) (v := _) (a' := ?_) #[true, true, true, true, true, true, true, true, true, true, true, true, true, true, true, true, true, true, true, true, true, true, false, true, false, false, false, false, false, false] rfl rfl (by kernel_rfl) (fun _ _ _ h => h) (Or.inl ⟨by rfl, fun w' hM => op_load hM 3 rfl 23 (.tmp 4) rfl 0 rfl [_, _] (by kernel_rfl) (by kernel_rfl) rfl⟩) hS ?_ ?_
  rotate_left
  · simp only [Act.put, List.setIfInBounds_toArray, List.set_cons_zero, List.set_cons_succ, i64_w, i32_w]
    rfl
  refine take_ (i := 24) (N := (some 38)) (v := _) (a' := ?_) #[true, true, true, true, true, true, true, true, true, true, true, true, true, true, true, true, true, true, true, true, true, true, false, true, true, false, false, false, false, false] rfl rfl (by kernel_rfl) (fun _ _ _ h => h) (Or.inl ⟨by rfl, fun w' hM => op_load hM 2 rfl 23 (.tmp 5) rfl 0 rfl [_, _] (by kernel_rfl) (by kernel_rfl) rfl⟩) hS ?_ ?_
  rotate_left
  · simp only [Act.put, List.setIfInBounds_toArray, List.set_cons_zero, List.set_cons_succ, i64_w, i32_w]
    rfl
  refine take_ (i := 25) (N := (some 39)) (v := _) (a' := ?_) #[true, true, true, true, true, true, true, true, true, true, true, true, true, true, true, true, true, true, true, true, true, true, false, true, true, true, false, false, false, false] rfl rfl (by kernel_rfl) (fun _ _ _ h => h) (Or.inl ⟨by rfl, fun w' hM => op_load hM 1 rfl 23 (.tmp 6) rfl 0 rfl [_, _] (by kernel_rfl) (by kernel_rfl) rfl⟩) hS ?_ ?_
  rotate_left
  · simp only [Act.put, List.setIfInBounds_toArray, List.set_cons_zero, List.set_cons_succ, i64_w, i32_w]
    rfl
  refine one_ (i := 22) (N := (some 36)) #[true, true, true, true, true, true, true, true, true, true, true, true, true, true, true, true, true, true, true, true, true, true, true, true, true, true, false, false, false, false] rfl rfl (by kernel_rfl) (by decide) (fun K hK => ?_)
  refine goes_ Try.func20 (by kernel_rfl) rfl #[.agg #[.int .i64 _, .int .i64 _], .agg #[.int .i64 _, .int .i64 _]] (by rfl) rfl rfl (by (try simp only [List.map_toArray, List.map_cons, List.map_nil]); first | done | rfl) ?_
  refine Calls.mono (by first | (with_reducible exact meet_is M1 _) | (with_reducible exact meet_is M2 _) | (with_reducible exact meet_is M3 _) | (with_reducible exact meet_is M4 _) | (with_reducible exact meet_is M5 _)) ?_
  rintro e w12 ⟨rfl, hb⟩
  refine ⟨_, rfl, ?_⟩
  have M1 := M.call hb
  clear M hS hb
  have M := M1
  clear M1
  refine hK.out _ _ M (fun hS => ?_)
  clear hK K
  refine norm_ (a' := ?_) ?_ ?_
  rotate_left
  · show Act.put _ (some 36) _ = _
    simp only [Act.put, List.setIfInBounds_toArray, List.set_cons_zero, List.set_cons_succ, i64_w, i32_w]
    rfl
  refine one_ (i := 26) (N := (some 40)) #[true, true, true, true, true, true, true, true, true, true, true, true, true, true, true, true, true, true, true, true, true, true, true, true, true, true, true, false, false, false] rfl rfl (by kernel_rfl) (by decide) (fun K hK => ?_)
  refine goes_ Try.func20 (by kernel_rfl) rfl #[.agg #[.int .i64 _, .int .i64 _], .agg #[.int .i64 _, .int .i64 _]] (by rfl) rfl rfl (by (try simp only [List.map_toArray, List.map_cons, List.map_nil]); first | done | rfl) ?_
  refine Calls.mono (by first | (with_reducible exact meet_is M1 _) | (with_reducible exact meet_is M2 _) | (with_reducible exact meet_is M3 _) | (with_reducible exact meet_is M4 _) | (with_reducible exact meet_is M5 _)) ?_
  rintro e w13 ⟨rfl, hb⟩
  refine ⟨_, rfl, ?_⟩
  have M1 := M.call hb
  clear M hS hb
  have M := M1
  clear M1
  refine hK.out _ _ M (fun hS => ?_)
  clear hK K
  refine norm_ (a' := ?_) ?_ ?_
  rotate_left
  · show Act.put _ (some 40) _ = _
    simp only [Act.put, List.setIfInBounds_toArray, List.set_cons_zero, List.set_cons_succ, i64_w, i32_w]
    rfl
  refine one_ (i := 27) (N := (some 41)) #[true, true, true, true, true, true, true, true, true, true, true, true, true, true, true, true, true, true, true, true, true, true, true, true, true, true, true, true, false, false] rfl rfl (by kernel_rfl) (by decide) (fun K hK => ?_)
  refine goes_ Try.func20 (by kernel_rfl) rfl #[.agg #[.int .i64 _, .int .i64 _], .agg #[.int .i64 _, .int .i64 _]] (by rfl) rfl rfl (by (try simp only [List.map_toArray, List.map_cons, List.map_nil]); first | done | rfl) ?_
  refine Calls.mono (by first | (with_reducible exact meet_is M1 _) | (with_reducible exact meet_is M2 _) | (with_reducible exact meet_is M3 _) | (with_reducible exact meet_is M4 _) | (with_reducible exact meet_is M5 _)) ?_
  rintro e w14 ⟨rfl, hb⟩
  refine ⟨_, rfl, ?_⟩
  have M1 := M.call hb
  clear M hS hb
  have M := M1
  clear M1
  refine hK.out _ _ M (fun hS => ?_)
  clear hK K
  refine norm_ (a' := ?_) ?_ ?_
  rotate_left
  · show Act.put _ (some 41) _ = _
    simp only [Act.put, List.setIfInBounds_toArray, List.set_cons_zero, List.set_cons_succ, i64_w, i32_w]
    rfl
  refine pure_ (i := 28) (N := (some 42)) (v := ?_) (a' := ?_) #[true, true, true, true, true, true, true, true, true, true, true, true, true, true, true, true, true, true, true, true, true, true, true, true, true, true, true, true, true, false] rfl rfl (by kernel_rfl) (fun _ _ _ h => h) (Or.inl ⟨by rfl, ?_⟩) ?_ ?_
  rotate_left
  · intro w'
    go_simp
    with_reducible rfl
  rotate_left
  · simp only [Act.put, List.setIfInBounds_toArray, List.set_cons_zero, List.set_cons_succ, i64_w, i32_w]
    rfl
  refine pure_ (i := 29) (N := (some 43)) (v := ?_) (a' := ?_) #[true, true, true, true, true, true, true, true, true, true, true, true, true, true, true, true, true, true, true, true, true, true, true, true, true, true, true, true, true, true] rfl rfl (by kernel_rfl) (fun _ _ _ h => h) (Or.inl ⟨by rfl, ?_⟩) ?_ ?_
  rotate_left
  · intro w'
    go_simp
    with_reducible rfl
  rotate_left
  · simp only [Act.put, List.setIfInBounds_toArray, List.set_cons_zero, List.set_cons_succ, i64_w, i32_w]
    rfl
  refine done_ (by kernel_rfl) ?_
  try clear hS
  refine hK4 _ _ ?_
  clear hK4
  try clear K4
  refine wp_cond_false rfl ?_
  refine wp_skip ?_
  refine hK3 _ _ ?_
  clear hK3
  try clear K3
  refine wp_seq_k (fun K5 hK5 => ?_)
  refine wp_seq_k (fun K6 hK6 => ?_)
  refine wp_region_lit ?_
  refine ev_load M 0 rfl (N := 44) rfl rfl 23 (.tmp 9) rfl 0 rfl [_, _] (by kernel_rfl) (by kernel_rfl) rfl ?_
  refine ev_norm (a' := ?_) ?_ ?_
  rotate_left
  · simp only [Act.put, List.setIfInBounds_toArray, List.set_cons_zero, List.set_cons_succ, i64_w, i32_w]
    rfl
  refine ev_call (some 45) rfl rfl Try.func23 (by kernel_rfl) rfl #[.agg #[.int .i64 _, .int .i64 _]] rfl (by (try simp only [List.map_toArray, List.map_cons, List.map_nil]); first | done | rfl) (by first | (with_reducible exact empty_is E1 _) | (with_reducible exact empty_is E2 _)) rfl M ?_
  intro w15 M1
  clear M
  have M := M1
  clear M1
  refine ev_norm (a' := ?_) ?_ ?_
  rotate_left
  · simp only [Act.put, List.setIfInBounds_toArray, List.set_cons_zero, List.set_cons_succ, i64_w, i32_w]
    rfl
  refine ev_pure 46 (v := ?_) (a' := ?_) rfl rfl ?_ ?_ ?_
  rotate_left 2
  · intro w'
    go_simp
    with_reducible rfl
  · simp only [Act.put, List.setIfInBounds_toArray, List.set_cons_zero, List.set_cons_succ, i64_w, i32_w]
    rfl
  refine ev_off (some 47) (a' := ?_) rfl rfl ?_ ?_
  rotate_left
  · simp only [Act.put, List.setIfInBounds_toArray, List.set_cons_zero, List.set_cons_succ, i64_w, i32_w]
    rfl
  refine ev_off (some 48) (a' := ?_) rfl rfl ?_ ?_
  rotate_left
  · simp only [Act.put, List.setIfInBounds_toArray, List.set_cons_zero, List.set_cons_succ, i64_w, i32_w]
    rfl
  refine ev_off (some 49) (a' := ?_) rfl rfl ?_ ?_
  rotate_left
  · simp only [Act.put, List.setIfInBounds_toArray, List.set_cons_zero, List.set_cons_succ, i64_w, i32_w]
    rfl
  refine ev_pure 50 (v := ?_) (a' := ?_) rfl rfl ?_ ?_ ?_
  rotate_left 2
  · intro w'
    go_simp
    with_reducible rfl
  · simp only [Act.put, List.setIfInBounds_toArray, List.set_cons_zero, List.set_cons_succ, i64_w, i32_w]
    rfl
  refine ev_pure 51 (v := ?_) (a' := ?_) rfl rfl ?_ ?_ ?_
  rotate_left 2
  · intro w'
    go_simp
    with_reducible rfl
  · simp only [Act.put, List.setIfInBounds_toArray, List.set_cons_zero, List.set_cons_succ, i64_w, i32_w]
    rfl
  refine ev_load M 0 rfl (N := 52) rfl rfl 23 (.tmp 9) rfl 0 rfl [_, _] (by kernel_rfl) (by kernel_rfl) rfl ?_
  refine ev_norm (a' := ?_) ?_ ?_
  rotate_left
  · simp only [Act.put, List.setIfInBounds_toArray, List.set_cons_zero, List.set_cons_succ, i64_w, i32_w]
    rfl
  refine ev_load M 3 rfl (N := 53) rfl rfl 23 (.tmp 4) rfl 0 rfl [_, _] (by kernel_rfl) (by kernel_rfl) rfl ?_
  refine ev_norm (a' := ?_) ?_ ?_
  rotate_left
  · simp only [Act.put, List.setIfInBounds_toArray, List.set_cons_zero, List.set_cons_succ, i64_w, i32_w]
    rfl
  refine ev_call (some 54) rfl rfl Try.func24 (by kernel_rfl) rfl #[.agg #[.int .i64 _, .int .i64 _], .agg #[.int .i64 _, .int .i64 _]] rfl (by (try simp only [List.map_toArray, List.map_cons, List.map_nil]); first | done | rfl) (by first | (with_reducible exact within_is W1 _) | (with_reducible exact within_is W2 _) | (with_reducible exact within_is W3 _) | (with_reducible exact within_is W4 _)) rfl M ?_
  intro w16 M1
  clear M
  have M := M1
  clear M1
  refine ev_norm (a' := ?_) ?_ ?_
  rotate_left
  · simp only [Act.put, List.setIfInBounds_toArray, List.set_cons_zero, List.set_cons_succ, i64_w, i32_w]
    rfl
  refine ev_pure 55 (v := ?_) (a' := ?_) rfl rfl ?_ ?_ ?_
  rotate_left 2
  · intro w'
    go_simp
    with_reducible rfl
  · simp only [Act.put, List.setIfInBounds_toArray, List.set_cons_zero, List.set_cons_succ, i64_w, i32_w]
    rfl
  refine ev_pure 56 (v := ?_) (a' := ?_) rfl rfl ?_ ?_ ?_
  rotate_left 2
  · intro w'
    go_simp
    with_reducible rfl
  · simp only [Act.put, List.setIfInBounds_toArray, List.set_cons_zero, List.set_cons_succ, i64_w, i32_w]
    rfl
  refine ev_pure 57 (v := ?_) (a' := ?_) rfl rfl ?_ ?_ ?_
  rotate_left 2
  · intro w'
    go_simp
    with_reducible rfl
  · simp only [Act.put, List.setIfInBounds_toArray, List.set_cons_zero, List.set_cons_succ, i64_w, i32_w]
    rfl
  refine ev_load M 0 rfl (N := 58) rfl rfl 23 (.tmp 9) rfl 0 rfl [_, _] (by kernel_rfl) (by kernel_rfl) rfl ?_
  refine ev_norm (a' := ?_) ?_ ?_
  rotate_left
  · simp only [Act.put, List.setIfInBounds_toArray, List.set_cons_zero, List.set_cons_succ, i64_w, i32_w]
    rfl
  refine ev_load M 2 rfl (N := 59) rfl rfl 23 (.tmp 5) rfl 0 rfl [_, _] (by kernel_rfl) (by kernel_rfl) rfl ?_
  refine ev_norm (a' := ?_) ?_ ?_
  rotate_left
  · simp only [Act.put, List.setIfInBounds_toArray, List.set_cons_zero, List.set_cons_succ, i64_w, i32_w]
    rfl
  refine ev_call (some 60) rfl rfl Try.func24 (by kernel_rfl) rfl #[.agg #[.int .i64 _, .int .i64 _], .agg #[.int .i64 _, .int .i64 _]] rfl (by (try simp only [List.map_toArray, List.map_cons, List.map_nil]); first | done | rfl) (by first | (with_reducible exact within_is W1 _) | (with_reducible exact within_is W2 _) | (with_reducible exact within_is W3 _) | (with_reducible exact within_is W4 _)) rfl M ?_
  intro w17 M1
  clear M
  have M := M1
  clear M1
  refine ev_norm (a' := ?_) ?_ ?_
  rotate_left
  · simp only [Act.put, List.setIfInBounds_toArray, List.set_cons_zero, List.set_cons_succ, i64_w, i32_w]
    rfl
  refine ev_pure 61 (v := ?_) (a' := ?_) rfl rfl ?_ ?_ ?_
  rotate_left 2
  · intro w'
    go_simp
    with_reducible rfl
  · simp only [Act.put, List.setIfInBounds_toArray, List.set_cons_zero, List.set_cons_succ, i64_w, i32_w]
    rfl
  refine ev_pure 62 (v := ?_) (a' := ?_) rfl rfl ?_ ?_ ?_
  rotate_left 2
  · intro w'
    go_simp
    with_reducible rfl
  · simp only [Act.put, List.setIfInBounds_toArray, List.set_cons_zero, List.set_cons_succ, i64_w, i32_w]
    rfl
  refine ev_pure 63 (v := ?_) (a' := ?_) rfl rfl ?_ ?_ ?_
  rotate_left 2
  · intro w'
    go_simp
    with_reducible rfl
  · simp only [Act.put, List.setIfInBounds_toArray, List.set_cons_zero, List.set_cons_succ, i64_w, i32_w]
    rfl
  refine ev_load M 3 rfl (N := 64) rfl rfl 23 (.tmp 4) rfl 0 rfl [_, _] (by kernel_rfl) (by kernel_rfl) rfl ?_
  refine ev_norm (a' := ?_) ?_ ?_
  rotate_left
  · simp only [Act.put, List.setIfInBounds_toArray, List.set_cons_zero, List.set_cons_succ, i64_w, i32_w]
    rfl
  refine ev_load M 3 rfl (N := 65) rfl rfl 23 (.tmp 4) rfl 0 rfl [_, _] (by kernel_rfl) (by kernel_rfl) rfl ?_
  refine ev_norm (a' := ?_) ?_ ?_
  rotate_left
  · simp only [Act.put, List.setIfInBounds_toArray, List.set_cons_zero, List.set_cons_succ, i64_w, i32_w]
    rfl
  refine ev_call (some 66) rfl rfl Try.func24 (by kernel_rfl) rfl #[.agg #[.int .i64 _, .int .i64 _], .agg #[.int .i64 _, .int .i64 _]] rfl (by (try simp only [List.map_toArray, List.map_cons, List.map_nil]); first | done | rfl) (by first | (with_reducible exact within_is W1 _) | (with_reducible exact within_is W2 _) | (with_reducible exact within_is W3 _) | (with_reducible exact within_is W4 _)) rfl M ?_
  intro w18 M1
  clear M
  have M := M1
  clear M1
  refine ev_norm (a' := ?_) ?_ ?_
  rotate_left
  · simp only [Act.put, List.setIfInBounds_toArray, List.set_cons_zero, List.set_cons_succ, i64_w, i32_w]
    rfl
  refine ev_pure 67 (v := ?_) (a' := ?_) rfl rfl ?_ ?_ ?_
  rotate_left 2
  · intro w'
    go_simp
    with_reducible rfl
  · simp only [Act.put, List.setIfInBounds_toArray, List.set_cons_zero, List.set_cons_succ, i64_w, i32_w]
    rfl
  refine ev_pure 68 (v := ?_) (a' := ?_) rfl rfl ?_ ?_ ?_
  rotate_left 2
  · intro w'
    go_simp
    with_reducible rfl
  · simp only [Act.put, List.setIfInBounds_toArray, List.set_cons_zero, List.set_cons_succ, i64_w, i32_w]
    rfl
  refine wpList_nil ?_
  refine hK6 _ _ ?_
  clear hK6
  try clear K6
  refine wp_cond_false rfl ?_
  refine wp_skip ?_
  refine hK5 _ _ ?_
  clear hK5
  try clear K5
  refine wp_seq_k (fun K7 hK7 => ?_)
  refine wp_region_lit ?_
  refine ev_load M 0 rfl (N := 69) rfl rfl 23 (.tmp 9) rfl 0 rfl [_, _] (by kernel_rfl) (by kernel_rfl) rfl ?_
  refine ev_norm (a' := ?_) ?_ ?_
  rotate_left
  · simp only [Act.put, List.setIfInBounds_toArray, List.set_cons_zero, List.set_cons_succ, i64_w, i32_w]
    rfl
  refine ev_load M 3 rfl (N := 70) rfl rfl 23 (.tmp 4) rfl 0 rfl [_, _] (by kernel_rfl) (by kernel_rfl) rfl ?_
  refine ev_norm (a' := ?_) ?_ ?_
  rotate_left
  · simp only [Act.put, List.setIfInBounds_toArray, List.set_cons_zero, List.set_cons_succ, i64_w, i32_w]
    rfl
  refine ev_pure 71 (v := ?_) (a' := ?_) rfl rfl ?_ ?_ ?_
  rotate_left 2
  · intro w'
    go_simp
    with_reducible rfl
  · simp only [Act.put, List.setIfInBounds_toArray, List.set_cons_zero, List.set_cons_succ, i64_w, i32_w]
    rfl
  refine ev_pure 72 (v := ?_) (a' := ?_) rfl rfl ?_ ?_ ?_
  rotate_left 2
  · intro w'
    go_simp
    with_reducible rfl
  · simp only [Act.put, List.setIfInBounds_toArray, List.set_cons_zero, List.set_cons_succ, i64_w, i32_w]
    rfl
  refine ev_load M 3 rfl (N := 73) rfl rfl 23 (.tmp 4) rfl 0 rfl [_, _] (by kernel_rfl) (by kernel_rfl) rfl ?_
  refine ev_norm (a' := ?_) ?_ ?_
  rotate_left
  · simp only [Act.put, List.setIfInBounds_toArray, List.set_cons_zero, List.set_cons_succ, i64_w, i32_w]
    rfl
  refine ev_call (some 74) rfl rfl Try.func23 (by kernel_rfl) rfl #[.agg #[.int .i64 _, .int .i64 _]] rfl (by (try simp only [List.map_toArray, List.map_cons, List.map_nil]); first | done | rfl) (by first | (with_reducible exact empty_is E1 _) | (with_reducible exact empty_is E2 _)) rfl M ?_
  intro w19 M1
  clear M
  have M := M1
  clear M1
  refine ev_norm (a' := ?_) ?_ ?_
  rotate_left
  · simp only [Act.put, List.setIfInBounds_toArray, List.set_cons_zero, List.set_cons_succ, i64_w, i32_w]
    rfl
  refine ev_pure 75 (v := ?_) (a' := ?_) rfl rfl ?_ ?_ ?_
  rotate_left 2
  · intro w'
    go_simp
    with_reducible rfl
  · simp only [Act.put, List.setIfInBounds_toArray, List.set_cons_zero, List.set_cons_succ, i64_w, i32_w]
    rfl
  refine ev_pure 10 (v := ?_) (a' := ?_) rfl rfl ?_ ?_ ?_
  rotate_left 2
  · intro w'
    go_simp
    with_reducible rfl
  · simp only [Act.put, List.setIfInBounds_toArray, List.set_cons_zero, List.set_cons_succ, i64_w, i32_w]
    rfl
  refine wpList_nil ?_
  refine hK7 _ _ ?_
  clear hK7
  try clear K7
  refine wp_seq_k (fun K8 hK8 => ?_)
  refine start_ (n := 16) (S := fun w' => Mem w w' _) (ds := []) #[false, false, false, false, false, false, false, false, false, false, false, false, false, false, false, false] (by kernel_rfl) rfl rfl M.drew (fun hS => ?_)
  clear M
  generalize World.drew _ = w20 at hS ⊢
  have M := hS
  refine pure_ (i := 3) (N := (some 79)) (v := ?_) (a' := ?_) #[false, false, false, true, false, false, false, false, false, false, false, false, false, false, false, false] rfl rfl (by kernel_rfl) (fun _ _ _ h => h) (Or.inl ⟨by rfl, ?_⟩) ?_ ?_
  rotate_left
  · intro w'
    go_simp
    with_reducible rfl
  rotate_left
  · simp only [Act.put, List.setIfInBounds_toArray, List.set_cons_zero, List.set_cons_succ, i64_w, i32_w]
    rfl
  refine take_ (i := 0) (N := (some 76)) (v := _) (a' := ?_) #[true, false, false, true, false, false, false, false, false, false, false, false, false, false, false, false] rfl rfl (by kernel_rfl) (fun _ _ _ h => h) (Or.inl ⟨by rfl, fun w' hM => op_load hM 3 rfl 23 (.tmp 4) rfl 0 rfl [_, _] (by kernel_rfl) (by kernel_rfl) rfl⟩) hS ?_ ?_
  rotate_left
  · simp only [Act.put, List.setIfInBounds_toArray, List.set_cons_zero, List.set_cons_succ, i64_w, i32_w]
    rfl
  refine take_ (i := 1) (N := (some 77)) (v := _) (a' := ?_) #[true, true, false, true, false, false, false, false, false, false, false, false, false, false, false, false] rfl rfl (by kernel_rfl) (fun _ _ _ h => h) (Or.inl ⟨by rfl, fun w' hM => op_load hM 2 rfl 23 (.tmp 5) rfl 0 rfl [_, _] (by kernel_rfl) (by kernel_rfl) rfl⟩) hS ?_ ?_
  rotate_left
  · simp only [Act.put, List.setIfInBounds_toArray, List.set_cons_zero, List.set_cons_succ, i64_w, i32_w]
    rfl
  refine one_ (i := 2) (N := (some 78)) #[true, true, true, true, false, false, false, false, false, false, false, false, false, false, false, false] rfl rfl (by kernel_rfl) (by decide) (fun K hK => ?_)
  refine goes_ Try.func24 (by kernel_rfl) rfl #[.agg #[.int .i64 _, .int .i64 _], .agg #[.int .i64 _, .int .i64 _]] (by rfl) rfl rfl (by (try simp only [List.map_toArray, List.map_cons, List.map_nil]); first | done | rfl) ?_
  refine Calls.mono (by first | (with_reducible exact within_is W1 _) | (with_reducible exact within_is W2 _) | (with_reducible exact within_is W3 _) | (with_reducible exact within_is W4 _)) ?_
  rintro e w21 ⟨rfl, hb⟩
  refine ⟨_, rfl, ?_⟩
  have M1 := M.call hb
  clear M hS hb
  have M := M1
  clear M1
  refine hK.out _ _ M (fun hS => ?_)
  clear hK K
  refine norm_ (a' := ?_) ?_ ?_
  rotate_left
  · show Act.put _ (some 78) _ = _
    simp only [Act.put, List.setIfInBounds_toArray, List.set_cons_zero, List.set_cons_succ, i64_w, i32_w]
    rfl
  refine pure_ (i := 4) (N := (some 80)) (v := ?_) (a' := ?_) #[true, true, true, true, true, false, false, false, false, false, false, false, false, false, false, false] rfl rfl (by kernel_rfl) (fun _ _ _ h => h) (Or.inl ⟨by rfl, ?_⟩) ?_ ?_
  rotate_left
  · intro w'
    go_simp
    with_reducible rfl
  rotate_left
  · simp only [Act.put, List.setIfInBounds_toArray, List.set_cons_zero, List.set_cons_succ, i64_w, i32_w]
    rfl
  refine pure_ (i := 5) (N := (some 81)) (v := ?_) (a' := ?_) #[true, true, true, true, true, true, false, false, false, false, false, false, false, false, false, false] rfl rfl (by kernel_rfl) (fun _ _ _ h => h) (Or.inl ⟨by rfl, ?_⟩) ?_ ?_
  rotate_left
  · intro w'
    go_simp
    with_reducible rfl
  rotate_left
  · simp only [Act.put, List.setIfInBounds_toArray, List.set_cons_zero, List.set_cons_succ, i64_w, i32_w]
    rfl
  refine take_ (i := 6) (N := (some 82)) (v := _) (a' := ?_) #[true, true, true, true, true, true, true, false, false, false, false, false, false, false, false, false] rfl rfl (by kernel_rfl) (fun _ _ _ h => h) (Or.inl ⟨by rfl, fun w' hM => op_load hM 0 rfl 23 (.tmp 9) rfl 0 rfl [_, _] (by kernel_rfl) (by kernel_rfl) rfl⟩) hS ?_ ?_
  rotate_left
  · simp only [Act.put, List.setIfInBounds_toArray, List.set_cons_zero, List.set_cons_succ, i64_w, i32_w]
    rfl
  refine take_ (i := 7) (N := (some 83)) (v := _) (a' := ?_) #[true, true, true, true, true, true, true, true, false, false, false, false, false, false, false, false] rfl rfl (by kernel_rfl) (fun _ _ _ h => h) (Or.inl ⟨by rfl, fun w' hM => op_load hM 3 rfl 23 (.tmp 4) rfl 0 rfl [_, _] (by kernel_rfl) (by kernel_rfl) rfl⟩) hS ?_ ?_
  rotate_left
  · simp only [Act.put, List.setIfInBounds_toArray, List.set_cons_zero, List.set_cons_succ, i64_w, i32_w]
    rfl
  refine take_ (i := 8) (N := (some 84)) (v := _) (a' := ?_) #[true, true, true, true, true, true, true, true, true, false, false, false, false, false, false, false] rfl rfl (by kernel_rfl) (fun _ _ _ h => h) (Or.inl ⟨by rfl, fun w' hM => op_load hM 2 rfl 23 (.tmp 5) rfl 0 rfl [_, _] (by kernel_rfl) (by kernel_rfl) rfl⟩) hS ?_ ?_
  rotate_left
  · simp only [Act.put, List.setIfInBounds_toArray, List.set_cons_zero, List.set_cons_succ, i64_w, i32_w]
    rfl
  refine one_ (i := 9) (N := (some 85)) #[true, true, true, true, true, true, true, true, true, true, false, false, false, false, false, false] rfl rfl (by kernel_rfl) (by decide) (fun K hK => ?_)
  refine goes_ Try.func26 (by kernel_rfl) rfl #[.agg #[.int .i64 _, .int .i64 _], .agg #[.int .i64 _, .int .i64 _]] (by rfl) rfl rfl (by (try simp only [List.map_toArray, List.map_cons, List.map_nil]); first | done | rfl) ?_
  refine Calls.mono (by first | (with_reducible exact rmeet_is M1 _)) ?_
  rintro e w22 ⟨rfl, hb⟩
  refine ⟨_, rfl, ?_⟩
  have M1 := M.call hb
  clear M hS hb
  have M := M1
  clear M1
  refine hK.out _ _ M (fun hS => ?_)
  clear hK K
  refine norm_ (a' := ?_) ?_ ?_
  rotate_left
  · show Act.put _ (some 85) _ = _
    simp only [Act.put, List.setIfInBounds_toArray, List.set_cons_zero, List.set_cons_succ, i64_w, i32_w]
    rfl
  refine pure_ (i := 10) (N := (some 86)) (v := ?_) (a' := ?_) #[true, true, true, true, true, true, true, true, true, true, true, false, false, false, false, false] rfl rfl (by kernel_rfl) (fun _ _ _ h => h) (Or.inl ⟨by rfl, ?_⟩) ?_ ?_
  rotate_left
  · intro w'
    go_simp
    with_reducible rfl
  rotate_left
  · simp only [Act.put, List.setIfInBounds_toArray, List.set_cons_zero, List.set_cons_succ, i64_w, i32_w]
    rfl
  refine pure_ (i := 11) (N := (some 87)) (v := ?_) (a' := ?_) #[true, true, true, true, true, true, true, true, true, true, true, true, false, false, false, false] rfl rfl (by kernel_rfl) (fun _ _ _ h => h) (Or.inl ⟨by rfl, ?_⟩) ?_ ?_
  rotate_left
  · intro w'
    go_simp
    with_reducible rfl
  rotate_left
  · simp only [Act.put, List.setIfInBounds_toArray, List.set_cons_zero, List.set_cons_succ, i64_w, i32_w]
    rfl
  refine pure_ (i := 12) (N := (some 88)) (v := ?_) (a' := ?_) #[true, true, true, true, true, true, true, true, true, true, true, true, true, false, false, false] rfl rfl (by kernel_rfl) (fun _ _ _ h => h) (Or.inl ⟨by rfl, ?_⟩) ?_ ?_
  rotate_left
  · intro w'
    go_simp
    with_reducible rfl
  rotate_left
  · simp only [Act.put, List.setIfInBounds_toArray, List.set_cons_zero, List.set_cons_succ, i64_w, i32_w]
    rfl
  refine one_ (i := 13) (N := (some 89)) #[true, true, true, true, true, true, true, true, true, true, true, true, true, true, false, false] rfl rfl (by kernel_rfl) (by decide) (fun K hK => ?_)
  refine goes_ Try.func5 (by kernel_rfl) rfl #[] (by rfl) rfl rfl (by (try simp only [List.map_toArray, List.map_cons, List.map_nil]); first | done | rfl) ?_
  refine Calls.mono (by first | (with_reducible exact runs_is _)) ?_
  rintro e w23 ⟨rfl, hb⟩
  refine ⟨_, rfl, ?_⟩
  have M1 := M.call hb
  clear M hS hb
  have M := M1
  clear M1
  refine hK.out _ _ M (fun hS => ?_)
  clear hK K
  refine norm_ (a' := ?_) ?_ ?_
  rotate_left
  · show Act.put _ (some 89) _ = _
    simp only [Act.put, List.setIfInBounds_toArray, List.set_cons_zero, List.set_cons_succ, i64_w, i32_w]
    rfl
  refine pure_ (i := 14) (N := (some 90)) (v := ?_) (a' := ?_) #[true, true, true, true, true, true, true, true, true, true, true, true, true, true, true, false] rfl rfl (by kernel_rfl) (fun _ _ _ h => h) (Or.inl ⟨by rfl, ?_⟩) ?_ ?_
  rotate_left
  · intro w'
    go_simp
    with_reducible rfl
  rotate_left
  · simp only [Act.put, List.setIfInBounds_toArray, List.set_cons_zero, List.set_cons_succ, i64_w, i32_w]
    rfl
  refine pure_ (i := 15) (N := (some 8)) (v := ?_) (a' := ?_) #[true, true, true, true, true, true, true, true, true, true, true, true, true, true, true, true] rfl rfl (by kernel_rfl) (fun _ _ _ h => h) (Or.inl ⟨by rfl, ?_⟩) ?_ ?_
  rotate_left
  · intro w'
    go_simp
    with_reducible rfl
  rotate_left
  · simp only [Act.put, List.setIfInBounds_toArray, List.set_cons_zero, List.set_cons_succ, i64_w, i32_w]
    rfl
  refine done_ (by kernel_rfl) ?_
  try clear hS
  refine hK8 _ _ ?_
  clear hK8
  try clear K8
  refine wp_ret ?_
  (try simp only [Exit.inBlock, Exit.then])
  refine bodyPost_ret (res1 rfl (rv_tmp 8)) rfl ⟨?_, M.below⟩
  rfl
end Go.Proofs.Ytdeedabhgfmgjaa.WkSpanMeets

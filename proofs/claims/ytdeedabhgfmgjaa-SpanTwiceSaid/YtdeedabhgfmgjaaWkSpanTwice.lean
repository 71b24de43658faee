/-
  The walk of the law copselaw4.SpanTwice.
-/
import Derived.Test.YtdeedabhgfmgjaaSpanLaw
set_option linter.unusedVariables false
set_option linter.unusedSimpArgs false
namespace Go.Proofs.Ytdeedabhgfmgjaa.WkSpanTwice
open Go Go.RowKit Go.Proofs.Ytdeedabhgfmgjaa.Span Go.Proofs.YtdeedabhgfmgjaaW.PrintWords Go.Proofs.YtdeedabhgfmgjaaW.PrintLast
set_option maxHeartbeats 8000000 in
set_option maxRecDepth 100000 in
theorem main (w : World) (s0 s1 a b p q x0 x1 y0 y1 z0 z1 n0 n1 : Int) (e : Bool) (hp : -9223372036854775808 ≤ p ∧ p ≤ 9223372036854775807) (hq : -9223372036854775808 ≤ q ∧ q ≤ 9223372036854775807) (hs : s1 ≤ 9223372036854775807)
    (hpq : (if b < a then b else a) = p) (hpq' : (if a < b then b else a) = q)
    (r0 r1 l0 l1 : Int) (hr : r1 ≤ 9223372036854775807) (hl : l1 ≤ 9223372036854775807) (hx : x1 ≤ 9223372036854775807)
    (x_ : cutLo (s0, s1) p = (x0, x1)) (r_ : cutHi (s0, s1) p = (r0, r1)) (y_ : cutLo (r0, r1) q = (y0, y1)) (z_ : cutHi (r0, r1) q = (z0, z1)) (l_ : cutLo (s0, s1) q = (l0, l1)) (w_ : cutHi (s0, s1) q = (z0, z1))
    (u_ : cutLo (l0, l1) p = (x0, x1)) (v_ : cutHi (l0, l1) p = (y0, y1)) (a_ : cutLo (x0, x1) p = (x0, x1)) (n_ : cutHi (x0, x1) p = (n0, n1)) (E1 : decide (x1 < x0) = e) (E2 : decide (n1 < n0) = true) (W : (decide (y1 < y0) || (decide (s0 ≤ y0) && decide (y1 ≤ s1))) = true) :
    Calls Try.prog 8 #[sp s0 s1, .int .i64 a, .int .i64 b] w fun e w' => e = .returned (.bool true) ∧ Below w.heap.size w w' := by
  cases e
  · -- not empty
    go_enter Try.func8, Try.ntmps8
    have M := Mem.start w
    refine wp_seq_k (fun K1 hK1 => ?_)
    refine wp_region_lit ?_
    refine ev_boxv M (N := 3) rfl rfl 23 _ rfl [_, _] rfl ?_
    intro g0 w1 M1
    clear M
    have M := M1
    clear M1
    refine ev_norm (a' := ?_) ?_ ?_
    rotate_left
    · simp only [Act.put, List.setIfInBounds_toArray, List.set_cons_zero, List.set_cons_succ, i64_w, i32_w]
      rfl
    refine ev_pure 6 (v := ?_) (a' := ?_) rfl rfl ?_ ?_ ?_
    rotate_left 2
    · intro w'
      go_simp
      with_reducible rfl
    · simp only [Act.put, List.setIfInBounds_toArray, List.set_cons_zero, List.set_cons_succ, i64_w, i32_w]
      rfl
    refine wpList_nil ?_
    refine hK1 _ _ ?_
    clear hK1
    try clear K1
    refine wp_seq_k (fun K2 hK2 => ?_)
    refine wp_region_lit ?_
    refine ev_pure 19 (v := ?_) (a' := ?_) rfl rfl ?_ ?_ ?_
    rotate_left 2
    · intro w'
      go_simp
      with_reducible rfl
    · simp only [Act.put, List.setIfInBounds_toArray, List.set_cons_zero, List.set_cons_succ, i64_w, i32_w]
      rfl
    refine ev_pure 20 (v := ?_) (a' := ?_) rfl rfl ?_ ?_ ?_
    rotate_left 2
    · intro w'
      go_simp
      with_reducible rfl
    · simp only [Act.put, List.setIfInBounds_toArray, List.set_cons_zero, List.set_cons_succ, i64_w, i32_w]
      rfl
    refine ev_pure 21 (v := ?_) (a' := ?_) rfl rfl ?_ ?_ ?_
    rotate_left 2
    · intro w'
      go_simp
      with_reducible rfl
    · simp only [Act.put, List.setIfInBounds_toArray, List.set_cons_zero, List.set_cons_succ, i64_w, i32_w]
      rfl
    refine ev_pure 22 (v := ?_) (a' := ?_) rfl rfl ?_ ?_ ?_
    rotate_left 2
    · intro w'
      go_simp
      with_reducible rfl
    · simp only [Act.put, List.setIfInBounds_toArray, List.set_cons_zero, List.set_cons_succ, i64_w, i32_w]
      rfl
    refine ev_pure 23 (v := ?_) (a' := ?_) rfl rfl ?_ ?_ ?_
    rotate_left 2
    · intro w'
      go_simp
      with_reducible rfl
    · simp only [Act.put, List.setIfInBounds_toArray, List.set_cons_zero, List.set_cons_succ, i64_w, i32_w]
      rfl
    refine ev_pure 24 (v := ?_) (a' := ?_) rfl rfl ?_ ?_ ?_
    rotate_left 2
    · intro w'
      go_simp
      with_reducible rfl
    · simp only [Act.put, List.setIfInBounds_toArray, List.set_cons_zero, List.set_cons_succ, i64_w, i32_w]
      rfl
    refine ev_pure 7 (v := ?_) (a' := ?_) rfl rfl ?_ ?_ ?_
    rotate_left 2
    · intro w'
      go_simp
      with_reducible rfl
    · simp only [Act.put, List.setIfInBounds_toArray, List.set_cons_zero, List.set_cons_succ, i64_w, i32_w]
      rfl
    refine ev_pure 8 (v := ?_) (a' := ?_) rfl rfl ?_ ?_ ?_
    rotate_left 2
    · intro w'
      go_simp
      with_reducible rfl
    · simp only [Act.put, List.setIfInBounds_toArray, List.set_cons_zero, List.set_cons_succ, i64_w, i32_w]
      rfl
    refine wpList_nil ?_
    refine hK2 _ _ ?_
    clear hK2
    try clear K2
    refine wp_seq_k (fun K3 hK3 => ?_)
    refine wp_region_lit ?_
    refine ev_load M 0 rfl (N := 26) rfl rfl 23 (.tmp 3) rfl 0 rfl [_, _] (by kernel_rfl) (by kernel_rfl) rfl ?_
    refine ev_norm (a' := ?_) ?_ ?_
    rotate_left
    · simp only [Act.put, List.setIfInBounds_toArray, List.set_cons_zero, List.set_cons_succ, i64_w, i32_w]
      rfl
    refine ev_pure 27 (v := ?_) (a' := ?_) rfl rfl ?_ ?_ ?_
    rotate_left 2
    · intro w'
      go_simp
      with_reducible rfl
    · simp only [Act.put, List.setIfInBounds_toArray, List.set_cons_zero, List.set_cons_succ, i64_w, i32_w]
      rfl
    refine ev_call (some 28) rfl rfl Try.func18 (by kernel_rfl) rfl #[.agg #[.int .i64 _, .int .i64 _], .int .i64 _] rfl (by (try simp only [List.map_toArray, List.map_cons, List.map_nil]); first | done | rfl) (by first | (with_reducible exact cut_is hp hs x_ r_ _) | (with_reducible exact cut_is hq hr y_ z_ _) | (with_reducible exact cut_is hq hs l_ w_ _) | (with_reducible exact cut_is hp hl u_ v_ _) | (with_reducible exact cut_is hp hx a_ n_ _)) rfl M ?_
    intro w2 M1
    clear M
    have M := M1
    clear M1
    refine ev_norm (a' := ?_) ?_ ?_
    rotate_left
    · simp only [Act.put, List.setIfInBounds_toArray, List.set_cons_zero, List.set_cons_succ, i64_w, i32_w]
      rfl
    refine ev_pure 25 (v := ?_) (a' := ?_) rfl rfl ?_ ?_ ?_
    rotate_left 2
    · intro w'
      go_simp
      with_reducible rfl
    · simp only [Act.put, List.setIfInBounds_toArray, List.set_cons_zero, List.set_cons_succ, i64_w, i32_w]
      rfl
    refine ev_pure 29 (v := ?_) (a' := ?_) rfl rfl ?_ ?_ ?_
    rotate_left 2
    · intro w'
      go_simp
      with_reducible rfl
    · simp only [Act.put, List.setIfInBounds_toArray, List.set_cons_zero, List.set_cons_succ, i64_w, i32_w]
      rfl
    refine ev_pure 30 (v := ?_) (a' := ?_) rfl rfl ?_ ?_ ?_
    rotate_left 2
    · intro w'
      go_simp
      with_reducible rfl
    · simp only [Act.put, List.setIfInBounds_toArray, List.set_cons_zero, List.set_cons_succ, i64_w, i32_w]
      rfl
    refine ev_alloc M (N := 9) rfl rfl 23 rfl (.agg #[.int .i64 0, .int .i64 0]) (by kernel_rfl) [.int .i64 0, .int .i64 0] rfl ?_
    intro g1 w3 M1
    clear M
    have M := M1
    clear M1
    refine ev_norm (a' := ?_) ?_ ?_
    rotate_left
    · simp only [Act.put, List.setIfInBounds_toArray, List.set_cons_zero, List.set_cons_succ, i64_w, i32_w]
      rfl
    refine ev_alloc M (N := 10) rfl rfl 23 rfl (.agg #[.int .i64 0, .int .i64 0]) (by kernel_rfl) [.int .i64 0, .int .i64 0] rfl ?_
    intro g2 w4 M1
    clear M
    have M := M1
    clear M1
    refine ev_norm (a' := ?_) ?_ ?_
    rotate_left
    · simp only [Act.put, List.setIfInBounds_toArray, List.set_cons_zero, List.set_cons_succ, i64_w, i32_w]
      rfl
    refine ev_store M 1 rfl rfl rfl 23 (.tmp 9) _ rfl 0 rfl [_, _] rfl (by kernel_rfl) rfl (Nat.le_of_ble_eq_true rfl) [_, _] rfl [_, _, _] rfl ?_
    intro w5 M1
    clear M
    have M := M1
    clear M1
    refine ev_store M 0 rfl rfl rfl 23 (.tmp 10) _ rfl 0 rfl [_, _] rfl (by kernel_rfl) rfl (Nat.le_of_ble_eq_true rfl) [_, _] rfl [_, _, _] rfl ?_
    intro w6 M1
    clear M
    have M := M1
    clear M1
    refine wpList_nil ?_
    refine hK3 _ _ ?_
    clear hK3
    try clear K3
    refine wp_seq_k (fun K4 hK4 => ?_)
    refine wp_region_lit ?_
    refine ev_load M 0 rfl (N := 32) rfl rfl 23 (.tmp 10) rfl 0 rfl [_, _] (by kernel_rfl) (by kernel_rfl) rfl ?_
    refine ev_norm (a' := ?_) ?_ ?_
    rotate_left
    · simp only [Act.put, List.setIfInBounds_toArray, List.set_cons_zero, List.set_cons_succ, i64_w, i32_w]
      rfl
    refine ev_pure 33 (v := ?_) (a' := ?_) rfl rfl ?_ ?_ ?_
    rotate_left 2
    · intro w'
      go_simp
      with_reducible rfl
    · simp only [Act.put, List.setIfInBounds_toArray, List.set_cons_zero, List.set_cons_succ, i64_w, i32_w]
      rfl
    refine ev_call (some 34) rfl rfl Try.func18 (by kernel_rfl) rfl #[.agg #[.int .i64 _, .int .i64 _], .int .i64 _] rfl (by (try simp only [List.map_toArray, List.map_cons, List.map_nil]); first | done | rfl) (by first | (with_reducible exact cut_is hp hs x_ r_ _) | (with_reducible exact cut_is hq hr y_ z_ _) | (with_reducible exact cut_is hq hs l_ w_ _) | (with_reducible exact cut_is hp hl u_ v_ _) | (with_reducible exact cut_is hp hx a_ n_ _)) rfl M ?_
    intro w7 M1
    clear M
    have M := M1
    clear M1
    refine ev_norm (a' := ?_) ?_ ?_
    rotate_left
    · simp only [Act.put, List.setIfInBounds_toArray, List.set_cons_zero, List.set_cons_succ, i64_w, i32_w]
      rfl
    refine ev_pure 31 (v := ?_) (a' := ?_) rfl rfl ?_ ?_ ?_
    rotate_left 2
    · intro w'
      go_simp
      with_reducible rfl
    · simp only [Act.put, List.setIfInBounds_toArray, List.set_cons_zero, List.set_cons_succ, i64_w, i32_w]
      rfl
    refine ev_pure 35 (v := ?_) (a' := ?_) rfl rfl ?_ ?_ ?_
    rotate_left 2
    · intro w'
      go_simp
      with_reducible rfl
    · simp only [Act.put, List.setIfInBounds_toArray, List.set_cons_zero, List.set_cons_succ, i64_w, i32_w]
      rfl
    refine ev_pure 36 (v := ?_) (a' := ?_) rfl rfl ?_ ?_ ?_
    rotate_left 2
    · intro w'
      go_simp
      with_reducible rfl
    · simp only [Act.put, List.setIfInBounds_toArray, List.set_cons_zero, List.set_cons_succ, i64_w, i32_w]
      rfl
    refine ev_alloc M (N := 11) rfl rfl 23 rfl (.agg #[.int .i64 0, .int .i64 0]) (by kernel_rfl) [.int .i64 0, .int .i64 0] rfl ?_
    intro g3 w8 M1
    clear M
    have M := M1
    clear M1
    refine ev_norm (a' := ?_) ?_ ?_
    rotate_left
    · simp only [Act.put, List.setIfInBounds_toArray, List.set_cons_zero, List.set_cons_succ, i64_w, i32_w]
      rfl
    refine ev_alloc M (N := 12) rfl rfl 23 rfl (.agg #[.int .i64 0, .int .i64 0]) (by kernel_rfl) [.int .i64 0, .int .i64 0] rfl ?_
    intro g4 w9 M1
    clear M
    have M := M1
    clear M1
    refine ev_norm (a' := ?_) ?_ ?_
    rotate_left
    · simp only [Act.put, List.setIfInBounds_toArray, List.set_cons_zero, List.set_cons_succ, i64_w, i32_w]
      rfl
    refine ev_store M 1 rfl rfl rfl 23 (.tmp 11) _ rfl 0 rfl [_, _] rfl (by kernel_rfl) rfl (Nat.le_of_ble_eq_true rfl) [_, _] rfl [_, _, _, _, _] rfl ?_
    intro w10 M1
    clear M
    have M := M1
    clear M1
    refine ev_store M 0 rfl rfl rfl 23 (.tmp 12) _ rfl 0 rfl [_, _] rfl (by kernel_rfl) rfl (Nat.le_of_ble_eq_true rfl) [_, _] rfl [_, _, _, _, _] rfl ?_
    intro w11 M1
    clear M
    have M := M1
    clear M1
    refine wpList_nil ?_
    refine hK4 _ _ ?_
    clear hK4
    try clear K4
    refine wp_seq_k (fun K5 hK5 => ?_)
    refine wp_region_lit ?_
    refine ev_load M 4 rfl (N := 38) rfl rfl 23 (.tmp 3) rfl 0 rfl [_, _] (by kernel_rfl) (by kernel_rfl) rfl ?_
    refine ev_norm (a' := ?_) ?_ ?_
    rotate_left
    · simp only [Act.put, List.setIfInBounds_toArray, List.set_cons_zero, List.set_cons_succ, i64_w, i32_w]
      rfl
    refine ev_pure 39 (v := ?_) (a' := ?_) rfl rfl ?_ ?_ ?_
    rotate_left 2
    · intro w'
      go_simp
      with_reducible rfl
    · simp only [Act.put, List.setIfInBounds_toArray, List.set_cons_zero, List.set_cons_succ, i64_w, i32_w]
      rfl
    refine ev_call (some 40) rfl rfl Try.func18 (by kernel_rfl) rfl #[.agg #[.int .i64 _, .int .i64 _], .int .i64 _] rfl (by (try simp only [List.map_toArray, List.map_cons, List.map_nil]); first | done | rfl) (by first | (with_reducible exact cut_is hp hs x_ r_ _) | (with_reducible exact cut_is hq hr y_ z_ _) | (with_reducible exact cut_is hq hs l_ w_ _) | (with_reducible exact cut_is hp hl u_ v_ _) | (with_reducible exact cut_is hp hx a_ n_ _)) rfl M ?_
    intro w12 M1
    clear M
    have M := M1
    clear M1
    refine ev_norm (a' := ?_) ?_ ?_
    rotate_left
    · simp only [Act.put, List.setIfInBounds_toArray, List.set_cons_zero, List.set_cons_succ, i64_w, i32_w]
      rfl
    refine ev_pure 37 (v := ?_) (a' := ?_) rfl rfl ?_ ?_ ?_
    rotate_left 2
    · intro w'
      go_simp
      with_reducible rfl
    · simp only [Act.put, List.setIfInBounds_toArray, List.set_cons_zero, List.set_cons_succ, i64_w, i32_w]
      rfl
    refine ev_pure 41 (v := ?_) (a' := ?_) rfl rfl ?_ ?_ ?_
    rotate_left 2
    · intro w'
      go_simp
      with_reducible rfl
    · simp only [Act.put, List.setIfInBounds_toArray, List.set_cons_zero, List.set_cons_succ, i64_w, i32_w]
      rfl
    refine ev_pure 42 (v := ?_) (a' := ?_) rfl rfl ?_ ?_ ?_
    rotate_left 2
    · intro w'
      go_simp
      with_reducible rfl
    · simp only [Act.put, List.setIfInBounds_toArray, List.set_cons_zero, List.set_cons_succ, i64_w, i32_w]
      rfl
    refine ev_alloc M (N := 13) rfl rfl 23 rfl (.agg #[.int .i64 0, .int .i64 0]) (by kernel_rfl) [.int .i64 0, .int .i64 0] rfl ?_
    intro g5 w13 M1
    clear M
    have M := M1
    clear M1
    refine ev_norm (a' := ?_) ?_ ?_
    rotate_left
    · simp only [Act.put, List.setIfInBounds_toArray, List.set_cons_zero, List.set_cons_succ, i64_w, i32_w]
      rfl
    refine ev_alloc M (N := 14) rfl rfl 23 rfl (.agg #[.int .i64 0, .int .i64 0]) (by kernel_rfl) [.int .i64 0, .int .i64 0] rfl ?_
    intro g6 w14 M1
    clear M
    have M := M1
    clear M1
    refine ev_norm (a' := ?_) ?_ ?_
    rotate_left
    · simp only [Act.put, List.setIfInBounds_toArray, List.set_cons_zero, List.set_cons_succ, i64_w, i32_w]
      rfl
    refine ev_store M 1 rfl rfl rfl 23 (.tmp 13) _ rfl 0 rfl [_, _] rfl (by kernel_rfl) rfl (Nat.le_of_ble_eq_true rfl) [_, _] rfl [_, _, _, _, _, _, _] rfl ?_
    intro w15 M1
    clear M
    have M := M1
    clear M1
    refine ev_store M 0 rfl rfl rfl 23 (.tmp 14) _ rfl 0 rfl [_, _] rfl (by kernel_rfl) rfl (Nat.le_of_ble_eq_true rfl) [_, _] rfl [_, _, _, _, _, _, _] rfl ?_
    intro w16 M1
    clear M
    have M := M1
    clear M1
    refine wpList_nil ?_
    refine hK5 _ _ ?_
    clear hK5
    try clear K5
    refine wp_seq_k (fun K6 hK6 => ?_)
    refine wp_region_lit ?_
    refine ev_load M 1 rfl (N := 44) rfl rfl 23 (.tmp 13) rfl 0 rfl [_, _] (by kernel_rfl) (by kernel_rfl) rfl ?_
    refine ev_norm (a' := ?_) ?_ ?_
    rotate_left
    · simp only [Act.put, List.setIfInBounds_toArray, List.set_cons_zero, List.set_cons_succ, i64_w, i32_w]
      rfl
    refine ev_pure 45 (v := ?_) (a' := ?_) rfl rfl ?_ ?_ ?_
    rotate_left 2
    · intro w'
      go_simp
      with_reducible rfl
    · simp only [Act.put, List.setIfInBounds_toArray, List.set_cons_zero, List.set_cons_succ, i64_w, i32_w]
      rfl
    refine ev_call (some 46) rfl rfl Try.func18 (by kernel_rfl) rfl #[.agg #[.int .i64 _, .int .i64 _], .int .i64 _] rfl (by (try simp only [List.map_toArray, List.map_cons, List.map_nil]); first | done | rfl) (by first | (with_reducible exact cut_is hp hs x_ r_ _) | (with_reducible exact cut_is hq hr y_ z_ _) | (with_reducible exact cut_is hq hs l_ w_ _) | (with_reducible exact cut_is hp hl u_ v_ _) | (with_reducible exact cut_is hp hx a_ n_ _)) rfl M ?_
    intro w17 M1
    clear M
    have M := M1
    clear M1
    refine ev_norm (a' := ?_) ?_ ?_
    rotate_left
    · simp only [Act.put, List.setIfInBounds_toArray, List.set_cons_zero, List.set_cons_succ, i64_w, i32_w]
      rfl
    refine ev_pure 43 (v := ?_) (a' := ?_) rfl rfl ?_ ?_ ?_
    rotate_left 2
    · intro w'
      go_simp
      with_reducible rfl
    · simp only [Act.put, List.setIfInBounds_toArray, List.set_cons_zero, List.set_cons_succ, i64_w, i32_w]
      rfl
    refine ev_pure 47 (v := ?_) (a' := ?_) rfl rfl ?_ ?_ ?_
    rotate_left 2
    · intro w'
      go_simp
      with_reducible rfl
    · simp only [Act.put, List.setIfInBounds_toArray, List.set_cons_zero, List.set_cons_succ, i64_w, i32_w]
      rfl
    refine ev_pure 48 (v := ?_) (a' := ?_) rfl rfl ?_ ?_ ?_
    rotate_left 2
    · intro w'
      go_simp
      with_reducible rfl
    · simp only [Act.put, List.setIfInBounds_toArray, List.set_cons_zero, List.set_cons_succ, i64_w, i32_w]
      rfl
    refine ev_alloc M (N := 15) rfl rfl 23 rfl (.agg #[.int .i64 0, .int .i64 0]) (by kernel_rfl) [.int .i64 0, .int .i64 0] rfl ?_
    intro g7 w18 M1
    clear M
    have M := M1
    clear M1
    refine ev_norm (a' := ?_) ?_ ?_
    rotate_left
    · simp only [Act.put, List.setIfInBounds_toArray, List.set_cons_zero, List.set_cons_succ, i64_w, i32_w]
      rfl
    refine ev_alloc M (N := 16) rfl rfl 23 rfl (.agg #[.int .i64 0, .int .i64 0]) (by kernel_rfl) [.int .i64 0, .int .i64 0] rfl ?_
    intro g8 w19 M1
    clear M
    have M := M1
    clear M1
    refine ev_norm (a' := ?_) ?_ ?_
    rotate_left
    · simp only [Act.put, List.setIfInBounds_toArray, List.set_cons_zero, List.set_cons_succ, i64_w, i32_w]
      rfl
    refine ev_store M 1 rfl rfl rfl 23 (.tmp 15) _ rfl 0 rfl [_, _] rfl (by kernel_rfl) rfl (Nat.le_of_ble_eq_true rfl) [_, _] rfl [_, _, _, _, _, _, _, _, _] rfl ?_
    intro w20 M1
    clear M
    have M := M1
    clear M1
    refine ev_store M 0 rfl rfl rfl 23 (.tmp 16) _ rfl 0 rfl [_, _] rfl (by kernel_rfl) rfl (Nat.le_of_ble_eq_true rfl) [_, _] rfl [_, _, _, _, _, _, _, _, _] rfl ?_
    intro w21 M1
    clear M
    have M := M1
    clear M1
    refine wpList_nil ?_
    refine hK6 _ _ ?_
    clear hK6
    try clear K6
    refine wp_seq_k (fun K7 hK7 => ?_)
    refine wp_region_lit ?_
    refine ev_load M 7 rfl (N := 50) rfl rfl 23 (.tmp 9) rfl 0 rfl [_, _] (by kernel_rfl) (by kernel_rfl) rfl ?_
    refine ev_norm (a' := ?_) ?_ ?_
    rotate_left
    · simp only [Act.put, List.setIfInBounds_toArray, List.set_cons_zero, List.set_cons_succ, i64_w, i32_w]
      rfl
    refine ev_pure 51 (v := ?_) (a' := ?_) rfl rfl ?_ ?_ ?_
    rotate_left 2
    · intro w'
      go_simp
      with_reducible rfl
    · simp only [Act.put, List.setIfInBounds_toArray, List.set_cons_zero, List.set_cons_succ, i64_w, i32_w]
      rfl
    refine ev_call (some 52) rfl rfl Try.func18 (by kernel_rfl) rfl #[.agg #[.int .i64 _, .int .i64 _], .int .i64 _] rfl (by (try simp only [List.map_toArray, List.map_cons, List.map_nil]); first | done | rfl) (by first | (with_reducible exact cut_is hp hs x_ r_ _) | (with_reducible exact cut_is hq hr y_ z_ _) | (with_reducible exact cut_is hq hs l_ w_ _) | (with_reducible exact cut_is hp hl u_ v_ _) | (with_reducible exact cut_is hp hx a_ n_ _)) rfl M ?_
    intro w22 M1
    clear M
    have M := M1
    clear M1
    refine ev_norm (a' := ?_) ?_ ?_
    rotate_left
    · simp only [Act.put, List.setIfInBounds_toArray, List.set_cons_zero, List.set_cons_succ, i64_w, i32_w]
      rfl
    refine ev_pure 49 (v := ?_) (a' := ?_) rfl rfl ?_ ?_ ?_
    rotate_left 2
    · intro w'
      go_simp
      with_reducible rfl
    · simp only [Act.put, List.setIfInBounds_toArray, List.set_cons_zero, List.set_cons_succ, i64_w, i32_w]
      rfl
    refine ev_pure 53 (v := ?_) (a' := ?_) rfl rfl ?_ ?_ ?_
    rotate_left 2
    · intro w'
      go_simp
      with_reducible rfl
    · simp only [Act.put, List.setIfInBounds_toArray, List.set_cons_zero, List.set_cons_succ, i64_w, i32_w]
      rfl
    refine ev_pure 54 (v := ?_) (a' := ?_) rfl rfl ?_ ?_ ?_
    rotate_left 2
    · intro w'
      go_simp
      with_reducible rfl
    · simp only [Act.put, List.setIfInBounds_toArray, List.set_cons_zero, List.set_cons_succ, i64_w, i32_w]
      rfl
    refine ev_alloc M (N := 17) rfl rfl 23 rfl (.agg #[.int .i64 0, .int .i64 0]) (by kernel_rfl) [.int .i64 0, .int .i64 0] rfl ?_
    intro g9 w23 M1
    clear M
    have M := M1
    clear M1
    refine ev_norm (a' := ?_) ?_ ?_
    rotate_left
    · simp only [Act.put, List.setIfInBounds_toArray, List.set_cons_zero, List.set_cons_succ, i64_w, i32_w]
      rfl
    refine ev_alloc M (N := 18) rfl rfl 23 rfl (.agg #[.int .i64 0, .int .i64 0]) (by kernel_rfl) [.int .i64 0, .int .i64 0] rfl ?_
    intro g10 w24 M1
    clear M
    have M := M1
    clear M1
    refine ev_norm (a' := ?_) ?_ ?_
    rotate_left
    · simp only [Act.put, List.setIfInBounds_toArray, List.set_cons_zero, List.set_cons_succ, i64_w, i32_w]
      rfl
    refine ev_store M 1 rfl rfl rfl 23 (.tmp 17) _ rfl 0 rfl [_, _] rfl (by kernel_rfl) rfl (Nat.le_of_ble_eq_true rfl) [_, _] rfl [_, _, _, _, _, _, _, _, _, _, _] rfl ?_
    intro w25 M1
    clear M
    have M := M1
    clear M1
    refine ev_store M 0 rfl rfl rfl 23 (.tmp 18) _ rfl 0 rfl [_, _] rfl (by kernel_rfl) rfl (Nat.le_of_ble_eq_true rfl) [_, _] rfl [_, _, _, _, _, _, _, _, _, _, _] rfl ?_
    intro w26 M1
    clear M
    have M := M1
    clear M1
    refine wpList_nil ?_
    refine hK7 _ _ ?_
    clear hK7
    try clear K7
    refine wp_seq_k (fun K8 hK8 => ?_)
    refine wp_region_lit ?_
    refine ev_load M 9 rfl (N := 55) rfl rfl 23 (.tmp 9) rfl 0 rfl [_, _] (by kernel_rfl) (by kernel_rfl) rfl ?_
    refine ev_norm (a' := ?_) ?_ ?_
    rotate_left
    · simp only [Act.put, List.setIfInBounds_toArray, List.set_cons_zero, List.set_cons_succ, i64_w, i32_w]
      rfl
    refine ev_load M 3 rfl (N := 56) rfl rfl 23 (.tmp 15) rfl 0 rfl [_, _] (by kernel_rfl) (by kernel_rfl) rfl ?_
    refine ev_norm (a' := ?_) ?_ ?_
    rotate_left
    · simp only [Act.put, List.setIfInBounds_toArray, List.set_cons_zero, List.set_cons_succ, i64_w, i32_w]
      rfl
    refine ev_pure 57 (v := ?_) (a' := ?_) rfl rfl ?_ ?_ ?_
    rotate_left 2
    · intro w'
      go_simp
      with_reducible rfl
    · simp only [Act.put, List.setIfInBounds_toArray, List.set_cons_zero, List.set_cons_succ, i64_w, i32_w]
      rfl
    refine ev_pure 58 (v := ?_) (a' := ?_) rfl rfl ?_ ?_ ?_
    rotate_left 2
    · intro w'
      go_simp
      with_reducible rfl
    · simp only [Act.put, List.setIfInBounds_toArray, List.set_cons_zero, List.set_cons_succ, i64_w, i32_w]
      rfl
    refine ev_load M 7 rfl (N := 59) rfl rfl 23 (.tmp 11) rfl 0 rfl [_, _] (by kernel_rfl) (by kernel_rfl) rfl ?_
    refine ev_norm (a' := ?_) ?_ ?_
    rotate_left
    · simp only [Act.put, List.setIfInBounds_toArray, List.set_cons_zero, List.set_cons_succ, i64_w, i32_w]
      rfl
    refine ev_load M 2 rfl (N := 60) rfl rfl 23 (.tmp 16) rfl 0 rfl [_, _] (by kernel_rfl) (by kernel_rfl) rfl ?_
    refine ev_norm (a' := ?_) ?_ ?_
    rotate_left
    · simp only [Act.put, List.setIfInBounds_toArray, List.set_cons_zero, List.set_cons_succ, i64_w, i32_w]
      rfl
    refine ev_pure 61 (v := ?_) (a' := ?_) rfl rfl ?_ ?_ ?_
    rotate_left 2
    · intro w'
      go_simp
      with_reducible rfl
    · simp only [Act.put, List.setIfInBounds_toArray, List.set_cons_zero, List.set_cons_succ, i64_w, i32_w]
      rfl
    refine ev_pure 62 (v := ?_) (a' := ?_) rfl rfl ?_ ?_ ?_
    rotate_left 2
    · intro w'
      go_simp
      with_reducible rfl
    · simp only [Act.put, List.setIfInBounds_toArray, List.set_cons_zero, List.set_cons_succ, i64_w, i32_w]
      rfl
    refine ev_pure 63 (v := ?_) (a' := ?_) rfl rfl ?_ ?_ ?_
    rotate_left 2
    · intro w'
      go_simp
      with_reducible rfl
    · simp only [Act.put, List.setIfInBounds_toArray, List.set_cons_zero, List.set_cons_succ, i64_w, i32_w]
      rfl
    refine ev_load M 6 rfl (N := 64) rfl rfl 23 (.tmp 12) rfl 0 rfl [_, _] (by kernel_rfl) (by kernel_rfl) rfl ?_
    refine ev_norm (a' := ?_) ?_ ?_
    rotate_left
    · simp only [Act.put, List.setIfInBounds_toArray, List.set_cons_zero, List.set_cons_succ, i64_w, i32_w]
      rfl
    refine ev_load M 4 rfl (N := 65) rfl rfl 23 (.tmp 14) rfl 0 rfl [_, _] (by kernel_rfl) (by kernel_rfl) rfl ?_
    refine ev_norm (a' := ?_) ?_ ?_
    rotate_left
    · simp only [Act.put, List.setIfInBounds_toArray, List.set_cons_zero, List.set_cons_succ, i64_w, i32_w]
      rfl
    refine ev_pure 66 (v := ?_) (a' := ?_) rfl rfl ?_ ?_ ?_
    rotate_left 2
    · intro w'
      go_simp
      with_reducible rfl
    · simp only [Act.put, List.setIfInBounds_toArray, List.set_cons_zero, List.set_cons_succ, i64_w, i32_w]
      rfl
    refine ev_pure 67 (v := ?_) (a' := ?_) rfl rfl ?_ ?_ ?_
    rotate_left 2
    · intro w'
      go_simp
      with_reducible rfl
    · simp only [Act.put, List.setIfInBounds_toArray, List.set_cons_zero, List.set_cons_succ, i64_w, i32_w]
      rfl
    refine ev_pure 68 (v := ?_) (a' := ?_) rfl rfl ?_ ?_ ?_
    rotate_left 2
    · intro w'
      go_simp
      with_reducible rfl
    · simp only [Act.put, List.setIfInBounds_toArray, List.set_cons_zero, List.set_cons_succ, i64_w, i32_w]
      rfl
    refine ev_load M 9 rfl (N := 69) rfl rfl 23 (.tmp 9) rfl 0 rfl [_, _] (by kernel_rfl) (by kernel_rfl) rfl ?_
    refine ev_norm (a' := ?_) ?_ ?_
    rotate_left
    · simp only [Act.put, List.setIfInBounds_toArray, List.set_cons_zero, List.set_cons_succ, i64_w, i32_w]
      rfl
    refine ev_call (some 70) rfl rfl Try.func23 (by kernel_rfl) rfl #[.agg #[.int .i64 _, .int .i64 _]] rfl (by (try simp only [List.map_toArray, List.map_cons, List.map_nil]); first | done | rfl) (by first | (with_reducible exact empty_is E1 _) | (with_reducible exact empty_is E2 _)) rfl M ?_
    intro w27 M1
    clear M
    have M := M1
    clear M1
    refine ev_norm (a' := ?_) ?_ ?_
    rotate_left
    · simp only [Act.put, List.setIfInBounds_toArray, List.set_cons_zero, List.set_cons_succ, i64_w, i32_w]
      rfl
    refine ev_pure 71 (v := ?_) (a' := ?_) rfl rfl ?_ ?_ ?_
    rotate_left 2
    · intro w'
      go_simp
      with_reducible rfl
    · simp only [Act.put, List.setIfInBounds_toArray, List.set_cons_zero, List.set_cons_succ, i64_w, i32_w]
      rfl
    refine ev_load M 1 rfl (N := 72) rfl rfl 23 (.tmp 17) rfl 0 rfl [_, _] (by kernel_rfl) (by kernel_rfl) rfl ?_
    refine ev_norm (a' := ?_) ?_ ?_
    rotate_left
    · simp only [Act.put, List.setIfInBounds_toArray, List.set_cons_zero, List.set_cons_succ, i64_w, i32_w]
      rfl
    refine ev_load M 9 rfl (N := 73) rfl rfl 23 (.tmp 9) rfl 0 rfl [_, _] (by kernel_rfl) (by kernel_rfl) rfl ?_
    refine ev_norm (a' := ?_) ?_ ?_
    rotate_left
    · simp only [Act.put, List.setIfInBounds_toArray, List.set_cons_zero, List.set_cons_succ, i64_w, i32_w]
      rfl
    refine ev_pure 74 (v := ?_) (a' := ?_) rfl rfl ?_ ?_ ?_
    rotate_left 2
    · intro w'
      go_simp
      with_reducible rfl
    · simp only [Act.put, List.setIfInBounds_toArray, List.set_cons_zero, List.set_cons_succ, i64_w, i32_w]
      rfl
    refine ev_pure 75 (v := ?_) (a' := ?_) rfl rfl ?_ ?_ ?_
    rotate_left 2
    · intro w'
      go_simp
      with_reducible rfl
    · simp only [Act.put, List.setIfInBounds_toArray, List.set_cons_zero, List.set_cons_succ, i64_w, i32_w]
      rfl
    refine ev_pure 76 (v := ?_) (a' := ?_) rfl rfl ?_ ?_ ?_
    rotate_left 2
    · intro w'
      go_simp
      with_reducible rfl
    · simp only [Act.put, List.setIfInBounds_toArray, List.set_cons_zero, List.set_cons_succ, i64_w, i32_w]
      rfl
    refine ev_pure 77 (v := ?_) (a' := ?_) rfl rfl ?_ ?_ ?_
    rotate_left 2
    · intro w'
      go_simp
      with_reducible rfl
    · simp only [Act.put, List.setIfInBounds_toArray, List.set_cons_zero, List.set_cons_succ, i64_w, i32_w]
      rfl
    refine ev_load M 0 rfl (N := 78) rfl rfl 23 (.tmp 18) rfl 0 rfl [_, _] (by kernel_rfl) (by kernel_rfl) rfl ?_
    refine ev_norm (a' := ?_) ?_ ?_
    rotate_left
    · simp only [Act.put, List.setIfInBounds_toArray, List.set_cons_zero, List.set_cons_succ, i64_w, i32_w]
      rfl
    refine ev_call (some 79) rfl rfl Try.func23 (by kernel_rfl) rfl #[.agg #[.int .i64 _, .int .i64 _]] rfl (by (try simp only [List.map_toArray, List.map_cons, List.map_nil]); first | done | rfl) (by first | (with_reducible exact empty_is E1 _) | (with_reducible exact empty_is E2 _)) rfl M ?_
    intro w28 M1
    clear M
    have M := M1
    clear M1
    refine ev_norm (a' := ?_) ?_ ?_
    rotate_left
    · simp only [Act.put, List.setIfInBounds_toArray, List.set_cons_zero, List.set_cons_succ, i64_w, i32_w]
      rfl
    refine ev_pure 80 (v := ?_) (a' := ?_) rfl rfl ?_ ?_ ?_
    rotate_left 2
    · intro w'
      go_simp
      with_reducible rfl
    · simp only [Act.put, List.setIfInBounds_toArray, List.set_cons_zero, List.set_cons_succ, i64_w, i32_w]
      rfl
    refine ev_pure 81 (v := ?_) (a' := ?_) rfl rfl ?_ ?_ ?_
    rotate_left 2
    · intro w'
      go_simp
      with_reducible rfl
    · simp only [Act.put, List.setIfInBounds_toArray, List.set_cons_zero, List.set_cons_succ, i64_w, i32_w]
      rfl
    refine ev_load M 7 rfl (N := 82) rfl rfl 23 (.tmp 11) rfl 0 rfl [_, _] (by kernel_rfl) (by kernel_rfl) rfl ?_
    refine ev_norm (a' := ?_) ?_ ?_
    rotate_left
    · simp only [Act.put, List.setIfInBounds_toArray, List.set_cons_zero, List.set_cons_succ, i64_w, i32_w]
      rfl
    refine ev_load M 10 rfl (N := 83) rfl rfl 23 (.tmp 3) rfl 0 rfl [_, _] (by kernel_rfl) (by kernel_rfl) rfl ?_
    refine ev_norm (a' := ?_) ?_ ?_
    rotate_left
    · simp only [Act.put, List.setIfInBounds_toArray, List.set_cons_zero, List.set_cons_succ, i64_w, i32_w]
      rfl
    refine ev_call (some 84) rfl rfl Try.func24 (by kernel_rfl) rfl #[.agg #[.int .i64 _, .int .i64 _], .agg #[.int .i64 _, .int .i64 _]] rfl (by (try simp only [List.map_toArray, List.map_cons, List.map_nil]); first | done | rfl) (by first | (with_reducible exact within_is W _)) rfl M ?_
    intro w29 M1
    clear M
    have M := M1
    clear M1
    refine ev_norm (a' := ?_) ?_ ?_
    rotate_left
    · simp only [Act.put, List.setIfInBounds_toArray, List.set_cons_zero, List.set_cons_succ, i64_w, i32_w]
      rfl
    refine ev_pure 85 (v := ?_) (a' := ?_) rfl rfl ?_ ?_ ?_
    rotate_left 2
    · intro w'
      go_simp
      with_reducible rfl
    · simp only [Act.put, List.setIfInBounds_toArray, List.set_cons_zero, List.set_cons_succ, i64_w, i32_w]
      rfl
    refine ev_pure 86 (v := ?_) (a' := ?_) rfl rfl ?_ ?_ ?_
    rotate_left 2
    · intro w'
      go_simp
      with_reducible rfl
    · simp only [Act.put, List.setIfInBounds_toArray, List.set_cons_zero, List.set_cons_succ, i64_w, i32_w]
      rfl
    refine ev_call (some 87) rfl rfl Try.func5 (by kernel_rfl) rfl #[] rfl (by (try simp only [List.map_toArray, List.map_cons, List.map_nil]); first | done | rfl) (by first | (with_reducible exact runs_is _)) rfl M ?_
    intro w30 M1
    clear M
    have M := M1
    clear M1
    refine ev_norm (a' := ?_) ?_ ?_
    rotate_left
    · simp only [Act.put, List.setIfInBounds_toArray, List.set_cons_zero, List.set_cons_succ, i64_w, i32_w]
      rfl
    refine ev_pure 88 (v := ?_) (a' := ?_) rfl rfl ?_ ?_ ?_
    rotate_left 2
    · intro w'
      go_simp
      with_reducible rfl
    · simp only [Act.put, List.setIfInBounds_toArray, List.set_cons_zero, List.set_cons_succ, i64_w, i32_w]
      rfl
    refine ev_pure 6 (v := ?_) (a' := ?_) rfl rfl ?_ ?_ ?_
    rotate_left 2
    · intro w'
      go_simp
      with_reducible rfl
    · simp only [Act.put, List.setIfInBounds_toArray, List.set_cons_zero, List.set_cons_succ, i64_w, i32_w]
      rfl
    refine wpList_nil ?_
    refine hK8 _ _ ?_
    clear hK8
    try clear K8
    refine wp_ret ?_
    (try simp only [Exit.inBlock, Exit.then])
    refine bodyPost_ret (res1 rfl (rv_tmp 6)) rfl ⟨?_, M.below⟩
    rfl
  · -- empty
    go_enter Try.func8, Try.ntmps8
    have M := Mem.start w
    refine wp_seq_k (fun K1 hK1 => ?_)
    refine wp_region_lit ?_
    refine ev_boxv M (N := 3) rfl rfl 23 _ rfl [_, _] rfl ?_
    intro g0 w1 M1
    clear M
    have M := M1
    clear M1
    refine ev_norm (a' := ?_) ?_ ?_
    rotate_left
    · simp only [Act.put, List.setIfInBounds_toArray, List.set_cons_zero, List.set_cons_succ, i64_w, i32_w]
      rfl
    refine ev_pure 6 (v := ?_) (a' := ?_) rfl rfl ?_ ?_ ?_
    rotate_left 2
    · intro w'
      go_simp
      with_reducible rfl
    · simp only [Act.put, List.setIfInBounds_toArray, List.set_cons_zero, List.set_cons_succ, i64_w, i32_w]
      rfl
    refine wpList_nil ?_
    refine hK1 _ _ ?_
    clear hK1
    try clear K1
    refine wp_seq_k (fun K2 hK2 => ?_)
    refine wp_region_lit ?_
    refine ev_pure 19 (v := ?_) (a' := ?_) rfl rfl ?_ ?_ ?_
    rotate_left 2
    · intro w'
      go_simp
      with_reducible rfl
    · simp only [Act.put, List.setIfInBounds_toArray, List.set_cons_zero, List.set_cons_succ, i64_w, i32_w]
      rfl
    refine ev_pure 20 (v := ?_) (a' := ?_) rfl rfl ?_ ?_ ?_
    rotate_left 2
    · intro w'
      go_simp
      with_reducible rfl
    · simp only [Act.put, List.setIfInBounds_toArray, List.set_cons_zero, List.set_cons_succ, i64_w, i32_w]
      rfl
    refine ev_pure 21 (v := ?_) (a' := ?_) rfl rfl ?_ ?_ ?_
    rotate_left 2
    · intro w'
      go_simp
      with_reducible rfl
    · simp only [Act.put, List.setIfInBounds_toArray, List.set_cons_zero, List.set_cons_succ, i64_w, i32_w]
      rfl
    refine ev_pure 22 (v := ?_) (a' := ?_) rfl rfl ?_ ?_ ?_
    rotate_left 2
    · intro w'
      go_simp
      with_reducible rfl
    · simp only [Act.put, List.setIfInBounds_toArray, List.set_cons_zero, List.set_cons_succ, i64_w, i32_w]
      rfl
    refine ev_pure 23 (v := ?_) (a' := ?_) rfl rfl ?_ ?_ ?_
    rotate_left 2
    · intro w'
      go_simp
      with_reducible rfl
    · simp only [Act.put, List.setIfInBounds_toArray, List.set_cons_zero, List.set_cons_succ, i64_w, i32_w]
      rfl
    refine ev_pure 24 (v := ?_) (a' := ?_) rfl rfl ?_ ?_ ?_
    rotate_left 2
    · intro w'
      go_simp
      with_reducible rfl
    · simp only [Act.put, List.setIfInBounds_toArray, List.set_cons_zero, List.set_cons_succ, i64_w, i32_w]
      rfl
    refine ev_pure 7 (v := ?_) (a' := ?_) rfl rfl ?_ ?_ ?_
    rotate_left 2
    · intro w'
      go_simp
      with_reducible rfl
    · simp only [Act.put, List.setIfInBounds_toArray, List.set_cons_zero, List.set_cons_succ, i64_w, i32_w]
      rfl
    refine ev_pure 8 (v := ?_) (a' := ?_) rfl rfl ?_ ?_ ?_
    rotate_left 2
    · intro w'
      go_simp
      with_reducible rfl
    · simp only [Act.put, List.setIfInBounds_toArray, List.set_cons_zero, List.set_cons_succ, i64_w, i32_w]
      rfl
    refine wpList_nil ?_
    refine hK2 _ _ ?_
    clear hK2
    try clear K2
    refine wp_seq_k (fun K3 hK3 => ?_)
    refine wp_region_lit ?_
    refine ev_load M 0 rfl (N := 26) rfl rfl 23 (.tmp 3) rfl 0 rfl [_, _] (by kernel_rfl) (by kernel_rfl) rfl ?_
    refine ev_norm (a' := ?_) ?_ ?_
    rotate_left
    · simp only [Act.put, List.setIfInBounds_toArray, List.set_cons_zero, List.set_cons_succ, i64_w, i32_w]
      rfl
    refine ev_pure 27 (v := ?_) (a' := ?_) rfl rfl ?_ ?_ ?_
    rotate_left 2
    · intro w'
      go_simp
      with_reducible rfl
    · simp only [Act.put, List.setIfInBounds_toArray, List.set_cons_zero, List.set_cons_succ, i64_w, i32_w]
      rfl
    refine ev_call (some 28) rfl rfl Try.func18 (by kernel_rfl) rfl #[.agg #[.int .i64 _, .int .i64 _], .int .i64 _] rfl (by (try simp only [List.map_toArray, List.map_cons, List.map_nil]); first | done | rfl) (by first | (with_reducible exact cut_is hp hs x_ r_ _) | (with_reducible exact cut_is hq hr y_ z_ _) | (with_reducible exact cut_is hq hs l_ w_ _) | (with_reducible exact cut_is hp hl u_ v_ _) | (with_reducible exact cut_is hp hx a_ n_ _)) rfl M ?_
    intro w2 M1
    clear M
    have M := M1
    clear M1
    refine ev_norm (a' := ?_) ?_ ?_
    rotate_left
    · simp only [Act.put, List.setIfInBounds_toArray, List.set_cons_zero, List.set_cons_succ, i64_w, i32_w]
      rfl
    refine ev_pure 25 (v := ?_) (a' := ?_) rfl rfl ?_ ?_ ?_
    rotate_left 2
    · intro w'
      go_simp
      with_reducible rfl
    · simp only [Act.put, List.setIfInBounds_toArray, List.set_cons_zero, List.set_cons_succ, i64_w, i32_w]
      rfl
    refine ev_pure 29 (v := ?_) (a' := ?_) rfl rfl ?_ ?_ ?_
    rotate_left 2
    · intro w'
      go_simp
      with_reducible rfl
    · simp only [Act.put, List.setIfInBounds_toArray, List.set_cons_zero, List.set_cons_succ, i64_w, i32_w]
      rfl
    refine ev_pure 30 (v := ?_) (a' := ?_) rfl rfl ?_ ?_ ?_
    rotate_left 2
    · intro w'
      go_simp
      with_reducible rfl
    · simp only [Act.put, List.setIfInBounds_toArray, List.set_cons_zero, List.set_cons_succ, i64_w, i32_w]
      rfl
    refine ev_alloc M (N := 9) rfl rfl 23 rfl (.agg #[.int .i64 0, .int .i64 0]) (by kernel_rfl) [.int .i64 0, .int .i64 0] rfl ?_
    intro g1 w3 M1
    clear M
    have M := M1
    clear M1
    refine ev_norm (a' := ?_) ?_ ?_
    rotate_left
    · simp only [Act.put, List.setIfInBounds_toArray, List.set_cons_zero, List.set_cons_succ, i64_w, i32_w]
      rfl
    refine ev_alloc M (N := 10) rfl rfl 23 rfl (.agg #[.int .i64 0, .int .i64 0]) (by kernel_rfl) [.int .i64 0, .int .i64 0] rfl ?_
    intro g2 w4 M1
    clear M
    have M := M1
    clear M1
    refine ev_norm (a' := ?_) ?_ ?_
    rotate_left
    · simp only [Act.put, List.setIfInBounds_toArray, List.set_cons_zero, List.set_cons_succ, i64_w, i32_w]
      rfl
    refine ev_store M 1 rfl rfl rfl 23 (.tmp 9) _ rfl 0 rfl [_, _] rfl (by kernel_rfl) rfl (Nat.le_of_ble_eq_true rfl) [_, _] rfl [_, _, _] rfl ?_
    intro w5 M1
    clear M
    have M := M1
    clear M1
    refine ev_store M 0 rfl rfl rfl 23 (.tmp 10) _ rfl 0 rfl [_, _] rfl (by kernel_rfl) rfl (Nat.le_of_ble_eq_true rfl) [_, _] rfl [_, _, _] rfl ?_
    intro w6 M1
    clear M
    have M := M1
    clear M1
    refine wpList_nil ?_
    refine hK3 _ _ ?_
    clear hK3
    try clear K3
    refine wp_seq_k (fun K4 hK4 => ?_)
    refine wp_region_lit ?_
    refine ev_load M 0 rfl (N := 32) rfl rfl 23 (.tmp 10) rfl 0 rfl [_, _] (by kernel_rfl) (by kernel_rfl) rfl ?_
    refine ev_norm (a' := ?_) ?_ ?_
    rotate_left
    · simp only [Act.put, List.setIfInBounds_toArray, List.set_cons_zero, List.set_cons_succ, i64_w, i32_w]
      rfl
    refine ev_pure 33 (v := ?_) (a' := ?_) rfl rfl ?_ ?_ ?_
    rotate_left 2
    · intro w'
      go_simp
      with_reducible rfl
    · simp only [Act.put, List.setIfInBounds_toArray, List.set_cons_zero, List.set_cons_succ, i64_w, i32_w]
      rfl
    refine ev_call (some 34) rfl rfl Try.func18 (by kernel_rfl) rfl #[.agg #[.int .i64 _, .int .i64 _], .int .i64 _] rfl (by (try simp only [List.map_toArray, List.map_cons, List.map_nil]); first | done | rfl) (by first | (with_reducible exact cut_is hp hs x_ r_ _) | (with_reducible exact cut_is hq hr y_ z_ _) | (with_reducible exact cut_is hq hs l_ w_ _) | (with_reducible exact cut_is hp hl u_ v_ _) | (with_reducible exact cut_is hp hx a_ n_ _)) rfl M ?_
    intro w7 M1
    clear M
    have M := M1
    clear M1
    refine ev_norm (a' := ?_) ?_ ?_
    rotate_left
    · simp only [Act.put, List.setIfInBounds_toArray, List.set_cons_zero, List.set_cons_succ, i64_w, i32_w]
      rfl
    refine ev_pure 31 (v := ?_) (a' := ?_) rfl rfl ?_ ?_ ?_
    rotate_left 2
    · intro w'
      go_simp
      with_reducible rfl
    · simp only [Act.put, List.setIfInBounds_toArray, List.set_cons_zero, List.set_cons_succ, i64_w, i32_w]
      rfl
    refine ev_pure 35 (v := ?_) (a' := ?_) rfl rfl ?_ ?_ ?_
    rotate_left 2
    · intro w'
      go_simp
      with_reducible rfl
    · simp only [Act.put, List.setIfInBounds_toArray, List.set_cons_zero, List.set_cons_succ, i64_w, i32_w]
      rfl
    refine ev_pure 36 (v := ?_) (a' := ?_) rfl rfl ?_ ?_ ?_
    rotate_left 2
    · intro w'
      go_simp
      with_reducible rfl
    · simp only [Act.put, List.setIfInBounds_toArray, List.set_cons_zero, List.set_cons_succ, i64_w, i32_w]
      rfl
    refine ev_alloc M (N := 11) rfl rfl 23 rfl (.agg #[.int .i64 0, .int .i64 0]) (by kernel_rfl) [.int .i64 0, .int .i64 0] rfl ?_
    intro g3 w8 M1
    clear M
    have M := M1
    clear M1
    refine ev_norm (a' := ?_) ?_ ?_
    rotate_left
    · simp only [Act.put, List.setIfInBounds_toArray, List.set_cons_zero, List.set_cons_succ, i64_w, i32_w]
      rfl
    refine ev_alloc M (N := 12) rfl rfl 23 rfl (.agg #[.int .i64 0, .int .i64 0]) (by kernel_rfl) [.int .i64 0, .int .i64 0] rfl ?_
    intro g4 w9 M1
    clear M
    have M := M1
    clear M1
    refine ev_norm (a' := ?_) ?_ ?_
    rotate_left
    · simp only [Act.put, List.setIfInBounds_toArray, List.set_cons_zero, List.set_cons_succ, i64_w, i32_w]
      rfl
    refine ev_store M 1 rfl rfl rfl 23 (.tmp 11) _ rfl 0 rfl [_, _] rfl (by kernel_rfl) rfl (Nat.le_of_ble_eq_true rfl) [_, _] rfl [_, _, _, _, _] rfl ?_
    intro w10 M1
    clear M
    have M := M1
    clear M1
    refine ev_store M 0 rfl rfl rfl 23 (.tmp 12) _ rfl 0 rfl [_, _] rfl (by kernel_rfl) rfl (Nat.le_of_ble_eq_true rfl) [_, _] rfl [_, _, _, _, _] rfl ?_
    intro w11 M1
    clear M
    have M := M1
    clear M1
    refine wpList_nil ?_
    refine hK4 _ _ ?_
    clear hK4
    try clear K4
    refine wp_seq_k (fun K5 hK5 => ?_)
    refine wp_region_lit ?_
    refine ev_load M 4 rfl (N := 38) rfl rfl 23 (.tmp 3) rfl 0 rfl [_, _] (by kernel_rfl) (by kernel_rfl) rfl ?_
    refine ev_norm (a' := ?_) ?_ ?_
    rotate_left
    · simp only [Act.put, List.setIfInBounds_toArray, List.set_cons_zero, List.set_cons_succ, i64_w, i32_w]
      rfl
    refine ev_pure 39 (v := ?_) (a' := ?_) rfl rfl ?_ ?_ ?_
    rotate_left 2
    · intro w'
      go_simp
      with_reducible rfl
    · simp only [Act.put, List.setIfInBounds_toArray, List.set_cons_zero, List.set_cons_succ, i64_w, i32_w]
      rfl
    refine ev_call (some 40) rfl rfl Try.func18 (by kernel_rfl) rfl #[.agg #[.int .i64 _, .int .i64 _], .int .i64 _] rfl (by (try simp only [List.map_toArray, List.map_cons, List.map_nil]); first | done | rfl) (by first | (with_reducible exact cut_is hp hs x_ r_ _) | (with_reducible exact cut_is hq hr y_ z_ _) | (with_reducible exact cut_is hq hs l_ w_ _) | (with_reducible exact cut_is hp hl u_ v_ _) | (with_reducible exact cut_is hp hx a_ n_ _)) rfl M ?_
    intro w12 M1
    clear M
    have M := M1
    clear M1
    refine ev_norm (a' := ?_) ?_ ?_
    rotate_left
    · simp only [Act.put, List.setIfInBounds_toArray, List.set_cons_zero, List.set_cons_succ, i64_w, i32_w]
      rfl
    refine ev_pure 37 (v := ?_) (a' := ?_) rfl rfl ?_ ?_ ?_
    rotate_left 2
    · intro w'
      go_simp
      with_reducible rfl
    · simp only [Act.put, List.setIfInBounds_toArray, List.set_cons_zero, List.set_cons_succ, i64_w, i32_w]
      rfl
    refine ev_pure 41 (v := ?_) (a' := ?_) rfl rfl ?_ ?_ ?_
    rotate_left 2
    · intro w'
      go_simp
      with_reducible rfl
    · simp only [Act.put, List.setIfInBounds_toArray, List.set_cons_zero, List.set_cons_succ, i64_w, i32_w]
      rfl
    refine ev_pure 42 (v := ?_) (a' := ?_) rfl rfl ?_ ?_ ?_
    rotate_left 2
    · intro w'
      go_simp
      with_reducible rfl
    · simp only [Act.put, List.setIfInBounds_toArray, List.set_cons_zero, List.set_cons_succ, i64_w, i32_w]
      rfl
    refine ev_alloc M (N := 13) rfl rfl 23 rfl (.agg #[.int .i64 0, .int .i64 0]) (by kernel_rfl) [.int .i64 0, .int .i64 0] rfl ?_
    intro g5 w13 M1
    clear M
    have M := M1
    clear M1
    refine ev_norm (a' := ?_) ?_ ?_
    rotate_left
    · simp only [Act.put, List.setIfInBounds_toArray, List.set_cons_zero, List.set_cons_succ, i64_w, i32_w]
      rfl
    refine ev_alloc M (N := 14) rfl rfl 23 rfl (.agg #[.int .i64 0, .int .i64 0]) (by kernel_rfl) [.int .i64 0, .int .i64 0] rfl ?_
    intro g6 w14 M1
    clear M
    have M := M1
    clear M1
    refine ev_norm (a' := ?_) ?_ ?_
    rotate_left
    · simp only [Act.put, List.setIfInBounds_toArray, List.set_cons_zero, List.set_cons_succ, i64_w, i32_w]
      rfl
    refine ev_store M 1 rfl rfl rfl 23 (.tmp 13) _ rfl 0 rfl [_, _] rfl (by kernel_rfl) rfl (Nat.le_of_ble_eq_true rfl) [_, _] rfl [_, _, _, _, _, _, _] rfl ?_
    intro w15 M1
    clear M
    have M := M1
    clear M1
    refine ev_store M 0 rfl rfl rfl 23 (.tmp 14) _ rfl 0 rfl [_, _] rfl (by kernel_rfl) rfl (Nat.le_of_ble_eq_true rfl) [_, _] rfl [_, _, _, _, _, _, _] rfl ?_
    intro w16 M1
    clear M
    have M := M1
    clear M1
    refine wpList_nil ?_
    refine hK5 _ _ ?_
    clear hK5
    try clear K5
    refine wp_seq_k (fun K6 hK6 => ?_)
    refine wp_region_lit ?_
    refine ev_load M 1 rfl (N := 44) rfl rfl 23 (.tmp 13) rfl 0 rfl [_, _] (by kernel_rfl) (by kernel_rfl) rfl ?_
    refine ev_norm (a' := ?_) ?_ ?_
    rotate_left
    · simp only [Act.put, List.setIfInBounds_toArray, List.set_cons_zero, List.set_cons_succ, i64_w, i32_w]
      rfl
    refine ev_pure 45 (v := ?_) (a' := ?_) rfl rfl ?_ ?_ ?_
    rotate_left 2
    · intro w'
      go_simp
      with_reducible rfl
    · simp only [Act.put, List.setIfInBounds_toArray, List.set_cons_zero, List.set_cons_succ, i64_w, i32_w]
      rfl
    refine ev_call (some 46) rfl rfl Try.func18 (by kernel_rfl) rfl #[.agg #[.int .i64 _, .int .i64 _], .int .i64 _] rfl (by (try simp only [List.map_toArray, List.map_cons, List.map_nil]); first | done | rfl) (by first | (with_reducible exact cut_is hp hs x_ r_ _) | (with_reducible exact cut_is hq hr y_ z_ _) | (with_reducible exact cut_is hq hs l_ w_ _) | (with_reducible exact cut_is hp hl u_ v_ _) | (with_reducible exact cut_is hp hx a_ n_ _)) rfl M ?_
    intro w17 M1
    clear M
    have M := M1
    clear M1
    refine ev_norm (a' := ?_) ?_ ?_
    rotate_left
    · simp only [Act.put, List.setIfInBounds_toArray, List.set_cons_zero, List.set_cons_succ, i64_w, i32_w]
      rfl
    refine ev_pure 43 (v := ?_) (a' := ?_) rfl rfl ?_ ?_ ?_
    rotate_left 2
    · intro w'
      go_simp
      with_reducible rfl
    · simp only [Act.put, List.setIfInBounds_toArray, List.set_cons_zero, List.set_cons_succ, i64_w, i32_w]
      rfl
    refine ev_pure 47 (v := ?_) (a' := ?_) rfl rfl ?_ ?_ ?_
    rotate_left 2
    · intro w'
      go_simp
      with_reducible rfl
    · simp only [Act.put, List.setIfInBounds_toArray, List.set_cons_zero, List.set_cons_succ, i64_w, i32_w]
      rfl
    refine ev_pure 48 (v := ?_) (a' := ?_) rfl rfl ?_ ?_ ?_
    rotate_left 2
    · intro w'
      go_simp
      with_reducible rfl
    · simp only [Act.put, List.setIfInBounds_toArray, List.set_cons_zero, List.set_cons_succ, i64_w, i32_w]
      rfl
    refine ev_alloc M (N := 15) rfl rfl 23 rfl (.agg #[.int .i64 0, .int .i64 0]) (by kernel_rfl) [.int .i64 0, .int .i64 0] rfl ?_
    intro g7 w18 M1
    clear M
    have M := M1
    clear M1
    refine ev_norm (a' := ?_) ?_ ?_
    rotate_left
    · simp only [Act.put, List.setIfInBounds_toArray, List.set_cons_zero, List.set_cons_succ, i64_w, i32_w]
      rfl
    refine ev_alloc M (N := 16) rfl rfl 23 rfl (.agg #[.int .i64 0, .int .i64 0]) (by kernel_rfl) [.int .i64 0, .int .i64 0] rfl ?_
    intro g8 w19 M1
    clear M
    have M := M1
    clear M1
    refine ev_norm (a' := ?_) ?_ ?_
    rotate_left
    · simp only [Act.put, List.setIfInBounds_toArray, List.set_cons_zero, List.set_cons_succ, i64_w, i32_w]
      rfl
    refine ev_store M 1 rfl rfl rfl 23 (.tmp 15) _ rfl 0 rfl [_, _] rfl (by kernel_rfl) rfl (Nat.le_of_ble_eq_true rfl) [_, _] rfl [_, _, _, _, _, _, _, _, _] rfl ?_
    intro w20 M1
    clear M
    have M := M1
    clear M1
    refine ev_store M 0 rfl rfl rfl 23 (.tmp 16) _ rfl 0 rfl [_, _] rfl (by kernel_rfl) rfl (Nat.le_of_ble_eq_true rfl) [_, _] rfl [_, _, _, _, _, _, _, _, _] rfl ?_
    intro w21 M1
    clear M
    have M := M1
    clear M1
    refine wpList_nil ?_
    refine hK6 _ _ ?_
    clear hK6
    try clear K6
    refine wp_seq_k (fun K7 hK7 => ?_)
    refine wp_region_lit ?_
    refine ev_load M 7 rfl (N := 50) rfl rfl 23 (.tmp 9) rfl 0 rfl [_, _] (by kernel_rfl) (by kernel_rfl) rfl ?_
    refine ev_norm (a' := ?_) ?_ ?_
    rotate_left
    · simp only [Act.put, List.setIfInBounds_toArray, List.set_cons_zero, List.set_cons_succ, i64_w, i32_w]
      rfl
    refine ev_pure 51 (v := ?_) (a' := ?_) rfl rfl ?_ ?_ ?_
    rotate_left 2
    · intro w'
      go_simp
      with_reducible rfl
    · simp only [Act.put, List.setIfInBounds_toArray, List.set_cons_zero, List.set_cons_succ, i64_w, i32_w]
      rfl
    refine ev_call (some 52) rfl rfl Try.func18 (by kernel_rfl) rfl #[.agg #[.int .i64 _, .int .i64 _], .int .i64 _] rfl (by (try simp only [List.map_toArray, List.map_cons, List.map_nil]); first | done | rfl) (by first | (with_reducible exact cut_is hp hs x_ r_ _) | (with_reducible exact cut_is hq hr y_ z_ _) | (with_reducible exact cut_is hq hs l_ w_ _) | (with_reducible exact cut_is hp hl u_ v_ _) | (with_reducible exact cut_is hp hx a_ n_ _)) rfl M ?_
    intro w22 M1
    clear M
    have M := M1
    clear M1
    refine ev_norm (a' := ?_) ?_ ?_
    rotate_left
    · simp only [Act.put, List.setIfInBounds_toArray, List.set_cons_zero, List.set_cons_succ, i64_w, i32_w]
      rfl
    refine ev_pure 49 (v := ?_) (a' := ?_) rfl rfl ?_ ?_ ?_
    rotate_left 2
    · intro w'
      go_simp
      with_reducible rfl
    · simp only [Act.put, List.setIfInBounds_toArray, List.set_cons_zero, List.set_cons_succ, i64_w, i32_w]
      rfl
    refine ev_pure 53 (v := ?_) (a' := ?_) rfl rfl ?_ ?_ ?_
    rotate_left 2
    · intro w'
      go_simp
      with_reducible rfl
    · simp only [Act.put, List.setIfInBounds_toArray, List.set_cons_zero, List.set_cons_succ, i64_w, i32_w]
      rfl
    refine ev_pure 54 (v := ?_) (a' := ?_) rfl rfl ?_ ?_ ?_
    rotate_left 2
    · intro w'
      go_simp
      with_reducible rfl
    · simp only [Act.put, List.setIfInBounds_toArray, List.set_cons_zero, List.set_cons_succ, i64_w, i32_w]
      rfl
    refine ev_alloc M (N := 17) rfl rfl 23 rfl (.agg #[.int .i64 0, .int .i64 0]) (by kernel_rfl) [.int .i64 0, .int .i64 0] rfl ?_
    intro g9 w23 M1
    clear M
    have M := M1
    clear M1
    refine ev_norm (a' := ?_) ?_ ?_
    rotate_left
    · simp only [Act.put, List.setIfInBounds_toArray, List.set_cons_zero, List.set_cons_succ, i64_w, i32_w]
      rfl
    refine ev_alloc M (N := 18) rfl rfl 23 rfl (.agg #[.int .i64 0, .int .i64 0]) (by kernel_rfl) [.int .i64 0, .int .i64 0] rfl ?_
    intro g10 w24 M1
    clear M
    have M := M1
    clear M1
    refine ev_norm (a' := ?_) ?_ ?_
    rotate_left
    · simp only [Act.put, List.setIfInBounds_toArray, List.set_cons_zero, List.set_cons_succ, i64_w, i32_w]
      rfl
    refine ev_store M 1 rfl rfl rfl 23 (.tmp 17) _ rfl 0 rfl [_, _] rfl (by kernel_rfl) rfl (Nat.le_of_ble_eq_true rfl) [_, _] rfl [_, _, _, _, _, _, _, _, _, _, _] rfl ?_
    intro w25 M1
    clear M
    have M := M1
    clear M1
    refine ev_store M 0 rfl rfl rfl 23 (.tmp 18) _ rfl 0 rfl [_, _] rfl (by kernel_rfl) rfl (Nat.le_of_ble_eq_true rfl) [_, _] rfl [_, _, _, _, _, _, _, _, _, _, _] rfl ?_
    intro w26 M1
    clear M
    have M := M1
    clear M1
    refine wpList_nil ?_
    refine hK7 _ _ ?_
    clear hK7
    try clear K7
    refine wp_seq_k (fun K8 hK8 => ?_)
    refine wp_region_lit ?_
    refine ev_load M 9 rfl (N := 55) rfl rfl 23 (.tmp 9) rfl 0 rfl [_, _] (by kernel_rfl) (by kernel_rfl) rfl ?_
    refine ev_norm (a' := ?_) ?_ ?_
    rotate_left
    · simp only [Act.put, List.setIfInBounds_toArray, List.set_cons_zero, List.set_cons_succ, i64_w, i32_w]
      rfl
    refine ev_load M 3 rfl (N := 56) rfl rfl 23 (.tmp 15) rfl 0 rfl [_, _] (by kernel_rfl) (by kernel_rfl) rfl ?_
    refine ev_norm (a' := ?_) ?_ ?_
    rotate_left
    · simp only [Act.put, List.setIfInBounds_toArray, List.set_cons_zero, List.set_cons_succ, i64_w, i32_w]
      rfl
    refine ev_pure 57 (v := ?_) (a' := ?_) rfl rfl ?_ ?_ ?_
    rotate_left 2
    · intro w'
      go_simp
      with_reducible rfl
    · simp only [Act.put, List.setIfInBounds_toArray, List.set_cons_zero, List.set_cons_succ, i64_w, i32_w]
      rfl
    refine ev_pure 58 (v := ?_) (a' := ?_) rfl rfl ?_ ?_ ?_
    rotate_left 2
    · intro w'
      go_simp
      with_reducible rfl
    · simp only [Act.put, List.setIfInBounds_toArray, List.set_cons_zero, List.set_cons_succ, i64_w, i32_w]
      rfl
    refine ev_load M 7 rfl (N := 59) rfl rfl 23 (.tmp 11) rfl 0 rfl [_, _] (by kernel_rfl) (by kernel_rfl) rfl ?_
    refine ev_norm (a' := ?_) ?_ ?_
    rotate_left
    · simp only [Act.put, List.setIfInBounds_toArray, List.set_cons_zero, List.set_cons_succ, i64_w, i32_w]
      rfl
    refine ev_load M 2 rfl (N := 60) rfl rfl 23 (.tmp 16) rfl 0 rfl [_, _] (by kernel_rfl) (by kernel_rfl) rfl ?_
    refine ev_norm (a' := ?_) ?_ ?_
    rotate_left
    · simp only [Act.put, List.setIfInBounds_toArray, List.set_cons_zero, List.set_cons_succ, i64_w, i32_w]
      rfl
    refine ev_pure 61 (v := ?_) (a' := ?_) rfl rfl ?_ ?_ ?_
    rotate_left 2
    · intro w'
      go_simp
      with_reducible rfl
    · simp only [Act.put, List.setIfInBounds_toArray, List.set_cons_zero, List.set_cons_succ, i64_w, i32_w]
      rfl
    refine ev_pure 62 (v := ?_) (a' := ?_) rfl rfl ?_ ?_ ?_
    rotate_left 2
    · intro w'
      go_simp
      with_reducible rfl
    · simp only [Act.put, List.setIfInBounds_toArray, List.set_cons_zero, List.set_cons_succ, i64_w, i32_w]
      rfl
    refine ev_pure 63 (v := ?_) (a' := ?_) rfl rfl ?_ ?_ ?_
    rotate_left 2
    · intro w'
      go_simp
      with_reducible rfl
    · simp only [Act.put, List.setIfInBounds_toArray, List.set_cons_zero, List.set_cons_succ, i64_w, i32_w]
      rfl
    refine ev_load M 6 rfl (N := 64) rfl rfl 23 (.tmp 12) rfl 0 rfl [_, _] (by kernel_rfl) (by kernel_rfl) rfl ?_
    refine ev_norm (a' := ?_) ?_ ?_
    rotate_left
    · simp only [Act.put, List.setIfInBounds_toArray, List.set_cons_zero, List.set_cons_succ, i64_w, i32_w]
      rfl
    refine ev_load M 4 rfl (N := 65) rfl rfl 23 (.tmp 14) rfl 0 rfl [_, _] (by kernel_rfl) (by kernel_rfl) rfl ?_
    refine ev_norm (a' := ?_) ?_ ?_
    rotate_left
    · simp only [Act.put, List.setIfInBounds_toArray, List.set_cons_zero, List.set_cons_succ, i64_w, i32_w]
      rfl
    refine ev_pure 66 (v := ?_) (a' := ?_) rfl rfl ?_ ?_ ?_
    rotate_left 2
    · intro w'
      go_simp
      with_reducible rfl
    · simp only [Act.put, List.setIfInBounds_toArray, List.set_cons_zero, List.set_cons_succ, i64_w, i32_w]
      rfl
    refine ev_pure 67 (v := ?_) (a' := ?_) rfl rfl ?_ ?_ ?_
    rotate_left 2
    · intro w'
      go_simp
      with_reducible rfl
    · simp only [Act.put, List.setIfInBounds_toArray, List.set_cons_zero, List.set_cons_succ, i64_w, i32_w]
      rfl
    refine ev_pure 68 (v := ?_) (a' := ?_) rfl rfl ?_ ?_ ?_
    rotate_left 2
    · intro w'
      go_simp
      with_reducible rfl
    · simp only [Act.put, List.setIfInBounds_toArray, List.set_cons_zero, List.set_cons_succ, i64_w, i32_w]
      rfl
    refine ev_load M 9 rfl (N := 69) rfl rfl 23 (.tmp 9) rfl 0 rfl [_, _] (by kernel_rfl) (by kernel_rfl) rfl ?_
    refine ev_norm (a' := ?_) ?_ ?_
    rotate_left
    · simp only [Act.put, List.setIfInBounds_toArray, List.set_cons_zero, List.set_cons_succ, i64_w, i32_w]
      rfl
    refine ev_call (some 70) rfl rfl Try.func23 (by kernel_rfl) rfl #[.agg #[.int .i64 _, .int .i64 _]] rfl (by (try simp only [List.map_toArray, List.map_cons, List.map_nil]); first | done | rfl) (by first | (with_reducible exact empty_is E1 _) | (with_reducible exact empty_is E2 _)) rfl M ?_
    intro w27 M1
    clear M
    have M := M1
    clear M1
    refine ev_norm (a' := ?_) ?_ ?_
    rotate_left
    · simp only [Act.put, List.setIfInBounds_toArray, List.set_cons_zero, List.set_cons_succ, i64_w, i32_w]
      rfl
    refine ev_pure 71 (v := ?_) (a' := ?_) rfl rfl ?_ ?_ ?_
    rotate_left 2
    · intro w'
      go_simp
      with_reducible rfl
    · simp only [Act.put, List.setIfInBounds_toArray, List.set_cons_zero, List.set_cons_succ, i64_w, i32_w]
      rfl
    refine ev_off (some 72) (a' := ?_) rfl rfl ?_ ?_
    rotate_left
    · simp only [Act.put, List.setIfInBounds_toArray, List.set_cons_zero, List.set_cons_succ, i64_w, i32_w]
      rfl
    refine ev_off (some 73) (a' := ?_) rfl rfl ?_ ?_
    rotate_left
    · simp only [Act.put, List.setIfInBounds_toArray, List.set_cons_zero, List.set_cons_succ, i64_w, i32_w]
      rfl
    refine ev_off (some 74) (a' := ?_) rfl rfl ?_ ?_
    rotate_left
    · simp only [Act.put, List.setIfInBounds_toArray, List.set_cons_zero, List.set_cons_succ, i64_w, i32_w]
      rfl
    refine ev_pure 75 (v := ?_) (a' := ?_) rfl rfl ?_ ?_ ?_
    rotate_left 2
    · intro w'
      go_simp
      with_reducible rfl
    · simp only [Act.put, List.setIfInBounds_toArray, List.set_cons_zero, List.set_cons_succ, i64_w, i32_w]
      rfl
    refine ev_pure 76 (v := ?_) (a' := ?_) rfl rfl ?_ ?_ ?_
    rotate_left 2
    · intro w'
      go_simp
      with_reducible rfl
    · simp only [Act.put, List.setIfInBounds_toArray, List.set_cons_zero, List.set_cons_succ, i64_w, i32_w]
      rfl
    refine ev_pure 77 (v := ?_) (a' := ?_) rfl rfl ?_ ?_ ?_
    rotate_left 2
    · intro w'
      go_simp
      with_reducible rfl
    · simp only [Act.put, List.setIfInBounds_toArray, List.set_cons_zero, List.set_cons_succ, i64_w, i32_w]
      rfl
    refine ev_load M 0 rfl (N := 78) rfl rfl 23 (.tmp 18) rfl 0 rfl [_, _] (by kernel_rfl) (by kernel_rfl) rfl ?_
    refine ev_norm (a' := ?_) ?_ ?_
    rotate_left
    · simp only [Act.put, List.setIfInBounds_toArray, List.set_cons_zero, List.set_cons_succ, i64_w, i32_w]
      rfl
    refine ev_call (some 79) rfl rfl Try.func23 (by kernel_rfl) rfl #[.agg #[.int .i64 _, .int .i64 _]] rfl (by (try simp only [List.map_toArray, List.map_cons, List.map_nil]); first | done | rfl) (by first | (with_reducible exact empty_is E1 _) | (with_reducible exact empty_is E2 _)) rfl M ?_
    intro w28 M1
    clear M
    have M := M1
    clear M1
    refine ev_norm (a' := ?_) ?_ ?_
    rotate_left
    · simp only [Act.put, List.setIfInBounds_toArray, List.set_cons_zero, List.set_cons_succ, i64_w, i32_w]
      rfl
    refine ev_pure 80 (v := ?_) (a' := ?_) rfl rfl ?_ ?_ ?_
    rotate_left 2
    · intro w'
      go_simp
      with_reducible rfl
    · simp only [Act.put, List.setIfInBounds_toArray, List.set_cons_zero, List.set_cons_succ, i64_w, i32_w]
      rfl
    refine ev_pure 81 (v := ?_) (a' := ?_) rfl rfl ?_ ?_ ?_
    rotate_left 2
    · intro w'
      go_simp
      with_reducible rfl
    · simp only [Act.put, List.setIfInBounds_toArray, List.set_cons_zero, List.set_cons_succ, i64_w, i32_w]
      rfl
    refine ev_load M 7 rfl (N := 82) rfl rfl 23 (.tmp 11) rfl 0 rfl [_, _] (by kernel_rfl) (by kernel_rfl) rfl ?_
    refine ev_norm (a' := ?_) ?_ ?_
    rotate_left
    · simp only [Act.put, List.setIfInBounds_toArray, List.set_cons_zero, List.set_cons_succ, i64_w, i32_w]
      rfl
    refine ev_load M 10 rfl (N := 83) rfl rfl 23 (.tmp 3) rfl 0 rfl [_, _] (by kernel_rfl) (by kernel_rfl) rfl ?_
    refine ev_norm (a' := ?_) ?_ ?_
    rotate_left
    · simp only [Act.put, List.setIfInBounds_toArray, List.set_cons_zero, List.set_cons_succ, i64_w, i32_w]
      rfl
    refine ev_call (some 84) rfl rfl Try.func24 (by kernel_rfl) rfl #[.agg #[.int .i64 _, .int .i64 _], .agg #[.int .i64 _, .int .i64 _]] rfl (by (try simp only [List.map_toArray, List.map_cons, List.map_nil]); first | done | rfl) (by first | (with_reducible exact within_is W _)) rfl M ?_
    intro w29 M1
    clear M
    have M := M1
    clear M1
    refine ev_norm (a' := ?_) ?_ ?_
    rotate_left
    · simp only [Act.put, List.setIfInBounds_toArray, List.set_cons_zero, List.set_cons_succ, i64_w, i32_w]
      rfl
    refine ev_pure 85 (v := ?_) (a' := ?_) rfl rfl ?_ ?_ ?_
    rotate_left 2
    · intro w'
      go_simp
      with_reducible rfl
    · simp only [Act.put, List.setIfInBounds_toArray, List.set_cons_zero, List.set_cons_succ, i64_w, i32_w]
      rfl
    refine ev_pure 86 (v := ?_) (a' := ?_) rfl rfl ?_ ?_ ?_
    rotate_left 2
    · intro w'
      go_simp
      with_reducible rfl
    · simp only [Act.put, List.setIfInBounds_toArray, List.set_cons_zero, List.set_cons_succ, i64_w, i32_w]
      rfl
    refine ev_call (some 87) rfl rfl Try.func5 (by kernel_rfl) rfl #[] rfl (by (try simp only [List.map_toArray, List.map_cons, List.map_nil]); first | done | rfl) (by first | (with_reducible exact runs_is _)) rfl M ?_
    intro w30 M1
    clear M
    have M := M1
    clear M1
    refine ev_norm (a' := ?_) ?_ ?_
    rotate_left
    · simp only [Act.put, List.setIfInBounds_toArray, List.set_cons_zero, List.set_cons_succ, i64_w, i32_w]
      rfl
    refine ev_pure 88 (v := ?_) (a' := ?_) rfl rfl ?_ ?_ ?_
    rotate_left 2
    · intro w'
      go_simp
      with_reducible rfl
    · simp only [Act.put, List.setIfInBounds_toArray, List.set_cons_zero, List.set_cons_succ, i64_w, i32_w]
      rfl
    refine ev_pure 6 (v := ?_) (a' := ?_) rfl rfl ?_ ?_ ?_
    rotate_left 2
    · intro w'
      go_simp
      with_reducible rfl
    · simp only [Act.put, List.setIfInBounds_toArray, List.set_cons_zero, List.set_cons_succ, i64_w, i32_w]
      rfl
    refine wpList_nil ?_
    refine hK8 _ _ ?_
    clear hK8
    try clear K8
    refine wp_ret ?_
    (try simp only [Exit.inBlock, Exit.then])
    refine bodyPost_ret (res1 rfl (rv_tmp 6)) rfl ⟨?_, M.below⟩
    rfl
theorem hl_empty (s0 s1 p : Int) : (cutHi (cutLo (s0, s1) p) p).2 < (cutHi (cutLo (s0, s1) p) p).1 := by
  rcases cutLo_cases s0 s1 p with ⟨e, c⟩ | ⟨e, c⟩ | ⟨e, c⟩ <;> rw [e] <;> simp only [cutHi, ofS] <;> (repeat' split) <;> simp <;> omega
theorem lh_in (s0 s1 p q : Int) : (cutLo (cutHi (s0, s1) p) q).2 < (cutLo (cutHi (s0, s1) p) q).1 ∨ (s0 ≤ (cutLo (cutHi (s0, s1) p) q).1 ∧ (cutLo (cutHi (s0, s1) p) q).2 ≤ s1) := by
  rcases cutHi_cases s0 s1 p with ⟨e, c⟩ | ⟨e, c⟩ | ⟨e, c⟩ <;> rw [e] <;> simp only [cutLo, ofS] <;> (repeat' split) <;> simp <;> omega
theorem walk (w : World) (s0 s1 : Int) (_w0 : -9223372036854775808 ≤ s0 ∧ s0 ≤ 9223372036854775807) (ws : -9223372036854775808 ≤ s1 ∧ s1 ≤ 9223372036854775807) (a : Int) (w1 : (Lit.int .i64 a).wf = true) (b : Int) (w2 : (Lit.int .i64 b).wf = true) :
    Calls Try.prog 8 #[.agg #[.int .i64 s0, .int .i64 s1], .int .i64 a, .int .i64 b] w fun e w' => e = .returned (.bool true) ∧ Below w.heap.size w w' := by
  have ha : -9223372036854775808 ≤ a ∧ a ≤ 9223372036854775807 := by simpa [Lit.wf, IntKind.min, IntKind.max, IntKind.signed, IntKind.bits] using w1
  have hb : -9223372036854775808 ≤ b ∧ b ≤ 9223372036854775807 := by simpa [Lit.wf, IntKind.min, IntKind.max, IntKind.signed, IntKind.bits] using w2
  obtain ⟨p, hp⟩ : ∃ p, (if b < a then b else a) = p := ⟨_, rfl⟩
  obtain ⟨q, hq⟩ : ∃ q, (if a < b then b else a) = q := ⟨_, rfl⟩
  have hpq : p ≤ q ∧ (-9223372036854775808 ≤ p ∧ p ≤ 9223372036854775807) ∧ (-9223372036854775808 ≤ q ∧ q ≤ 9223372036854775807) := by
    subst hp; subst hq; split <;> split <;> omega
  have A := cut_ll (s0, s1) hpq.1
  have B := cut_hh (s0, s1) hpq.1
  have C := cut_lh (s0, s1) hpq.1
  have D := cut_ll (s0, s1) (Int.le_refl p)
  have E := hl_empty s0 s1 p
  have F := lh_in s0 s1 p q
  have G1 : (cutHi (s0, s1) p).2 ≤ 9223372036854775807 := cutHi_le ws.2 (by decide)
  have G2 : (cutLo (s0, s1) q).2 ≤ 9223372036854775807 := cutLo_le ws.2 (by decide)
  have G3 : (cutLo (s0, s1) p).2 ≤ 9223372036854775807 := cutLo_le ws.2 (by decide)
  rcases hx : cutLo (s0, s1) p with ⟨x0, x1⟩
  rcases hr : cutHi (s0, s1) p with ⟨r0, r1⟩
  rcases hl : cutLo (s0, s1) q with ⟨l0, l1⟩
  rcases hz : cutHi (s0, s1) q with ⟨z0, z1⟩
  rw [hx] at A D E G3
  rw [hl] at A C G2
  rw [hr] at B C F G1
  rw [hz] at B
  rcases hy : cutLo (r0, r1) q with ⟨y0, y1⟩
  rcases hn : cutHi (x0, x1) p with ⟨n0, n1⟩
  rw [hy] at C F
  rw [hn] at E
  exact main w s0 s1 a b p q x0 x1 y0 y1 z0 z1 n0 n1 _ hpq.2.1 hpq.2.2 ws.2 hp hq r0 r1 l0 l1 G1 G2 G3 hx hr hy B hl hz A C.symm D hn rfl (decide_eq_true E) (by
    simp only at F
    rcases F with F | F
    · simp [F]
    · simp [F.1, F.2])
end Go.Proofs.Ytdeedabhgfmgjaa.WkSpanTwice

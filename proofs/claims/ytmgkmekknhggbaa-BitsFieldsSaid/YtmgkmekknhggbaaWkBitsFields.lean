/-
  The walk of the law copselaw1.BitsFields. No condition but that the numbers are of 64 bits.
-/
import Derived.Test.YtmgkmekknhggbaaBitsB
import Derived.Test.YtmgkmekknhggbaaWithin
set_option linter.unusedVariables false
set_option linter.unusedSimpArgs false
namespace Go.Proofs.Ytmgkmekknhggbaa.WkBitsFields
open Go Go.RowKit Go.Proofs.Ytmgkmekknhggbaa.BitLib Go.Proofs.Ytmgkmekknhggbaa.BitsA Go.Proofs.Ytmgkmekknhggbaa.BitsB Go.Proofs.Ytmgkmekknhggbaa.Within

theorem get_put (x p k y : Nat) (h : p + k ≤ 64) (hx : x < 18446744073709551616) : getN (putN x p k y) p k = getN y 0 k := by
  apply Nat.eq_of_testBit_eq; intro i
  rw [getN_testBit, getN_testBit, putN_testBit _ _ _ _ _ h hx]
  by_cases hi : i < k
  · rw [if_pos (by omega)]; simp [hi]
  · simp [hi]
theorem put_back (x p k y : Nat) (h : p + k ≤ 64) (hx : x < 18446744073709551616) : putN (putN x p k y) p k (getN x p k) = x := by
  apply Nat.eq_of_testBit_eq; intro i
  rw [putN_testBit _ _ _ _ _ h (putN_lt x p k y h hx), getN_testBit, putN_testBit _ _ _ _ _ h hx]
  by_cases hi : p ≤ i ∧ i < p + k
  · rw [if_pos hi, show p + (i - p) = i by omega]
    have : i - p < k := by omega
    simp [this]
  · rw [if_neg hi, if_neg hi]
theorem get_other (x p k y q j : Nat) (h : p + k ≤ 64) (hx : x < 18446744073709551616) (hd : q + j ≤ p ∨ p + k ≤ q) : getN (putN x p k y) q j = getN x q j := by
  apply Nat.eq_of_testBit_eq; intro i
  rw [getN_testBit, getN_testBit, putN_testBit _ _ _ _ _ h hx]
  by_cases hi : i < j
  · rw [if_neg (by omega)]
  · simp [hi]
theorem get_all (x : Nat) (hx : x < 18446744073709551616) : getN x 0 64 = x := by
  unfold getN
  rw [Nat.pow_zero, Nat.div_one, two64, Nat.mod_eq_of_lt hx]
theorem get_zero (x k : Nat) (hx : x < 18446744073709551616) (k0 : 1 ≤ k) (h : k ≤ 64) (w : World) :
    Calls Try.prog 22 #[.int .u64 x, .int .i64 0, .int .i64 k] w fun e w' => e = .returned (.int .u64 (getN x 0 k : Nat)) ∧ w = w' := get_yes x 0 k hx k0 (by omega) w
theorem get_whole (x : Nat) (hx : x < 18446744073709551616) (w : World) :
    Calls Try.prog 22 #[.int .u64 x, .int .i64 0, .int .i64 64] w fun e w' => e = .returned (.int .u64 x) ∧ w = w' := by
  have h := get_yes x 0 64 hx (by decide) (by decide) w
  rw [get_all x hx] at h
  exact h
def R (w : World) (e : Ending) (w' : World) : Prop := e = .returned (.bool true) ∧ Below w.heap.size w w'
set_option maxHeartbeats 4000000 in
theorem core (w : World) (x y : Nat) (hx : x < 18446744073709551616) (hy : y < 18446744073709551616) (p k q j : Nat) (a s a2 s2 : Int)
    (ha : -9223372036854775808 ≤ a ∧ a ≤ 9223372036854775807) (hs : -9223372036854775808 ≤ s ∧ s ≤ 9223372036854775807) (ha2 : -9223372036854775808 ≤ a2 ∧ a2 ≤ 9223372036854775807) (hs2 : -9223372036854775808 ≤ s2 ∧ s2 ≤ 9223372036854775807)
    (HP : Hid (withinS a 0 63 = p)) (HK : Hid (withinS s 1 (64 - p) = k)) (HQ : Hid (withinS a2 0 63 = q)) (HJ : Hid (withinS s2 1 (64 - q) = j)) (p1 : p ≤ 63) (k0 : 1 ≤ k) (k1 : k ≤ 64 - p) (q1 : q ≤ 63) (j0 : 1 ≤ j) (j1 : j ≤ 64 - q) (hd : (q + j ≤ p ∨ p + k ≤ q) ∨ ¬ (q + j ≤ p ∨ p + k ≤ q)) :
    Calls Try.prog 6 #[.int .u64 x, .int .u64 y, .int .i64 a, .int .i64 s, .int .i64 a2, .int .i64 s2] w (R w) := by
  have HZ := Lib.hid (putN_lt x p k y (by omega) hx)
  have HZ1 := Lib.hid (get_put x p k y (by omega) hx)
  have HZ2 := Lib.hid (put_back x p k y (by omega) hx)
  have HZ3 := Lib.hid (fun h => get_other x p k y q j (by omega) hx h)
  have HALL := Lib.hid (get_all x hx)
  have HG := Lib.hid (getN_lt64 x p k hx)
  generalize hz : putN x p k y = z at *
  have HPUT := Lib.hid hz
  clear hz
  have HX := Lib.hid hx
  have HY := Lib.hid hy
  clear hx hy
  rcases hd with hd | hd
  · have e3 := HZ3.out hd
    clear HZ3
    rcases hd with hd | hd
    all_goals
      go_enter Try.func6, Try.ntmps6
      go_wp2_with (first | (go_at_call 17; ((with_reducible refine (within_calls a 0 63 (by omega) (by omega) (by omega) (by omega) (by omega) _).mono ?_); rintro e w' ⟨rfl, rfl⟩; rw [HP.out])) | (go_at_call 17; ((with_reducible refine (within_calls s 1 (64 - p) (by omega) (by omega) (by omega) (by omega) (by omega) _).mono ?_); rintro e w' ⟨rfl, rfl⟩; rw [HK.out])) | (go_at_call 17; ((with_reducible refine (within_calls a2 0 63 (by omega) (by omega) (by omega) (by omega) (by omega) _).mono ?_); rintro e w' ⟨rfl, rfl⟩; rw [HQ.out])) | (go_at_call 17; ((with_reducible refine (within_calls s2 1 (64 - q) (by omega) (by omega) (by omega) (by omega) (by omega) _).mono ?_); rintro e w' ⟨rfl, rfl⟩; rw [HJ.out])) | (go_at_call 18; ((with_reducible refine (put_yes x p k y HX.out HY.out k0 (by omega) _).mono ?_); rintro e w' ⟨rfl, rfl⟩; rw [HPUT.out])) | (go_at_call 22; ((with_reducible refine (get_yes z p k HZ.out k0 (by omega) _).mono ?_); rintro e w' ⟨rfl, rfl⟩; rw [HZ1.out])) | (go_at_call 22; ((with_reducible refine (get_zero y k HY.out k0 (by omega) _).mono ?_); rintro e w' ⟨rfl, rfl⟩)) | (go_at_call 22; ((with_reducible refine (get_yes x p k HX.out k0 (by omega) _).mono ?_); rintro e w' ⟨rfl, rfl⟩)) | (go_at_call 18; ((with_reducible refine (put_yes z p k (getN x p k) HZ.out HG.out k0 (by omega) _).mono ?_); rintro e w' ⟨rfl, rfl⟩; rw [HZ2.out])) | (go_at_call 22; ((with_reducible refine (get_yes z q j HZ.out j0 (by omega) _).mono ?_); rintro e w' ⟨rfl, rfl⟩)) | (go_at_call 22; ((with_reducible refine (get_yes x q j HX.out j0 (by omega) _).mono ?_); rintro e w' ⟨rfl, rfl⟩)) | (go_at_call 22; ((with_reducible refine (get_no x 64 1 (by omega) (by omega) (by omega) _).mono ?_); rintro e w' ⟨rfl, rfl⟩)) | (go_at_call 22; ((with_reducible refine (get_no x (-1) 1 (by omega) (by omega) (by omega) _).mono ?_); rintro e w' ⟨rfl, rfl⟩)) | (go_at_call 18; ((with_reducible refine (put_no x y p (65 - p) (by omega) (by omega) (by omega) _).mono ?_); rintro e w' ⟨rfl, rfl⟩)) | (go_at_call 22; ((with_reducible refine (get_whole x HX.out _).mono ?_); rintro e w' ⟨rfl, rfl⟩)) | (go_at_call 5; refine (runs_calls _).mono ?_; rintro e w' ⟨rfl, rfl⟩))
      go_ret
      exact ⟨rfl, Below.refl _ _⟩
  · have h1 : p < q + j := by omega
    have h2 : q < p + k := by omega
    clear hd HZ3
    go_enter Try.func6, Try.ntmps6
    go_wp2_with (first | (go_at_call 17; ((with_reducible refine (within_calls a 0 63 (by omega) (by omega) (by omega) (by omega) (by omega) _).mono ?_); rintro e w' ⟨rfl, rfl⟩; rw [HP.out])) | (go_at_call 17; ((with_reducible refine (within_calls s 1 (64 - p) (by omega) (by omega) (by omega) (by omega) (by omega) _).mono ?_); rintro e w' ⟨rfl, rfl⟩; rw [HK.out])) | (go_at_call 17; ((with_reducible refine (within_calls a2 0 63 (by omega) (by omega) (by omega) (by omega) (by omega) _).mono ?_); rintro e w' ⟨rfl, rfl⟩; rw [HQ.out])) | (go_at_call 17; ((with_reducible refine (within_calls s2 1 (64 - q) (by omega) (by omega) (by omega) (by omega) (by omega) _).mono ?_); rintro e w' ⟨rfl, rfl⟩; rw [HJ.out])) | (go_at_call 18; ((with_reducible refine (put_yes x p k y HX.out HY.out k0 (by omega) _).mono ?_); rintro e w' ⟨rfl, rfl⟩; rw [HPUT.out])) | (go_at_call 22; ((with_reducible refine (get_yes z p k HZ.out k0 (by omega) _).mono ?_); rintro e w' ⟨rfl, rfl⟩; rw [HZ1.out])) | (go_at_call 22; ((with_reducible refine (get_zero y k HY.out k0 (by omega) _).mono ?_); rintro e w' ⟨rfl, rfl⟩)) | (go_at_call 22; ((with_reducible refine (get_yes x p k HX.out k0 (by omega) _).mono ?_); rintro e w' ⟨rfl, rfl⟩)) | (go_at_call 18; ((with_reducible refine (put_yes z p k (getN x p k) HZ.out HG.out k0 (by omega) _).mono ?_); rintro e w' ⟨rfl, rfl⟩; rw [HZ2.out])) | (go_at_call 22; ((with_reducible refine (get_yes z q j HZ.out j0 (by omega) _).mono ?_); rintro e w' ⟨rfl, rfl⟩)) | (go_at_call 22; ((with_reducible refine (get_yes x q j HX.out j0 (by omega) _).mono ?_); rintro e w' ⟨rfl, rfl⟩)) | (go_at_call 22; ((with_reducible refine (get_no x 64 1 (by omega) (by omega) (by omega) _).mono ?_); rintro e w' ⟨rfl, rfl⟩)) | (go_at_call 22; ((with_reducible refine (get_no x (-1) 1 (by omega) (by omega) (by omega) _).mono ?_); rintro e w' ⟨rfl, rfl⟩)) | (go_at_call 18; ((with_reducible refine (put_no x y p (65 - p) (by omega) (by omega) (by omega) _).mono ?_); rintro e w' ⟨rfl, rfl⟩)) | (go_at_call 22; ((with_reducible refine (get_whole x HX.out _).mono ?_); rintro e w' ⟨rfl, rfl⟩)) | (go_at_call 5; refine (runs_calls _).mono ?_; rintro e w' ⟨rfl, rfl⟩))
    go_ret
    exact ⟨rfl, Below.refl _ _⟩
theorem walk (w : World) (x : Int) (w0 : (Lit.int .u64 x).wf = true) (y : Int) (w1 : (Lit.int .u64 y).wf = true) (a : Int) (w2 : (Lit.int .i64 a).wf = true) (s : Int) (w3 : (Lit.int .i64 s).wf = true) (a2 : Int) (w4 : (Lit.int .i64 a2).wf = true) (s2 : Int) (w5 : (Lit.int .i64 s2).wf = true) :
    Calls Try.prog 6 #[.int .u64 x, .int .u64 y, .int .i64 a, .int .i64 s, .int .i64 a2, .int .i64 s2] w (R w) := by
  obtain ⟨x0, x1⟩ := wf_u64 w0
  obtain ⟨y0, y1⟩ := wf_u64 w1
  obtain ⟨x, rfl⟩ := Int.eq_ofNat_of_zero_le x0
  obtain ⟨y, rfl⟩ := Int.eq_ofNat_of_zero_le y0
  obtain ⟨p0, p1⟩ := within_range a (show (0 : Int) ≤ 63 by decide)
  obtain ⟨p, hp⟩ := Int.eq_ofNat_of_zero_le p0
  rw [hp] at p1
  obtain ⟨k0, k1⟩ := within_range s (show (1 : Int) ≤ 64 - p by omega)
  obtain ⟨k, hk⟩ := Int.eq_ofNat_of_zero_le (show 0 ≤ withinS s 1 (64 - p) by omega)
  rw [hk] at k0 k1
  obtain ⟨q0, q1⟩ := within_range a2 (show (0 : Int) ≤ 63 by decide)
  obtain ⟨q, hq⟩ := Int.eq_ofNat_of_zero_le q0
  rw [hq] at q1
  obtain ⟨j0, j1⟩ := within_range s2 (show (1 : Int) ≤ 64 - q by omega)
  obtain ⟨j, hj⟩ := Int.eq_ofNat_of_zero_le (show 0 ≤ withinS s2 1 (64 - q) by omega)
  rw [hj] at j0 j1
  exact core w x y (by omega) (by omega) p k q j a s a2 s2 (wf_i64 w2) (wf_i64 w3) (wf_i64 w4) (wf_i64 w5) (Lib.hid hp) (Lib.hid hk) (Lib.hid hq) (Lib.hid hj) (by omega) (by omega) (by omega) (by omega) (by omega) (by omega) (Classical.em _)
end Go.Proofs.Ytmgkmekknhggbaa.WkBitsFields

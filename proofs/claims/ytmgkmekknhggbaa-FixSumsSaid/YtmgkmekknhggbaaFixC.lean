/-
  Contracts of fix.Sum, copseref1.Sum, copseref1.Add: what each answers, for each slice that reads as a list of numbers; the sum as the plain one, where the list is short.
-/
import Derived.Test.YtmgkmekknhggbaaFixB
import Derived.LoopTactic
import Derived.Lib.Hide
set_option linter.unusedVariables false
set_option linter.unusedSimpArgs false
namespace Go.Proofs.Ytmgkmekknhggbaa.FixC
open Go Go.RowKit Go.Proofs.Ytmgkmekknhggbaa.BitLib Go.Proofs.Ytmgkmekknhggbaa.FixA Go.Proofs.Ytmgkmekknhggbaa.FixB

/-- The halves that are gathered, as Go gathers them. -/
def half1 (s : Int × Int) (n : Int) : Int × Int := (wrap64 (s.1 + n / 4294967296), wrap64 (s.2 + Go.bits .and .i64 n 4294967295))
def halves (l : List Int) : Int × Int := l.foldl half1 (0, 0)
theorem halves_snoc (l : List Int) (n : Int) : halves (l ++ [n]) = half1 (halves l) n := by simp [halves]
theorem halves_take (l : List Int) (k : Nat) (h : k < l.length) : halves (l.take (k + 1)) = half1 (halves (l.take k)) (l.getD k 0) := by
  rw [List.take_succ_eq_append_getElem h, halves_snoc]
  simp [List.getD, List.getElem?_eq_getElem h]
theorem halves_range (l : List Int) : (-9223372036854775808 ≤ (halves l).1 ∧ (halves l).1 ≤ 9223372036854775807) ∧ (-9223372036854775808 ≤ (halves l).2 ∧ (halves l).2 ≤ 9223372036854775807) := by
  rcases List.eq_nil_or_concat l with rfl | ⟨xs, x, rfl⟩
  · simp [halves]
  · rw [List.concat_eq_append, halves_snoc]; exact ⟨wrap64_range _, wrap64_range _⟩
def upper (s : Int × Int) : Int := wrap64 (s.1 + s.2 / 4294967296)
def sumV (s : Int × Int) : Int := if upper s < -2147483648 ∨ 2147483648 ≤ upper s then 0 else Go.bits .or .i64 (wrap64 (upper s * 4294967296)) (Go.bits .and .i64 s.2 4294967295)
def sumOk (s : Int × Int) : Bool := decide (¬ (upper s < -2147483648 ∨ 2147483648 ≤ upper s))
theorem sumV_no {s : Int × Int} (h : upper s < -2147483648 ∨ 2147483648 ≤ upper s) : sumV s = 0 := if_pos h
theorem sumV_yes {s : Int × Int} (h : ¬ (upper s < -2147483648 ∨ 2147483648 ≤ upper s)) : sumV s = Go.bits .or .i64 (wrap64 (upper s * 4294967296)) (Go.bits .and .i64 s.2 4294967295) := if_neg h
theorem sumOk_no {s : Int × Int} (h : upper s < -2147483648 ∨ 2147483648 ≤ upper s) : sumOk s = false := decide_eq_false (fun hn => hn h)
theorem sumOk_yes {s : Int × Int} (h : ¬ (upper s < -2147483648 ∨ 2147483648 ≤ upper s)) : sumOk s = true := decide_eq_true h

set_option maxHeartbeats 1000000 in
theorem sum_calls (A : Option Addr) (n c : Nat) (l : List Int) (w : World) (hr : ReadsInt w .i64 A n l) :
    Calls Try.prog 15 #[.slice A n c] w fun e w' => e = .returned (.tuple #[.int .i64 (sumV (halves l)), .bool (sumOk (halves l))]) ∧ w = w' := by
  obtain ⟨hl, hm, hc⟩ := hr
  have HL := Lib.hid hl
  clear hl
  have HC := Lib.hid hc
  clear hc
  go_enter Try.func15, Try.ntmps15
  go_wp2
  go_loop [4, 5, 10] (fun h t i => ∃ k : Nat, k ≤ n ∧ i = .int .i64 k ∧ h = .int .i64 (halves (l.take k)).1 ∧ t = .int .i64 (halves (l.take k)).2) (fun _ _ i => n - (intOf i).toNat)
  case atStart => exact ⟨0, Nat.zero_le _, rfl, rfl, rfl⟩
  case round =>
    obtain ⟨k, hk, rfl, rfl, rfl⟩ := hrel
    by_cases hlt : k < n
    · obtain ⟨ad, e, hcell⟩ := HC.out (by omega)
      subst e
      have hcell := hcell k hlt
      have hst := Lib.hid (halves_take l k (by rw [HL.out]; exact hlt))
      clear HC
      go_wp2
      go_round
      case rel => exact ⟨k + 1, by omega, by go_num, by rw [hst.out]; rfl, by rw [hst.out]; rfl⟩
      case measure => simp [intOf]; omega
    · obtain rfl : k = n := by omega
      rw [List.take_of_length_le (by rw [HL.out]; exact Nat.le_refl _)]
      clear HC HL
      obtain ⟨hh1, hh2⟩ := halves_range l
      rcases he : halves l with ⟨s1, s2⟩
      rw [he] at hh1 hh2
      have HE := Lib.hid he
      clear he
      simp only at hh1 hh2 ⊢
      by_cases h : upper (s1, s2) < -2147483648
      · have H1 := Lib.hid (sumV_no (.inl h))
        have H2 := Lib.hid (sumOk_no (.inl h))
        have h' : decide (wrap64 (s1 + s2 / 4294967296) < -2147483648) = true := decide_eq_true h
        clear h
        go_wp2
        go_ret2
        exact ⟨by rw [HE.out, H1.out, H2.out]; rfl, rfl⟩
      · have h' : decide (wrap64 (s1 + s2 / 4294967296) < -2147483648) = false := decide_eq_false h
        by_cases h2 : 2147483648 ≤ upper (s1, s2)
        · have H1 := Lib.hid (sumV_no (.inr h2))
          have H2 := Lib.hid (sumOk_no (.inr h2))
          have h2' : decide (2147483648 ≤ wrap64 (s1 + s2 / 4294967296)) = true := decide_eq_true h2
          clear h h2
          go_wp2
          go_ret2
          exact ⟨by rw [HE.out, H1.out, H2.out]; rfl, rfl⟩
        · have H1 := Lib.hid (sumV_yes (fun hn => hn.elim h h2))
          have H2 := Lib.hid (sumOk_yes (fun hn => hn.elim h h2))
          have h2' : decide (2147483648 ≤ wrap64 (s1 + s2 / 4294967296)) = false := decide_eq_false h2
          clear h h2
          go_wp2
          go_ret2
          exact ⟨by rw [HE.out, H1.out, H2.out]; rfl, rfl⟩
set_option maxHeartbeats 1000000 in
theorem refSum_calls (A : Option Addr) (n c : Nat) (l : List Int) (w : World) (hr : ReadsInt w .i64 A n l) :
    Calls Try.prog 24 #[.slice A n c] w fun e w' => e = .returned (.tuple #[.int .i64 (sumV (halves l)), .bool (sumOk (halves l))]) ∧ w = w' := by
  obtain ⟨hl, hm, hc⟩ := hr
  have HL := Lib.hid hl
  clear hl
  have HC := Lib.hid hc
  clear hc
  go_enter Try.func24, Try.ntmps24
  go_wp2
  go_loop [4, 5, 10] (fun h t i => ∃ k : Nat, k ≤ n ∧ i = .int .i64 k ∧ h = .int .i64 (halves (l.take k)).1 ∧ t = .int .i64 (halves (l.take k)).2) (fun _ _ i => n - (intOf i).toNat)
  case atStart => exact ⟨0, Nat.zero_le _, rfl, rfl, rfl⟩
  case round =>
    obtain ⟨k, hk, rfl, rfl, rfl⟩ := hrel
    by_cases hlt : k < n
    · obtain ⟨ad, e, hcell⟩ := HC.out (by omega)
      subst e
      have hcell := hcell k hlt
      have hst := Lib.hid (halves_take l k (by rw [HL.out]; exact hlt))
      clear HC
      go_wp2
      go_round
      case rel => exact ⟨k + 1, by omega, by go_num, by rw [hst.out]; rfl, by rw [hst.out]; rfl⟩
      case measure => simp [intOf]; omega
    · obtain rfl : k = n := by omega
      rw [List.take_of_length_le (by rw [HL.out]; exact Nat.le_refl _)]
      clear HC HL
      obtain ⟨hh1, hh2⟩ := halves_range l
      rcases he : halves l with ⟨s1, s2⟩
      rw [he] at hh1 hh2
      have HE := Lib.hid he
      clear he
      simp only at hh1 hh2 ⊢
      by_cases h : upper (s1, s2) < -2147483648
      · have H1 := Lib.hid (sumV_no (.inl h))
        have H2 := Lib.hid (sumOk_no (.inl h))
        have h' : decide (wrap64 (s1 + s2 / 4294967296) < -2147483648) = true := decide_eq_true h
        clear h
        go_wp2
        go_ret2
        exact ⟨by rw [HE.out, H1.out, H2.out]; rfl, rfl⟩
      · have h' : decide (wrap64 (s1 + s2 / 4294967296) < -2147483648) = false := decide_eq_false h
        by_cases h2 : 2147483648 ≤ upper (s1, s2)
        · have H1 := Lib.hid (sumV_no (.inr h2))
          have H2 := Lib.hid (sumOk_no (.inr h2))
          have h2' : decide (2147483647 < wrap64 (s1 + s2 / 4294967296)) = true := decide_eq_true (by unfold upper at h2; simp only at h2; omega)
          clear h h2
          go_wp2
          go_ret2
          exact ⟨by rw [HE.out, H1.out, H2.out]; rfl, rfl⟩
        · have H1 := Lib.hid (sumV_yes (fun hn => hn.elim h h2))
          have H2 := Lib.hid (sumOk_yes (fun hn => hn.elim h h2))
          have h2' : decide (2147483647 < wrap64 (s1 + s2 / 4294967296)) = false := decide_eq_false (by unfold upper at h2; simp only at h2; omega)
          clear h h2
          go_wp2
          go_ret2
          exact ⟨by rw [HE.out, H1.out, H2.out]; rfl, rfl⟩

/-! ### The plain sum -/
def sumI (l : List Int) : Int := l.foldr (· + ·) 0
theorem sumI_append (a b : List Int) : sumI (a ++ b) = sumI a + sumI b := by
  induction a with
  | nil => simp [sumI]
  | cons x xs ih => simp only [sumI, List.cons_append, List.foldr_cons] at ih ⊢; omega
/-- Of a short list the halves are those of the plain sum: nothing is wrapped. -/
theorem halves_short (l : List Int) (hl : l.length ≤ 1073741824) (hw : ∀ x ∈ l, -9223372036854775808 ≤ x ∧ x ≤ 9223372036854775807) :
    (halves l).1 * 4294967296 + (halves l).2 = sumI l ∧ (-2147483648 * (l.length : Int) ≤ (halves l).1 ∧ (halves l).1 ≤ 2147483648 * (l.length : Int)) ∧ (0 ≤ (halves l).2 ∧ (halves l).2 ≤ 4294967296 * (l.length : Int)) := by
  generalize hn : l.length = n at *
  induction n generalizing l with
  | zero =>
    obtain rfl := List.eq_nil_of_length_eq_zero hn
    simp [halves, sumI]
  | succ n ih =>
    rcases List.eq_nil_or_concat l with rfl | ⟨xs, x, rfl⟩
    · simp at hn
    · rw [List.concat_eq_append] at hn hw ⊢
      have hx := hw x (by simp)
      simp at hn
      obtain ⟨h1, h2, h3⟩ := ih xs (fun y hy => hw y (by simp [hy])) hn (by omega)
      rw [halves_snoc, sumI_append]
      simp only [half1, i64_low32]
      have ex : sumI [x] = x := by simp [sumI]
      rw [ex]
      generalize (halves xs).1 = a at *
      generalize (halves xs).2 = b at *
      have e1 : wrap64 (a + x / 4294967296) = a + x / 4294967296 := wrap64_id (by omega) (by omega)
      have e2 : wrap64 (b + x % 4294967296) = b + x % 4294967296 := wrap64_id (by omega) (by omega)
      rw [e1, e2]
      omega
theorem sum_short (l : List Int) (hl : l.length ≤ 1073741824) (hw : ∀ x ∈ l, -9223372036854775808 ≤ x ∧ x ≤ 9223372036854775807) :
    sumV (halves l) = told (sumI l) ∧ sumOk (halves l) = fits (sumI l) := by
  obtain ⟨h1, h2, h3⟩ := halves_short l hl hw
  generalize halves l = s at *
  obtain ⟨a, b⟩ := s
  simp only at h1 h2 h3
  have hu : upper (a, b) = a + b / 4294967296 := wrap64_id (by simp only; omega) (by simp only; omega)
  by_cases h : upper (a, b) < -2147483648 ∨ 2147483648 ≤ upper (a, b)
  · rw [sumV_no h, sumOk_no h]
    rw [hu] at h
    have : ¬ (-9223372036854775808 ≤ sumI l ∧ sumI l ≤ 9223372036854775807) := by omega
    rw [told_no this, fits_no this]
    exact ⟨rfl, rfl⟩
  · rw [sumV_yes h, sumOk_yes h]
    rw [hu] at h ⊢
    have : -9223372036854775808 ≤ sumI l ∧ sumI l ≤ 9223372036854775807 := by omega
    rw [told_yes this.1 this.2, fits_yes this.1 this.2]
    have e1 : wrap64 ((a + b / 4294967296) * 4294967296) = (a + b / 4294967296) * 4294967296 := wrap64_id (by omega) (by omega)
    rw [e1, i64_low32, or_halves _ _ (by omega) (by omega) (by omega) (by omega)]
    exact ⟨by show (a + b / 4294967296) * 4294967296 + b % 4294967296 = _; omega, rfl⟩
end Go.Proofs.Ytmgkmekknhggbaa.FixC


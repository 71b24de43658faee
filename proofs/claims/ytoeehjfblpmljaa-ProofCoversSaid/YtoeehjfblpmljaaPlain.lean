/-
  Plain laws of steps and boxes: what a cutting makes is a right proof, whose boxes part the whole. No condition.
-/
import Derived.Test.YtoeehjfblpmljaaStC
set_option linter.unusedVariables false
set_option linter.unusedSimpArgs false
namespace Go.Proofs.Ytoeehjfblpmljaa.PrA
open Go Go.RowKit Go.Proofs.Ytoeehjfblpmljaa.Ev Go.Proofs.Ytoeehjfblpmljaa.PickE Go.Proofs.Ytoeehjfblpmljaa.BoxF Go.Proofs.Ytoeehjfblpmljaa.Within
/-- A point, by its numbers. -/
def Bx.has (x : Bx) (q : Int → Int) : Prop := ∀ k, 0 ≤ k → k < 5 → x.lo k ≤ q k ∧ q k ≤ x.hi k
def Bx.ne (x : Bx) : Prop := ∀ k, 0 ≤ k → k < 5 → x.lo k ≤ x.hi k
def Bx.inn (x b : Bx) : Prop := ∀ k, 0 ≤ k → k < 5 → b.lo k ≤ x.lo k ∧ x.hi k ≤ b.hi k
open Classical in
noncomputable def one (q : Int → Int) (x : Bx) : Nat := if Bx.has x q then 1 else 0
noncomputable def cnt (q : Int → Int) : List Bx → Nat
  | [] => 0
  | x :: l => one q x + cnt q l
theorem cnt_cons (q : Int → Int) (x : Bx) (l : List Bx) : cnt q (x :: l) = cnt q [x] + cnt q l := by simp [cnt]
theorem cnt_app (q : Int → Int) (l m : List Bx) : cnt q (l ++ m) = cnt q l + cnt q m := by
  induction l with
  | nil => simp [cnt]
  | cons x l ih => simp only [List.cons_append, cnt, ih]; omega
/-- A cut parts the points. -/
theorem cnt_cut (q : Int → Int) (x : Bx) {k a : Int} (h0 : 0 ≤ k) (h5 : k < 5) (hl : x.lo k ≤ a) (hh : a < x.hi k) : cnt q [x.setHi k a] + cnt q [x.setLo k (a + 1)] = cnt q [x] := by
  have e1 : Bx.has (x.setHi k a) q ↔ Bx.has x q ∧ q k ≤ a := by
    constructor
    · intro h
      have hk := h k h0 h5
      obtain ⟨_, e2, _, _⟩ := set_ends x h0 h5 h0 h5 a
      rw [e2, if_pos rfl] at hk
      refine ⟨fun j g0 g5 => ?_, hk.2⟩
      have hj := h j g0 g5
      obtain ⟨f1, f2, _, _⟩ := set_ends x h0 h5 g0 g5 a
      rw [f1, f2] at hj
      by_cases hjk : j = k
      · subst hjk
        rw [if_pos rfl] at hj
        omega
      · rw [if_neg hjk] at hj; exact hj
    · rintro ⟨h, hq⟩ j g0 g5
      obtain ⟨f1, f2, _, _⟩ := set_ends x h0 h5 g0 g5 a
      have hj := h j g0 g5
      rw [f1, f2]
      by_cases hjk : j = k
      · subst hjk
        rw [if_pos rfl]
        omega
      · rw [if_neg hjk]; exact hj
  have e2 : Bx.has (x.setLo k (a + 1)) q ↔ Bx.has x q ∧ a + 1 ≤ q k := by
    constructor
    · intro h
      have hk := h k h0 h5
      obtain ⟨_, _, e3, _⟩ := set_ends x h0 h5 h0 h5 (a + 1)
      rw [e3, if_pos rfl] at hk
      refine ⟨fun j g0 g5 => ?_, hk.1⟩
      have hj := h j g0 g5
      obtain ⟨_, _, f3, f4⟩ := set_ends x h0 h5 g0 g5 (a + 1)
      rw [f3, f4] at hj
      by_cases hjk : j = k
      · subst hjk
        rw [if_pos rfl] at hj
        omega
      · rw [if_neg hjk] at hj; exact hj
    · rintro ⟨h, hq⟩ j g0 g5
      obtain ⟨_, _, f3, f4⟩ := set_ends x h0 h5 g0 g5 (a + 1)
      have hj := h j g0 g5
      rw [f3, f4]
      by_cases hjk : j = k
      · subst hjk
        rw [if_pos rfl]
        omega
      · rw [if_neg hjk]; exact hj
  simp only [cnt, one, Nat.add_zero]
  by_cases hx : Bx.has x q
  · rw [if_pos hx]
    by_cases hq : q k ≤ a
    · rw [if_pos (e1.2 ⟨hx, hq⟩), if_neg (fun h => by have := (e2.1 h).2; omega)]
    · rw [if_neg (fun h => hq (e1.1 h).2), if_pos (e2.2 ⟨hx, by omega⟩)]
  · rw [if_neg hx, if_neg (fun h => hx (e1.1 h).1), if_neg (fun h => hx (e2.1 h).1)]
theorem stepsGo_len' (pl al : List Int) : ∀ (f : Nat) (stk out : List Bx) (st : List Stp) (cuts : Nat), (stepsGo pl al f stk out st cuts).2.length ≤ st.length + f
  | 0, stk, out, st, cuts => by simp [stepsGo]
  | f + 1, [], out, st, cuts => by simp [stepsGo]
  | f + 1, x :: stk, out, st, cuts => by
    rw [stepsGo]
    split
    · have := stepsGo_len' pl al f stk (out ++ [x]) (st ++ [⟨true, 0, 0⟩]) cuts
      simp at this; omega
    · refine Nat.le_trans (stepsGo_len' pl al f _ _ _ _) ?_
      simp; omega
/-- What is known of a cutting's run. -/
structure Ran (stk : List Bx) (S : List Stp) (O : List Bx) (b : Bx) (cuts : Nat) : Prop where
  sums : ∀ rest more acc, sumsGo (S ++ rest) (stk ++ more) acc = sumsGo rest more (acc ++ O)
  len : S.length + stk.length = 2 * O.length
  cnt : ∀ q, PrA.cnt q O = PrA.cnt q stk
  ne : (∀ x ∈ stk, Bx.ne x) → ∀ x ∈ O, Bx.ne x
  inn : (∀ x ∈ stk, Bx.inn x b) → ∀ x ∈ O, Bx.inn x b
  right : ∀ s ∈ S, rightS s = true
  good : ∀ s ∈ S, I64 s.at_
  deep : ∃ e : Int, stk.length ≤ e ∧ e ≤ stk.length + (20 - cuts) ∧ ∀ (rest : List Stp) (m d : Int), 0 ≤ m → m + stk.length ≤ d → deepGo (S ++ rest) (m + stk.length) d = deepGo rest m (max d (m + e))
theorem ran_nil (b : Bx) (cuts : Nat) (hc : cuts ≤ 20) : Ran [] [] [] b cuts := by
  refine ⟨by simp, rfl, fun q => rfl, fun _ => by simp, fun _ => by simp, by simp, by simp, 0, by simp, by simp; omega, ?_⟩
  intro rest m d h0 h
  simp only [List.length_nil, Int.natCast_zero, Int.add_zero, List.nil_append] at *
  have e2 : max d m = d := by omega
  simp [e2]
theorem ran (pl al : List Int) (b : Bx) : ∀ (f : Nat) (stk out : List Bx) (st : List Stp) (cuts : Nat), cuts ≤ 20 → 2 * (20 - cuts) + stk.length ≤ f → (∀ x ∈ stk, x.Small) →
    ∃ S O, stepsGo pl al f stk out st cuts = (out ++ O, st ++ S) ∧ Ran stk S O b cuts := by
  intro f
  induction f with
  | zero =>
    intro stk out st cuts hc hf _
    have : stk = [] := List.eq_nil_of_length_eq_zero (by omega)
    subst this
    exact ⟨[], [], by rw [stepsGo_nil]; simp, ran_nil b cuts hc⟩
  | succ f ih =>
    intro stk out st cuts hc hf hsm
    cases stk with
    | nil => exact ⟨[], [], by rw [stepsGo_nil]; simp, ran_nil b cuts hc⟩
    | cons x stk =>
      simp only [List.length_cons] at hf
      have ix := hsm _ (List.mem_cons_self ..)
      have istk : ∀ y ∈ stk, y.Small := fun y hy => hsm y (List.mem_cons_of_mem _ hy)
      rw [stepsGo]
      have hkr := within_range (pickI pl st.length) (lo := 0) (hi := 5) (by decide)
      have hkk : withinS (pickI pl st.length) 0 5 = cutK pl st.length := rfl
      rw [hkk] at hkr
      generalize cutK pl st.length = k at *
      by_cases hs : stays pl x k cuts
      · rw [if_pos hs]
        obtain ⟨S, O, h1, R⟩ := ih stk (out ++ [x]) (st ++ [⟨true, 0, 0⟩]) cuts hc (by omega) istk
        refine ⟨⟨true, 0, 0⟩ :: S, x :: O, by rw [h1]; simp, ?_⟩
        obtain ⟨e, e1, e2, e3⟩ := R.deep
        refine ⟨?_, ?_, ?_, ?_, ?_, ?_, ?_, max e (stk.length + 1), by simp; omega, by simp; omega, ?_⟩
        · intro rest more acc
          simp only [List.cons_append, sumsGo, if_true]
          rw [R.sums, List.append_assoc]
          rfl
        · have := R.len
          simp
          omega
        · intro q
          rw [cnt_cons, cnt_cons q x stk, R.cnt]
        · intro h y hy
          rcases List.mem_cons.1 hy with rfl | hy
          · exact h _ (List.mem_cons_self ..)
          · exact R.ne (fun z hz => h z (List.mem_cons_of_mem _ hz)) y hy
        · intro h y hy
          rcases List.mem_cons.1 hy with rfl | hy
          · exact h _ (List.mem_cons_self ..)
          · exact R.inn (fun z hz => h z (List.mem_cons_of_mem _ hz)) y hy
        · intro s hs'
          rcases List.mem_cons.1 hs' with rfl | hs'
          · rfl
          · exact R.right s hs'
        · intro s hs'
          rcases List.mem_cons.1 hs' with rfl | hs'
          · exact ⟨by decide, by decide⟩
          · exact R.good s hs'
        · intro rest m d h0 hd
          simp only [List.length_cons, Int.natCast_add, Int.natCast_one] at hd ⊢
          simp only [List.cons_append, deepGo]
          rw [if_neg (fun h => h.elim (fun h => by omega) (fun h => absurd h (by decide))), if_pos trivial]
          have e5 : m + ((stk.length : Int) + 1) - 1 = m + stk.length := by omega
          rw [e5, e3 rest m d h0 (by omega)]
          congr 1
          omega
      · rw [if_neg hs]
        have c1 : k ≠ 5 := fun h => hs (Or.inl h)
        have c2 : ¬ 20 ≤ cuts := fun h => hs (Or.inr (Or.inl h))
        have c4 : ¬ x.hi k ≤ x.lo k := fun h => hs (Or.inr (Or.inr (Or.inr h)))
        have hk5 : 0 ≤ k ∧ k < 5 := by omega
        have har := within_range (pickI al st.length) (lo := x.lo k) (hi := x.hi k - 1) (by omega)
        have haa : withinS (pickI al st.length) (x.lo k) (x.hi k - 1) = cutA al x k st.length := rfl
        rw [haa] at har
        generalize cutA al x k st.length = a at *
        obtain ⟨s1, s2⟩ := small_set x (k := k) (a := a) ix hk5.1 hk5.2 (by omega) (by omega)
        obtain ⟨l1, l2⟩ := cut_in x (p := k) (a := a) hk5.1 hk5.2 (by omega) (by omega)
        have hsmk := ix k hk5.1 hk5.2
        obtain ⟨S, O, h1, R⟩ := ih (x.setHi k a :: x.setLo k (a + 1) :: stk) out (st ++ [⟨false, k, a⟩]) (cuts + 1) (by omega) (by simp; omega) (by
          intro y hy
          simp at hy
          rcases hy with rfl | rfl | hy
          · exact s1
          · exact s2
          · exact istk y hy)
        refine ⟨⟨false, k, a⟩ :: S, O, by rw [h1]; simp, ?_⟩
        obtain ⟨e, e1, e2, e3⟩ := R.deep
        simp only [List.length_cons] at e1 e2 e3
        have hrs : rightS ⟨false, k, a⟩ = true := by
          have q1 : k ≤ 4 := by omega
          simp [rightS, hk5.1, q1]
        refine ⟨?_, ?_, ?_, ?_, ?_, ?_, ?_, e, by simp; omega, by simp; omega, ?_⟩
        · intro rest more acc
          simp only [List.cons_append, sumsGo, Bool.false_eq_true, if_false]
          rw [if_neg (fun h => h.elim (fun h => by omega) (fun h => by omega)), l1, l2]
          have := R.sums rest more acc
          simp only [List.cons_append] at this
          exact this
        · have := R.len
          simp at this ⊢
          omega
        · intro q
          rw [R.cnt, cnt_cons q (x.setHi k a), cnt_cons q (x.setLo k (a + 1)), cnt_cons q x stk, ← cnt_cut q x hk5.1 hk5.2 (a := a) (by omega) (by omega)]
          omega
        · intro h
          refine R.ne fun y hy => ?_
          have hx := h x (List.mem_cons_self ..)
          simp at hy
          rcases hy with rfl | rfl | hy
          · intro j g0 g5
            obtain ⟨f1, f2, _, _⟩ := set_ends x hk5.1 hk5.2 g0 g5 a
            have := hx j g0 g5
            rw [f1, f2]
            split
            · rename_i hj; subst hj; omega
            · exact this
          · intro j g0 g5
            obtain ⟨_, _, f3, f4⟩ := set_ends x hk5.1 hk5.2 g0 g5 (a + 1)
            have := hx j g0 g5
            rw [f3, f4]
            split
            · rename_i hj; subst hj; omega
            · exact this
          · exact h y (List.mem_cons_of_mem _ hy)
        · intro h
          refine R.inn fun y hy => ?_
          have hx := h x (List.mem_cons_self ..)
          simp at hy
          rcases hy with rfl | rfl | hy
          · intro j g0 g5
            obtain ⟨f1, f2, _, _⟩ := set_ends x hk5.1 hk5.2 g0 g5 a
            have := hx j g0 g5
            rw [f1, f2]
            split
            · rename_i hj; subst hj; omega
            · exact this
          · intro j g0 g5
            obtain ⟨_, _, f3, f4⟩ := set_ends x hk5.1 hk5.2 g0 g5 (a + 1)
            have := hx j g0 g5
            rw [f3, f4]
            split
            · rename_i hj; subst hj; omega
            · exact this
          · exact h y (List.mem_cons_of_mem _ hy)
        · intro s hs'
          rcases List.mem_cons.1 hs' with rfl | hs'
          · exact hrs
          · exact R.right s hs'
        · intro s hs'
          rcases List.mem_cons.1 hs' with rfl | hs'
          · show I64 a
            exact ⟨by omega, by omega⟩
          · exact R.good s hs'
        · intro rest m d h0 hd
          simp only [List.length_cons, Int.natCast_add, Int.natCast_one] at hd ⊢
          simp only [List.cons_append, deepGo]
          rw [if_neg (fun h => h.elim (fun h => by omega) (fun h => by rw [hrs] at h; exact absurd h (by decide))), if_neg (by decide)]
          have e5 : m + ((stk.length : Int) + 1) + 1 = m + ((stk.length + 1 + 1 : Nat) : Int) := by omega
          rw [e5, e3 rest m _ h0 (by omega)]
          congr 1
          omega
/-- A cutting of one box. -/
theorem ran1 (pl al : List Int) (b : Bx) (hb : b.Small) : ∃ S O, stepsI pl al b = (O, S) ∧ Ran [b] S O b 0 := by
  obtain ⟨S, O, h, R⟩ := ran pl al b 41 [b] [] [] 0 (by decide) (by simp) (by simpa using hb)
  exact ⟨S, O, by unfold stepsI; rw [h]; simp, R⟩
theorem deepI_of {l : List Stp} {d : Int} (hl : l.length ≤ 65536) (h : deepGo l 1 1 = some (0, d)) (hd : d ≤ 200) : deepI l = d := by
  unfold deepI
  rw [if_neg (by omega), h]
  simp [deepR, hd]
theorem steps_len (pl al : List Int) (b : Bx) : (stepsI pl al b).2.length ≤ 41 := by
  have := stepsGo_len' pl al 41 [b] [] [] 0
  unfold stepsI
  simpa using this
end Go.Proofs.Ytoeehjfblpmljaa.PrA


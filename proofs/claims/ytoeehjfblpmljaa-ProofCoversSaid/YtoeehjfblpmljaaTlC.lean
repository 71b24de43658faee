/-
  ProofTells: whatever the steps, it says true. No condition.
-/
import Derived.Test.YtoeehjfblpmljaaTlB
set_option linter.unusedVariables false
set_option linter.unusedSimpArgs false
set_option maxRecDepth 100000
namespace Go.Proofs.Ytoeehjfblpmljaa.PrA
open Go Go.RowKit Go.Proofs.Ytoeehjfblpmljaa.Ev Go.Proofs.Ytoeehjfblpmljaa.PickE Go.Proofs.Ytoeehjfblpmljaa.BoxF Go.Proofs.Ytoeehjfblpmljaa.Within
/-! ### The plain law -/
theorem deepGo_ge : ∀ {L : List Stp} {l d l' d' : Int}, deepGo L l d = some (l', d') → d ≤ d'
  | [], l, d, l', d', h => by simp [deepGo] at h; omega
  | s :: L, l, d, l', d', h => by
    simp only [deepGo] at h
    split at h
    · simp at h
    · split at h
      · exact deepGo_ge h
      · have := deepGo_ge h; omega
theorem tell_deep : ∀ (L : List Stp) (l d : Int) (r : Bool), l ≤ d → match deepGo L l d with
    | none => (tellGo L l d r).2.2 = false
    | some (l', d') => tellGo L l d r = (l', d', if L = [] then r else decide (l' = 0))
  | [], l, d, r, h => by simp [deepGo, tellGo]
  | s :: L, l, d, r, h => by
    simp only [deepGo, tellGo]
    by_cases hb : l = 0 ∨ rightS s = false
    · simp [hb]
    · simp only [if_neg hb]
      by_cases hs : s.sum = true
      · simp only [hs, if_true]
        have e : max d (l - 1) = d := by omega
        rw [e]
        have := tell_deep L (l - 1) d (decide (0 < L.length ∨ l - 1 = 0)) (by omega)
        cases hd : deepGo L (l - 1) d with
        | none => rw [hd] at this; exact this
        | some x =>
          obtain ⟨l', d'⟩ := x
          rw [hd] at this
          simp only at this ⊢
          rw [this]
          cases L with
          | nil => simp [deepGo] at hd; simp [hd.1]
          | cons => simp
      · simp only [hs, if_false, Bool.false_eq_true]
        have := tell_deep L (l + 1) (max d (l + 1)) (decide (0 < L.length ∨ l + 1 = 0)) (by omega)
        cases hd : deepGo L (l + 1) (max d (l + 1)) with
        | none => rw [hd] at this; exact this
        | some x =>
          obtain ⟨l', d'⟩ := x
          rw [hd] at this
          simp only at this ⊢
          rw [this]
          cases L with
          | nil => simp [deepGo] at hd; simp [hd.1]
          | cons => simp
/-- What the loop reckons tells what deep does. -/
theorem tell_law (L : List Stp) (hL : L.length ≤ 65536) : ∀ l d r, tellGo L 1 1 (decide (0 < L.length)) = (l, d, r) → ((r = true ∧ d ≤ 200) → deepI L = d ∧ 0 < d) ∧ (¬ (r = true ∧ d ≤ 200) → deepI L = 0) := by
  intro l d r ht
  have h1 := tell_deep L 1 1 (decide (0 < L.length)) (by decide)
  unfold deepI
  rw [if_neg (by omega)]
  cases hd : deepGo L 1 1 with
  | none =>
    rw [hd] at h1
    simp only at h1
    rw [ht] at h1
    simp only at h1
    subst h1
    simp [deepR]
  | some x =>
    obtain ⟨l', d'⟩ := x
    rw [hd] at h1
    simp only at h1
    rw [ht] at h1
    simp only [Prod.mk.injEq] at h1
    obtain ⟨rfl, rfl, hr⟩ := h1
    have hge := deepGo_ge hd
    cases L with
    | nil =>
      simp at hr
      subst hr
      simp [deepGo] at hd
      simp [deepR, ← hd.1]
    | cons s L =>
      simp at hr
      subst hr
      simp only [deepR]
      by_cases hl : l = 0
      · subst hl
        by_cases h2 : d ≤ 200
        · simp [h2]; omega
        · simp [h2]
      · simp [hl]
theorem sums_none' (b : Bx) {L : List Stp} (h : deepI L = 0) : sumsI b L = none := by unfold sumsI; rw [if_neg (by omega)]
theorem stepsGo_len (pl al : List Int) : ∀ (f : Nat) (stk out : List Bx) (st : List Stp) (cuts : Nat), (stepsGo pl al f stk out st cuts).2.length ≤ st.length + f
  | 0, stk, out, st, cuts => by simp [stepsGo]
  | f + 1, [], out, st, cuts => by simp [stepsGo]
  | f + 1, x :: stk, out, st, cuts => by
    rw [stepsGo]
    split
    · have := stepsGo_len pl al f stk (out ++ [x]) (st ++ [⟨true, 0, 0⟩]) cuts
      simp at this; omega
    · refine Nat.le_trans (stepsGo_len pl al f _ _ _ _) ?_
      simp; omega
theorem small09 : (Bx.mk 0 9 0 9 0 0 0 0 0 0).Small := by
  intro k h0 h5
  rcases five h0 h5 with rfl | rfl | rfl | rfl | rfl <;> decide
theorem h0box : (Bx.mk 0 0 0 0 0 0 0 0 0 0).I64s := by
  refine ⟨?_, ?_, ?_, ?_, ?_, ?_, ?_, ?_, ?_, ?_⟩ <;> exact ⟨by decide, by decide⟩
/-- Of one shape alone. -/
def onlyL {ι : Type} (L : LoopF ι) (z : Nat) : LoopF ι := { L with inv := fun b i => b = z ∧ L.inv b i }
/-! ### The loop -/

theorem tl_loop0 (cs : List Value) (o m c : Nat) (hrow : eStp.Row cs o m) (hpl : ∀ x ∈ cs, leafG x = true) (hlong : m ≤ 65536) {E : Env} (hE : EnvOK E Try.prog Try.f4 3 3 (.bool true) [] []) : ∀ zz, (tlL cs o m c []).inv 0 zz → Sat E (atLp (lp Try.f4 0)) ((tlL cs o m c []).st 0 zz) := by
  have hlen : (eStp.list cs o m).length = m := Elt.list_len cs o m
  have hpR : plainR [cs] := fun x hx y hy => by simp at hx; subst hx; exact hpl y hy
  have rnr : ∀ f : Nat → Nat, Blk.rnB f (.ro cs) = .ro cs := fun f => Blk.plain.rnB (b := .ro cs) hpl f
  have okL := tlL_ok cs o m c [] hpl
  have hread : ∀ (i : Nat) (s : Bool) (p a : Int), (eStp.list cs o m)[i]? = some ⟨s, p, a⟩ → readPart Try.prog 23 cs (o + ((i : Int)).toNat * 3) = some (.agg ⟨[.bool s, .int .i64 p, .int .i64 a]⟩) := fun i s p a h =>
    hrow.read (P := Try.prog) (ty := 23) (by kernel_rfl) (by kernel_rfl) (i := i) h
  have key : ∀ zz, (tlL cs o m c []).inv 0 zz → ∀ J : Act → World → Prop, (∀ b' i', b' = 0 → (tlL cs o m c []).inv b' i' → (tlL cs o m c []).mu b' i' < (tlL cs o m c []).mu 0 zz → Sat E (mkLp (lp Try.f4 0) J) ((tlL cs o m c []).st b' i')) → Sat E (inLp (lp Try.f4 0) J) ((tlL cs o m c []).st 0 zz) := by
    rintro ⟨i, l, d, r⟩ hi J hJ
    have hinv : i ≤ (eStp.list cs o m).length ∧ tellGo ((eStp.list cs o m).drop i) l d r = tellGo (eStp.list cs o m) 1 1 (decide (0 < (eStp.list cs o m).length)) ∧ 0 ≤ l ∧ l ≤ i + 1 ∧ 0 ≤ d ∧ d ≤ i + 1 := by
      exact hi
    clear hi
    obtain ⟨k1, k2, k3, k4, k5, k6⟩ := hinv
    have hJ' : ∀ zz, (tlL cs o m c []).inv 0 zz → ltO ((tlL cs o m c []).mu 0 zz) (some (m - i)) → Sat E (mkLp (lp Try.f4 0) J) ((tlL cs o m c []).st 0 zz) := fun zz h1 h2 => hJ 0 zz rfl h1 h2
    have mkI : ∀ (i' : Nat) (l' d' : Int) (r' : Bool), i' ≤ (eStp.list cs o m).length → tellGo ((eStp.list cs o m).drop i') l' d' r' = tellGo (eStp.list cs o m) 1 1 (decide (0 < (eStp.list cs o m).length)) → 0 ≤ l' → l' ≤ i' + 1 → 0 ≤ d' → d' ≤ i' + 1 → (tlL cs o m c []).inv 0 ⟨i', l', d', r'⟩ := by
      intro i' l' d' r' q1 q2 q3 q4 q5 q6
      exact ⟨q1, q2, q3, q4, q5, q6⟩
    have hlaw := tell_law (eStp.list cs o m) (by omega)
    generalize hL : (eStp.list cs o m) = L at *
    by_cases hin : i < m
    · have hiL : i < L.length := by omega
      rcases hs : L[i] with ⟨s, p, a⟩
      have hget : L[i]? = some ⟨s, p, a⟩ := by rw [List.getElem?_eq_getElem hiL, hs]
      have hdrop : L.drop i = ⟨s, p, a⟩ :: L.drop (i + 1) := by rw [List.drop_eq_getElem_cons hiL, hs]
      have hrd := hread i s p a hget
      have hlt : decide ((i : Int) < (m : Nat)) = true := decide_eq_true (by omega)
      rw [hdrop] at k2
      simp only [tellGo] at k2
      by_cases hb : l = 0 ∨ rightS ⟨s, p, a⟩ = false
      · rw [if_pos hb] at k2
        have hd0 : deepI L = 0 := (hlaw _ _ _ k2.symm).2 (by simp)
        have hdI : deepI (eStp.list cs o m) = 0 := by rw [hL]; exact hd0
        have hdD : decide (deepI (eStp.list cs o m) > 0) = false := by rw [hdI]; rfl
        have hsn : sumsI (Bx.mk 0 0 0 0 0 0 0 0 0 0) (eStp.list cs o m) = none := by rw [hL]; exact sums_none' _ hd0
        by_cases hz : l = 0
        · have hl0 : (l == (0 : Int)) = true := by rw [hz]; rfl
          exact tb00 cs o m c i l d r p a s J hE ⟨⟨rfl, rfl⟩, rfl, (congrArg _ hdI), hpR, hrow, (congrArg _ hdD), hpR, hrow, hpR, hrow, h0box, hsn, (congrArg _ hl0), hrd, ⟨Int.natCast_nonneg _, Int.ofNat_lt.2 hin⟩, hlt, trivial⟩
        have hl0 : (l == (0 : Int)) = false := by simpa using hz
        have hrf : rightS ⟨s, p, a⟩ = false := hb.resolve_left hz
        cases s with
        | true =>
          by_cases hp : p = 0
          · have hp0 : (p != (0 : Int)) = false := by rw [hp]; rfl
            have ha : a ≠ 0 := fun h => by simp [rightS, hp, h] at hrf
            have ha0 : (a != (0 : Int)) = true := by simpa using ha
            exact tb0A cs o m c i l d r p a J hE ⟨⟨rfl, rfl⟩, rfl, (congrArg _ hdI), hpR, hrow, (congrArg _ hdD), hpR, hrow, hpR, hrow, h0box, hsn, (congrArg _ ha0), (congrArg _ hp0), (congrArg _ hl0), hrd, ⟨Int.natCast_nonneg _, Int.ofNat_lt.2 hin⟩, hlt, trivial⟩
          · have hp0 : (p != (0 : Int)) = true := by simpa using hp
            exact tb0P cs o m c i l d r p a J hE ⟨⟨rfl, rfl⟩, rfl, (congrArg _ hdI), hpR, hrow, (congrArg _ hdD), hpR, hrow, hpR, hrow, h0box, hsn, (congrArg _ hp0), (congrArg _ hl0), hrd, ⟨Int.natCast_nonneg _, Int.ofNat_lt.2 hin⟩, hlt, trivial⟩
        | false =>
          by_cases hp : p < 0
          · have hpn : decide (p < 0) = true := decide_eq_true hp
            exact tb0L cs o m c i l d r p a J hE ⟨⟨rfl, rfl⟩, rfl, (congrArg _ hdI), hpR, hrow, (congrArg _ hdD), hpR, hrow, hpR, hrow, h0box, hsn, (congrArg _ hpn), (congrArg _ hl0), hrd, ⟨Int.natCast_nonneg _, Int.ofNat_lt.2 hin⟩, hlt, trivial⟩
          · have hpn : decide (p < 0) = false := decide_eq_false hp
            have hp5 : p > 4 := by
              by_cases h : p > 4
              · exact h
              · exfalso
                have q1 : (0 : Int) ≤ p := by omega
                have q2 : p ≤ 4 := by omega
                simp [rightS, q1, q2] at hrf
            have hp4 : decide (p > 4) = true := decide_eq_true hp5
            exact tb0H cs o m c i l d r p a J hE ⟨⟨rfl, rfl⟩, rfl, (congrArg _ hdI), hpR, hrow, (congrArg _ hdD), hpR, hrow, hpR, hrow, h0box, hsn, (congrArg _ hp4), (congrArg _ hpn), (congrArg _ hl0), hrd, ⟨Int.natCast_nonneg _, Int.ofNat_lt.2 hin⟩, hlt, trivial⟩
      · rw [if_neg hb] at k2
        have hz : l ≠ 0 := fun h => hb (Or.inl h)
        have hl0 : (l == (0 : Int)) = false := by simpa using hz
        have hrt : rightS ⟨s, p, a⟩ = true := by
          cases h : rightS ⟨s, p, a⟩ with
          | true => rfl
          | false => exact absurd (Or.inr h) hb
        have hdl : (L.drop (i + 1)).length = L.length - (i + 1) := by simp
        cases s with
        | true =>
          simp only [if_true] at k2
          have hpa : p = 0 ∧ a = 0 := by simpa [rightS] using hrt
          have hp0 : (p != (0 : Int)) = false := by rw [hpa.1]; rfl
          have ha0 : (a != (0 : Int)) = false := by rw [hpa.2]; rfl
          by_cases hm : i + 1 < m
          · have hmore : decide (((i + 1 : Nat) : Int) < (m : Nat)) = true := decide_eq_true (by omega)
            have e1 : decide (0 < (L.drop (i + 1)).length ∨ l - 1 = 0) = true := decide_eq_true (Or.inl (by omega))
            rw [e1] at k2
            have hI := mkI (i + 1) (l - 1) (max d (l - 1)) true (by omega) k2 (by omega) (by omega) (by omega) (by omega)
            have hmu : ltO ((tlL cs o m c []).mu 0 ⟨i + 1, l - 1, max d (l - 1), true⟩) (some (m - i)) := by simp only [tlL, ltO]; omega
            exact tg0S1 cs o m c i l d r true p a J hE okL ⟨rfl, ⟨_, hI, hmu, rfl, by simp [tlL, rnr]⟩, (i64_succ (by omega)), (congrArg _ hmore), (i64_succ (by omega)), (congrArg _ (maxI_eq _ _)), (i64_id rfl (by omega) (by omega)), (congrArg _ ha0), (congrArg _ hp0), (congrArg _ hl0), hrd, ⟨Int.natCast_nonneg _, Int.ofNat_lt.2 hin⟩, hlt, trivial⟩ hJ'
          · have hmore : decide (((i + 1 : Nat) : Int) < (m : Nat)) = false := decide_eq_false (by omega)
            have e1 : decide (0 < (L.drop (i + 1)).length ∨ l - 1 = 0) = (l - 1 == 0) := by
              rw [Bool.eq_iff_iff]
              simp only [decide_eq_true_eq, beq_iff_eq]
              omega
            rw [e1] at k2
            have hI := mkI (i + 1) (l - 1) (max d (l - 1)) _ (by omega) k2 (by omega) (by omega) (by omega) (by omega)
            have hmu : ltO ((tlL cs o m c []).mu 0 ⟨i + 1, l - 1, max d (l - 1), l - 1 == 0⟩) (some (m - i)) := by simp only [tlL, ltO]; omega
            exact tg0S0 cs o m c i l d r (l - 1 == 0) p a J hE okL ⟨rfl, ⟨_, hI, hmu, rfl, by simp [tlL, rnr]⟩, (i64_succ (by omega)), rfl, (congrArg _ hmore), (i64_succ (by omega)), (congrArg _ (maxI_eq _ _)), (i64_id rfl (by omega) (by omega)), (congrArg _ ha0), (congrArg _ hp0), (congrArg _ hl0), hrd, ⟨Int.natCast_nonneg _, Int.ofNat_lt.2 hin⟩, hlt, trivial⟩ hJ'
        | false =>
          simp only [Bool.false_eq_true, if_false] at k2
          have hpa : 0 ≤ p ∧ p ≤ 4 := by simpa [rightS] using hrt
          have hpn : decide (p < 0) = false := decide_eq_false (by omega)
          have hp4 : decide (p > 4) = false := decide_eq_false (by omega)
          by_cases hm : i + 1 < m
          · have hmore : decide (((i + 1 : Nat) : Int) < (m : Nat)) = true := decide_eq_true (by omega)
            have e1 : decide (0 < (L.drop (i + 1)).length ∨ l + 1 = 0) = true := decide_eq_true (Or.inl (by omega))
            rw [e1] at k2
            have hI := mkI (i + 1) (l + 1) (max d (l + 1)) true (by omega) k2 (by omega) (by omega) (by omega) (by omega)
            have hmu : ltO ((tlL cs o m c []).mu 0 ⟨i + 1, l + 1, max d (l + 1), true⟩) (some (m - i)) := by simp only [tlL, ltO]; omega
            exact tg0C1 cs o m c i l d r true p a J hE okL ⟨rfl, ⟨_, hI, hmu, rfl, by simp [tlL, rnr]⟩, (i64_succ (by omega)), (congrArg _ hmore), (i64_succ (by omega)), (congrArg _ (maxI_eq _ _)), (i64_id rfl (by omega) (by omega)), (congrArg _ hp4), (congrArg _ hpn), (congrArg _ hl0), hrd, ⟨Int.natCast_nonneg _, Int.ofNat_lt.2 hin⟩, hlt, trivial⟩ hJ'
          · have hmore : decide (((i + 1 : Nat) : Int) < (m : Nat)) = false := decide_eq_false (by omega)
            have e1 : decide (0 < (L.drop (i + 1)).length ∨ l + 1 = 0) = (l + 1 == 0) := by
              rw [Bool.eq_iff_iff]
              simp only [decide_eq_true_eq, beq_iff_eq]
              omega
            rw [e1] at k2
            have hI := mkI (i + 1) (l + 1) (max d (l + 1)) _ (by omega) k2 (by omega) (by omega) (by omega) (by omega)
            have hmu : ltO ((tlL cs o m c []).mu 0 ⟨i + 1, l + 1, max d (l + 1), l + 1 == 0⟩) (some (m - i)) := by simp only [tlL, ltO]; omega
            exact tg0C0 cs o m c i l d r (l + 1 == 0) p a J hE okL ⟨rfl, ⟨_, hI, hmu, rfl, by simp [tlL, rnr]⟩, (i64_succ (by omega)), rfl, (congrArg _ hmore), (i64_succ (by omega)), (congrArg _ (maxI_eq _ _)), (i64_id rfl (by omega) (by omega)), (congrArg _ hp4), (congrArg _ hpn), (congrArg _ hl0), hrd, ⟨Int.natCast_nonneg _, Int.ofNat_lt.2 hin⟩, hlt, trivial⟩ hJ'
    · have hlt : decide ((i : Int) < (m : Nat)) = false := decide_eq_false (by omega)
      have hdl : L.drop i = [] := by rw [List.drop_eq_nil_iff]; omega
      rw [hdl] at k2
      simp only [tellGo] at k2
      have hl := hlaw _ _ _ k2.symm
      by_cases hgood : r = true ∧ d ≤ 200
      · obtain ⟨hd1, hd2⟩ := hl.1 hgood
        obtain ⟨rfl, hd200⟩ := hgood
        have hdI : deepI (eStp.list cs o m) = d := by rw [hL]; exact hd1
        have hdD : decide (deepI (eStp.list cs o m) > 0) = true := by rw [hdI]; exact decide_eq_true hd2
        have h200 : decide (d ≤ 200) = true := decide_eq_true hd200
        cases hsu : sumsI (Bx.mk 0 0 0 0 0 0 0 0 0 0) (eStp.list cs o m) with
        | none =>
          have hsn := hsu
          exact te0N cs o m c i l d J hE ⟨⟨rfl, rfl⟩, (congrArg _ (beq_self_eq_true d)), (congrArg _ hdI), hpR, hrow, (congrArg _ hdD), hpR, hrow, hpR, hrow, h0box, hsn, (congrArg _ h200), hlt, trivial⟩
        | some R =>
          have hss := hsu
          exact te0S cs o m c i l d R J hE ⟨⟨rfl, rfl⟩, (congrArg _ (beq_self_eq_true d)), (congrArg _ hdI), hpR, hrow, (congrArg _ hdD), hpR, hrow, hpR, hrow, h0box, hss, (congrArg _ h200), hlt, trivial⟩
      · have hd0 : deepI L = 0 := hl.2 hgood
        have hdI : deepI (eStp.list cs o m) = 0 := by rw [hL]; exact hd0
        have hdD : decide (deepI (eStp.list cs o m) > 0) = false := by rw [hdI]; rfl
        have hsn : sumsI (Bx.mk 0 0 0 0 0 0 0 0 0 0) (eStp.list cs o m) = none := by rw [hL]; exact sums_none' _ hd0
        cases r with
        | true =>
          have h200 : decide (d ≤ 200) = false := decide_eq_false fun h => hgood ⟨rfl, h⟩
          exact te0D cs o m c i l d J hE ⟨⟨rfl, rfl⟩, rfl, (congrArg _ hdI), hpR, hrow, (congrArg _ hdD), hpR, hrow, hpR, hrow, h0box, hsn, (congrArg _ h200), hlt, trivial⟩
        | false => exact te0F cs o m c i l d J hE ⟨⟨rfl, rfl⟩, rfl, (congrArg _ hdI), hpR, hrow, (congrArg _ hdD), hpR, hrow, hpR, hrow, h0box, hsn, hlt, trivial⟩
  intro zz hz
  have := loop_sat (E := E) (k := ((lp Try.f4 0)).2) (c := ((lp Try.f4 0)).1) (onlyL (tlL cs o m c []) 0) (fun b i hb J hJ => by
    obtain ⟨rfl, hb⟩ := hb
    exact key i hb J (fun b' i' e h1 h2 => hJ b' i' ⟨e, h1⟩ (by subst e; exact h2)))
  exact this 0 zz ⟨rfl, hz⟩

theorem tl_loop1 (st : List Stp) (hlong : st.length ≤ 65536) {E : Env} (hE : EnvOK E Try.prog Try.f4 3 3 (.bool true) [] []) : ∀ zz, (tlL [] 0 0 0 st).inv 1 zz → Sat E (atLp (lp Try.f4 0)) ((tlL [] 0 0 0 st).st 1 zz) := by
  have hrow := (Elt.canon0 (e := eStp) st).1
  have hcan := (Elt.canon0 (e := eStp) st).2
  have hlen : (eStp.list (eStp.row st) 0 st.length).length = st.length := Elt.list_len _ _ _
  have hpR : plainR [eStp.row st] := fun x hx y hy => by simp at hx; subst hx; exact Elt.row_pl _ y hy
  have rnr : ∀ f : Nat → Nat, Blk.rnB f (.vec (eStp.row st) 23 3) = .vec (eStp.row st) 23 3 := fun f => Blk.plain.rnB (b := .vec (eStp.row st) 23 3) (Elt.row_pl _) f
  have okL := tlL_ok [] 0 0 0 st (by simp)
  have hread : ∀ (i : Nat) (s : Bool) (p a : Int), (eStp.list (eStp.row st) 0 st.length)[i]? = some ⟨s, p, a⟩ → readPart Try.prog 23 (eStp.row st) (0 + ((i : Int)).toNat * 3) = some (.agg ⟨[.bool s, .int .i64 p, .int .i64 a]⟩) := fun i s p a h =>
    hrow.read (P := Try.prog) (ty := 23) (by kernel_rfl) (by kernel_rfl) (i := i) h
  have key : ∀ zz, (tlL [] 0 0 0 st).inv 1 zz → ∀ J : Act → World → Prop, (∀ b' i', b' = 1 → (tlL [] 0 0 0 st).inv b' i' → (tlL [] 0 0 0 st).mu b' i' < (tlL [] 0 0 0 st).mu 1 zz → Sat E (mkLp (lp Try.f4 0) J) ((tlL [] 0 0 0 st).st b' i')) → Sat E (inLp (lp Try.f4 0) J) ((tlL [] 0 0 0 st).st 1 zz) := by
    rintro ⟨i, l, d, r⟩ hi J hJ
    have hinv : i ≤ (eStp.list (eStp.row st) 0 st.length).length ∧ tellGo ((eStp.list (eStp.row st) 0 st.length).drop i) l d r = tellGo (eStp.list (eStp.row st) 0 st.length) 1 1 (decide (0 < (eStp.list (eStp.row st) 0 st.length).length)) ∧ 0 ≤ l ∧ l ≤ i + 1 ∧ 0 ≤ d ∧ d ≤ i + 1 := by
      rw [hcan]; exact hi
    clear hi
    obtain ⟨k1, k2, k3, k4, k5, k6⟩ := hinv
    have hJ' : ∀ zz, (tlL [] 0 0 0 st).inv 1 zz → ltO ((tlL [] 0 0 0 st).mu 1 zz) (some (st.length - i)) → Sat E (mkLp (lp Try.f4 0) J) ((tlL [] 0 0 0 st).st 1 zz) := fun zz h1 h2 => hJ 1 zz rfl h1 h2
    have mkI : ∀ (i' : Nat) (l' d' : Int) (r' : Bool), i' ≤ (eStp.list (eStp.row st) 0 st.length).length → tellGo ((eStp.list (eStp.row st) 0 st.length).drop i') l' d' r' = tellGo (eStp.list (eStp.row st) 0 st.length) 1 1 (decide (0 < (eStp.list (eStp.row st) 0 st.length).length)) → 0 ≤ l' → l' ≤ i' + 1 → 0 ≤ d' → d' ≤ i' + 1 → (tlL [] 0 0 0 st).inv 1 ⟨i', l', d', r'⟩ := by
      intro i' l' d' r' q1 q2 q3 q4 q5 q6
      rw [hcan] at q1 q2; exact ⟨q1, q2, q3, q4, q5, q6⟩
    have hlaw := tell_law (eStp.list (eStp.row st) 0 st.length) (by omega)
    generalize hL : (eStp.list (eStp.row st) 0 st.length) = L at *
    by_cases hin : i < st.length
    · have hiL : i < L.length := by omega
      rcases hs : L[i] with ⟨s, p, a⟩
      have hget : L[i]? = some ⟨s, p, a⟩ := by rw [List.getElem?_eq_getElem hiL, hs]
      have hdrop : L.drop i = ⟨s, p, a⟩ :: L.drop (i + 1) := by rw [List.drop_eq_getElem_cons hiL, hs]
      have hrd := hread i s p a hget
      have hlt : decide ((i : Int) < (st.length : Nat)) = true := decide_eq_true (by omega)
      rw [hdrop] at k2
      simp only [tellGo] at k2
      by_cases hb : l = 0 ∨ rightS ⟨s, p, a⟩ = false
      · rw [if_pos hb] at k2
        have hd0 : deepI L = 0 := (hlaw _ _ _ k2.symm).2 (by simp)
        have hdI : deepI (eStp.list (eStp.row st) 0 st.length) = 0 := by rw [hL]; exact hd0
        have hdD : decide (deepI (eStp.list (eStp.row st) 0 st.length) > 0) = false := by rw [hdI]; rfl
        have hsn : sumsI (Bx.mk 0 0 0 0 0 0 0 0 0 0) (eStp.list (eStp.row st) 0 st.length) = none := by rw [hL]; exact sums_none' _ hd0
        by_cases hz : l = 0
        · have hl0 : (l == (0 : Int)) = true := by rw [hz]; rfl
          exact tb10 st i l d r p a s J hE ⟨⟨rfl, rfl⟩, rfl, (congrArg _ hdI), hpR, hrow, (congrArg _ hdD), hpR, hrow, hpR, hrow, h0box, hsn, (congrArg _ hl0), hrd, ⟨Int.natCast_nonneg _, Int.ofNat_lt.2 hin⟩, hlt, trivial⟩
        have hl0 : (l == (0 : Int)) = false := by simpa using hz
        have hrf : rightS ⟨s, p, a⟩ = false := hb.resolve_left hz
        cases s with
        | true =>
          by_cases hp : p = 0
          · have hp0 : (p != (0 : Int)) = false := by rw [hp]; rfl
            have ha : a ≠ 0 := fun h => by simp [rightS, hp, h] at hrf
            have ha0 : (a != (0 : Int)) = true := by simpa using ha
            exact tb1A st i l d r p a J hE ⟨⟨rfl, rfl⟩, rfl, (congrArg _ hdI), hpR, hrow, (congrArg _ hdD), hpR, hrow, hpR, hrow, h0box, hsn, (congrArg _ ha0), (congrArg _ hp0), (congrArg _ hl0), hrd, ⟨Int.natCast_nonneg _, Int.ofNat_lt.2 hin⟩, hlt, trivial⟩
          · have hp0 : (p != (0 : Int)) = true := by simpa using hp
            exact tb1P st i l d r p a J hE ⟨⟨rfl, rfl⟩, rfl, (congrArg _ hdI), hpR, hrow, (congrArg _ hdD), hpR, hrow, hpR, hrow, h0box, hsn, (congrArg _ hp0), (congrArg _ hl0), hrd, ⟨Int.natCast_nonneg _, Int.ofNat_lt.2 hin⟩, hlt, trivial⟩
        | false =>
          by_cases hp : p < 0
          · have hpn : decide (p < 0) = true := decide_eq_true hp
            exact tb1L st i l d r p a J hE ⟨⟨rfl, rfl⟩, rfl, (congrArg _ hdI), hpR, hrow, (congrArg _ hdD), hpR, hrow, hpR, hrow, h0box, hsn, (congrArg _ hpn), (congrArg _ hl0), hrd, ⟨Int.natCast_nonneg _, Int.ofNat_lt.2 hin⟩, hlt, trivial⟩
          · have hpn : decide (p < 0) = false := decide_eq_false hp
            have hp5 : p > 4 := by
              by_cases h : p > 4
              · exact h
              · exfalso
                have q1 : (0 : Int) ≤ p := by omega
                have q2 : p ≤ 4 := by omega
                simp [rightS, q1, q2] at hrf
            have hp4 : decide (p > 4) = true := decide_eq_true hp5
            exact tb1H st i l d r p a J hE ⟨⟨rfl, rfl⟩, rfl, (congrArg _ hdI), hpR, hrow, (congrArg _ hdD), hpR, hrow, hpR, hrow, h0box, hsn, (congrArg _ hp4), (congrArg _ hpn), (congrArg _ hl0), hrd, ⟨Int.natCast_nonneg _, Int.ofNat_lt.2 hin⟩, hlt, trivial⟩
      · rw [if_neg hb] at k2
        have hz : l ≠ 0 := fun h => hb (Or.inl h)
        have hl0 : (l == (0 : Int)) = false := by simpa using hz
        have hrt : rightS ⟨s, p, a⟩ = true := by
          cases h : rightS ⟨s, p, a⟩ with
          | true => rfl
          | false => exact absurd (Or.inr h) hb
        have hdl : (L.drop (i + 1)).length = L.length - (i + 1) := by simp
        cases s with
        | true =>
          simp only [if_true] at k2
          have hpa : p = 0 ∧ a = 0 := by simpa [rightS] using hrt
          have hp0 : (p != (0 : Int)) = false := by rw [hpa.1]; rfl
          have ha0 : (a != (0 : Int)) = false := by rw [hpa.2]; rfl
          by_cases hm : i + 1 < st.length
          · have hmore : decide (((i + 1 : Nat) : Int) < (st.length : Nat)) = true := decide_eq_true (by omega)
            have e1 : decide (0 < (L.drop (i + 1)).length ∨ l - 1 = 0) = true := decide_eq_true (Or.inl (by omega))
            rw [e1] at k2
            have hI := mkI (i + 1) (l - 1) (max d (l - 1)) true (by omega) k2 (by omega) (by omega) (by omega) (by omega)
            have hmu : ltO ((tlL [] 0 0 0 st).mu 1 ⟨i + 1, l - 1, max d (l - 1), true⟩) (some (st.length - i)) := by simp only [tlL, ltO]; omega
            exact tg1S1 st i l d r true p a J hE okL ⟨rfl, ⟨_, hI, hmu, rfl, by simp [tlL, rnr]⟩, (i64_succ (by omega)), (congrArg _ hmore), (i64_succ (by omega)), (congrArg _ (maxI_eq _ _)), (i64_id rfl (by omega) (by omega)), (congrArg _ ha0), (congrArg _ hp0), (congrArg _ hl0), hrd, ⟨Int.natCast_nonneg _, Int.ofNat_lt.2 hin⟩, hlt, trivial⟩ hJ'
          · have hmore : decide (((i + 1 : Nat) : Int) < (st.length : Nat)) = false := decide_eq_false (by omega)
            have e1 : decide (0 < (L.drop (i + 1)).length ∨ l - 1 = 0) = (l - 1 == 0) := by
              rw [Bool.eq_iff_iff]
              simp only [decide_eq_true_eq, beq_iff_eq]
              omega
            rw [e1] at k2
            have hI := mkI (i + 1) (l - 1) (max d (l - 1)) _ (by omega) k2 (by omega) (by omega) (by omega) (by omega)
            have hmu : ltO ((tlL [] 0 0 0 st).mu 1 ⟨i + 1, l - 1, max d (l - 1), l - 1 == 0⟩) (some (st.length - i)) := by simp only [tlL, ltO]; omega
            exact tg1S0 st i l d r (l - 1 == 0) p a J hE okL ⟨rfl, ⟨_, hI, hmu, rfl, by simp [tlL, rnr]⟩, (i64_succ (by omega)), rfl, (congrArg _ hmore), (i64_succ (by omega)), (congrArg _ (maxI_eq _ _)), (i64_id rfl (by omega) (by omega)), (congrArg _ ha0), (congrArg _ hp0), (congrArg _ hl0), hrd, ⟨Int.natCast_nonneg _, Int.ofNat_lt.2 hin⟩, hlt, trivial⟩ hJ'
        | false =>
          simp only [Bool.false_eq_true, if_false] at k2
          have hpa : 0 ≤ p ∧ p ≤ 4 := by simpa [rightS] using hrt
          have hpn : decide (p < 0) = false := decide_eq_false (by omega)
          have hp4 : decide (p > 4) = false := decide_eq_false (by omega)
          by_cases hm : i + 1 < st.length
          · have hmore : decide (((i + 1 : Nat) : Int) < (st.length : Nat)) = true := decide_eq_true (by omega)
            have e1 : decide (0 < (L.drop (i + 1)).length ∨ l + 1 = 0) = true := decide_eq_true (Or.inl (by omega))
            rw [e1] at k2
            have hI := mkI (i + 1) (l + 1) (max d (l + 1)) true (by omega) k2 (by omega) (by omega) (by omega) (by omega)
            have hmu : ltO ((tlL [] 0 0 0 st).mu 1 ⟨i + 1, l + 1, max d (l + 1), true⟩) (some (st.length - i)) := by simp only [tlL, ltO]; omega
            exact tg1C1 st i l d r true p a J hE okL ⟨rfl, ⟨_, hI, hmu, rfl, by simp [tlL, rnr]⟩, (i64_succ (by omega)), (congrArg _ hmore), (i64_succ (by omega)), (congrArg _ (maxI_eq _ _)), (i64_id rfl (by omega) (by omega)), (congrArg _ hp4), (congrArg _ hpn), (congrArg _ hl0), hrd, ⟨Int.natCast_nonneg _, Int.ofNat_lt.2 hin⟩, hlt, trivial⟩ hJ'
          · have hmore : decide (((i + 1 : Nat) : Int) < (st.length : Nat)) = false := decide_eq_false (by omega)
            have e1 : decide (0 < (L.drop (i + 1)).length ∨ l + 1 = 0) = (l + 1 == 0) := by
              rw [Bool.eq_iff_iff]
              simp only [decide_eq_true_eq, beq_iff_eq]
              omega
            rw [e1] at k2
            have hI := mkI (i + 1) (l + 1) (max d (l + 1)) _ (by omega) k2 (by omega) (by omega) (by omega) (by omega)
            have hmu : ltO ((tlL [] 0 0 0 st).mu 1 ⟨i + 1, l + 1, max d (l + 1), l + 1 == 0⟩) (some (st.length - i)) := by simp only [tlL, ltO]; omega
            exact tg1C0 st i l d r (l + 1 == 0) p a J hE okL ⟨rfl, ⟨_, hI, hmu, rfl, by simp [tlL, rnr]⟩, (i64_succ (by omega)), rfl, (congrArg _ hmore), (i64_succ (by omega)), (congrArg _ (maxI_eq _ _)), (i64_id rfl (by omega) (by omega)), (congrArg _ hp4), (congrArg _ hpn), (congrArg _ hl0), hrd, ⟨Int.natCast_nonneg _, Int.ofNat_lt.2 hin⟩, hlt, trivial⟩ hJ'
    · have hlt : decide ((i : Int) < (st.length : Nat)) = false := decide_eq_false (by omega)
      have hdl : L.drop i = [] := by rw [List.drop_eq_nil_iff]; omega
      rw [hdl] at k2
      simp only [tellGo] at k2
      have hl := hlaw _ _ _ k2.symm
      by_cases hgood : r = true ∧ d ≤ 200
      · obtain ⟨hd1, hd2⟩ := hl.1 hgood
        obtain ⟨rfl, hd200⟩ := hgood
        have hdI : deepI (eStp.list (eStp.row st) 0 st.length) = d := by rw [hL]; exact hd1
        have hdD : decide (deepI (eStp.list (eStp.row st) 0 st.length) > 0) = true := by rw [hdI]; exact decide_eq_true hd2
        have h200 : decide (d ≤ 200) = true := decide_eq_true hd200
        cases hsu : sumsI (Bx.mk 0 0 0 0 0 0 0 0 0 0) (eStp.list (eStp.row st) 0 st.length) with
        | none =>
          have hsn := hsu
          exact te1N st i l d J hE ⟨⟨rfl, rfl⟩, (congrArg _ (beq_self_eq_true d)), (congrArg _ hdI), hpR, hrow, (congrArg _ hdD), hpR, hrow, hpR, hrow, h0box, hsn, (congrArg _ h200), hlt, trivial⟩
        | some R =>
          have hss := hsu
          exact te1S st i l d R J hE ⟨⟨rfl, rfl⟩, (congrArg _ (beq_self_eq_true d)), (congrArg _ hdI), hpR, hrow, (congrArg _ hdD), hpR, hrow, hpR, hrow, h0box, hss, (congrArg _ h200), hlt, trivial⟩
      · have hd0 : deepI L = 0 := hl.2 hgood
        have hdI : deepI (eStp.list (eStp.row st) 0 st.length) = 0 := by rw [hL]; exact hd0
        have hdD : decide (deepI (eStp.list (eStp.row st) 0 st.length) > 0) = false := by rw [hdI]; rfl
        have hsn : sumsI (Bx.mk 0 0 0 0 0 0 0 0 0 0) (eStp.list (eStp.row st) 0 st.length) = none := by rw [hL]; exact sums_none' _ hd0
        cases r with
        | true =>
          have h200 : decide (d ≤ 200) = false := decide_eq_false fun h => hgood ⟨rfl, h⟩
          exact te1D st i l d J hE ⟨⟨rfl, rfl⟩, rfl, (congrArg _ hdI), hpR, hrow, (congrArg _ hdD), hpR, hrow, hpR, hrow, h0box, hsn, (congrArg _ h200), hlt, trivial⟩
        | false => exact te1F st i l d J hE ⟨⟨rfl, rfl⟩, rfl, (congrArg _ hdI), hpR, hrow, (congrArg _ hdD), hpR, hrow, hpR, hrow, h0box, hsn, hlt, trivial⟩
  intro zz hz
  have := loop_sat (E := E) (k := ((lp Try.f4 0)).2) (c := ((lp Try.f4 0)).1) (onlyL (tlL [] 0 0 0 st) 1) (fun b i hb J hJ => by
    obtain ⟨rfl, hb⟩ := hb
    exact key i hb J (fun b' i' e h1 h2 => hJ b' i' ⟨e, h1⟩ (by subst e; exact h2)))
  exact this 1 zz ⟨rfl, hz⟩

end Go.Proofs.Ytoeehjfblpmljaa.PrA


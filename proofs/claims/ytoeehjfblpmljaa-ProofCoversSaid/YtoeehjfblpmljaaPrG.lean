/-
  proof.Sums: what it hands back. No condition.
-/
import Derived.Test.YtoeehjfblpmljaaPrF
set_option linter.unusedVariables false
set_option linter.unusedSimpArgs false
set_option maxRecDepth 100000
namespace Go.Proofs.Ytoeehjfblpmljaa.PrA
open Go Go.RowKit Go.Proofs.Ytoeehjfblpmljaa.Ev Go.Proofs.Ytoeehjfblpmljaa.PickE Go.Proofs.Ytoeehjfblpmljaa.BoxF
/-- What Sums hands back: nothing, or a row. -/
def sumsV : Option (List Bx) → Value
  | none => .tuple ⟨[.slice none 0 0, .bool false]⟩
  | some out => .tuple ⟨[.slice (some ⟨100, 0, none⟩) out.length mk, .bool true]⟩
def sumsB : Option (List Bx) → List Blk
  | none => []
  | some out => [.vec (eBox.row out) 31 10]
theorem deepGo_some {l : List Stp} {a m : Int} (h : deepI l > 0) : ∃ m, deepGo l 1 1 = some (0, m) := by
  unfold deepI at h
  split at h
  · omega
  · cases hg : deepGo l 1 1 with
    | none => rw [hg] at h; simp [deepR] at h
    | some x =>
      obtain ⟨u, v⟩ := x
      rw [hg] at h
      simp only [deepR] at h
      split at h
      · rename_i hx; exact ⟨v, by rw [hx.1]⟩
      · omega
theorem boxRow_len (l : List Bx) : (eBox.row l).length = l.length * 10 := Elt.row_len l
theorem sums_spec (cs : List Value) (off n c : Nat) (b : Bx) (hr : eStp.Row cs off n) (hpl : ∀ x ∈ cs, leafG x = true) (hb : b.I64s) :
    CallSpec Try.prog 8 [.agg ⟨b.cs⟩, .slice (some ⟨0, off, none⟩) n c] (roRows [cs]) 1 (sumsV (sumsI b (eStp.list cs off n))) (assocN (newNs (sumsB (sumsI b (eStp.list cs off n))) 100) (sumsB (sumsI b (eStp.list cs off n)))) := by
  refine spec_of_sat Try.func8 rfl fun E hE => ?_
  have hlen : (eStp.list cs off n).length = n := Elt.list_len cs off n
  have hplR : plainR [cs] := fun x hx c hc => by simp at hx; subst hx; exact hpl c hc
  have hread : ∀ (i : Nat) (s : Bool) (p a : Int), (eStp.list cs off n)[i]? = some ⟨s, p, a⟩ → readPart Try.prog 23 cs (off + ((i : Int)).toNat * 3) = some (.agg ⟨[.bool s, .int .i64 p, .int .i64 a]⟩) := fun i s p a h =>
    hr.read (P := Try.prog) (ty := 23) (by kernel_rfl) (by kernel_rfl) (i := i) h
  generalize hL : eStp.list cs off n = L at *
  by_cases hd : ¬ deepI L > 0
  · have e : sumsI b L = none := if_neg hd
    rw [e] at hE
    exact suW cs off n c b hE ⟨⟨rfl, rfl⟩, by rw [hL, decide_eq_false hd]; rfl, hplR, hr, trivial⟩
  have hd := Decidable.not_not.1 hd
  have hlong : n ≤ 65536 := by
    rcases Nat.lt_or_ge 65536 n with h | h
    · exfalso
      unfold deepI at hd
      rw [if_pos (by omega)] at hd
      omega
    · exact h
  obtain ⟨mm, hmm⟩ := deepGo_some (a := 0) (m := 0) hd
  have eS : sumsI b L = sumsGo L [b] [] := if_pos hd
  have okL := sumsL_ok cs off n c b hpl
  refine suIn cs off n c b hE okL ⟨rfl, ⟨⟨0, [b], [], []⟩, ?_, trivial, rfl, ?_⟩, by rw [hL, decide_eq_true hd]; rfl, hplR, hr, trivial⟩ fun zz hz _ => by_loop (sumsL cs off n c b) (lp Try.f8 0) ?_ 0 zz hz
  · simp only [sumsL, hL]
    exact ⟨Nat.zero_le _, hlong, ⟨1, rfl⟩, Nat.le_refl _, Nat.le_refl _, by simpa using hb, rfl, by simp⟩
  · simp [sumsL, Blk.plain.rnB (b := .ro cs) hpl, Blk.plain.rnB (b := .vec (eBox.row [b]) 31 10) (Elt.row_pl _)]
    rfl
  have rnv : ∀ (f : Nat → Nat) (l : List Bx), Blk.rnB f (.vec (eBox.row l) 31 10) = .vec (eBox.row l) 31 10 := fun f l => Blk.plain.rnB (b := .vec (eBox.row l) 31 10) (Elt.row_pl _) f
  have rnr : ∀ (f : Nat → Nat), Blk.rnB f (.ro cs) = .ro cs := fun f => Blk.plain.rnB (b := .ro cs) hpl f
  rintro z ⟨i, stk, junk, out⟩ hi J hJ
  have hz : ∃ z', (z' = 0 ∨ z' = 1) ∧ (sumsL cs off n c b).st z ⟨i, stk, junk, out⟩ = (sumsL cs off n c b).st z' ⟨i, stk, junk, out⟩ ∧ (sumsL cs off n c b).inv z' ⟨i, stk, junk, out⟩ := by
    match z with
    | 0 => exact ⟨0, Or.inl rfl, rfl, hi⟩
    | z + 1 => exact ⟨1, Or.inr rfl, rfl, hi⟩
  obtain ⟨z', hz', hst, hinv⟩ := hz
  rw [hst]
  have hJ' : ∀ b' zz, (sumsL cs off n c b).inv b' zz → ltO ((sumsL cs off n c b).mu b' zz) (some (n - i)) → Sat E (mkLp (lp Try.f8 0) J) ((sumsL cs off n c b).st b' zz) := fun b' zz h1 h2 => hJ b' zz h1 h2
  clear hJ hst hi
  obtain ⟨k1, _, ⟨m, k3⟩, k4, k5, k6, k7, k8⟩ := hinv
  simp only [hL] at k1 k3 k4 k5 k6 k7
  by_cases hin : i < n
  · have hiL : i < L.length := by omega
    rcases hs : L[i] with ⟨s, p, a⟩
    have hget : L[i]? = some ⟨s, p, a⟩ := by rw [List.getElem?_eq_getElem hiL, hs]
    have hdrop : L.drop i = ⟨s, p, a⟩ :: L.drop (i + 1) := by rw [List.drop_eq_getElem_cons hiL, hs]
    have hrd := hread i s p a hget
    have hlt : decide ((i : Int) < (n : Int)) = true := decide_eq_true (by omega)
    rw [hdrop] at k3 k7
    simp only [deepGo] at k3
    have hgood : ¬ ((stk.length : Int) = 0 ∨ rightS ⟨s, p, a⟩ = false) := fun h => by
      rw [if_pos h, hmm] at k3
      exact absurd k3 (by simp)
    rw [if_neg hgood] at k3
    have hne : stk ≠ [] := fun h => hgood (Or.inl (by rw [h]; rfl))
    obtain ⟨⟨a0, b0, a1, b1, a2, b2, a3, b3, a4, b4⟩, stk', rfl⟩ : ∃ x stk', stk = x :: stk' := by
      cases stk with
      | nil => exact absurd rfl hne
      | cons x stk' => exact ⟨x, stk', rfl⟩
    simp only [List.length_cons] at k4
    have hrs : rightS ⟨s, p, a⟩ = true := by cases h : rightS ⟨s, p, a⟩ with
      | true => rfl
      | false => exact absurd (Or.inr h) hgood
    have hpop : readPart Try.prog 31 (eBox.row ((Bx.mk a0 b0 a1 b1 a2 b2 a3 b3 a4 b4 :: stk').reverse ++ junk)) (0 + (Int.ofNat stk'.length).toNat * 10) = some (.agg ⟨(Bx.mk a0 b0 a1 b1 a2 b2 a3 b3 a4 b4).cs⟩) :=
      read_row (e := eBox) (P := Try.prog) (ty := 31) (by kernel_rfl) (by kernel_rfl) (by simp)
    have hsl : SlOK 10 11 0 (Bx.mk a0 b0 a1 b1 a2 b2 a3 b3 a4 b4 :: stk').length mk none (some (Int.ofNat stk'.length)) (some (.vec (eBox.row ((Bx.mk a0 b0 a1 b1 a2 b2 a3 b3 a4 b4 :: stk').reverse ++ junk)) 31 10)) (.slice (some ⟨11, 0, none⟩) stk'.length mk) :=
      slOK_pre rfl (by simp) (by omega) (by rw [boxRow_len]; simp; omega)
    have ix := k6 _ (List.mem_cons_self ..)
    have istk : ∀ x ∈ stk', x.I64s := fun x hx => k6 x (List.mem_cons_of_mem _ hx)
    cases s with
    | true =>
      simp only [if_true] at k3
      simp only [sumsGo, if_true] at k7
      have hI : (sumsL cs off n c b).inv 1 ⟨i + 1, stk', Bx.mk a0 b0 a1 b1 a2 b2 a3 b3 a4 b4 :: junk, out ++ [Bx.mk a0 b0 a1 b1 a2 b2 a3 b3 a4 b4]⟩ := by
        simp only [sumsL, hL]
        refine ⟨by omega, hlong, ⟨m, ?_⟩, by omega, by simp; omega, istk, k7, by simp⟩
        rw [← k3]; congr 1; simp
      have hmu : ltO ((sumsL cs off n c b).mu 1 ⟨i + 1, stk', Bx.mk a0 b0 a1 b1 a2 b2 a3 b3 a4 b4 :: junk, out ++ [Bx.mk a0 b0 a1 b1 a2 b2 a3 b3 a4 b4]⟩) (some (n - i)) := by simp only [sumsL, ltO]; omega
      rcases hz' with rfl | rfl
      · obtain ⟨rfl, _⟩ := k8
        refine suSum0 cs off n c b a0 b0 a1 b1 a2 b2 a3 b3 a4 b4 p a i stk' junk [] J hE okL ⟨rfl, ⟨_, hI, hmu, rfl, ?_⟩, i64_succ (by omega), ?_, rfl, hsl, hpop, nat_in, i64_pred (by omega), hrd, by omega, hlt, trivial⟩ fun zz hz hz' => hJ' 1 zz hz hz'
        · simp [sumsL, rnv, rnr]
        · exact appOK_nil (e := eBox) (new := [Bx.mk a0 b0 a1 b1 a2 b2 a3 b3 a4 b4]) rfl rfl rfl rfl (by omega) (by omega) (by omega)
      · refine suSum1 cs off n c b a0 b0 a1 b1 a2 b2 a3 b3 a4 b4 p a i stk' junk out J hE okL ⟨rfl, ⟨_, hI, hmu, ?_, ?_⟩, i64_succ (by omega), ?_, rfl, hsl, hpop, nat_in, i64_pred (by omega), hrd, by omega, hlt, trivial⟩ fun zz hz hz' => hJ' 1 zz hz hz'
        · simp [sumsL]; exact ⟨rfl, rfl, rfl, rfl, rfl⟩
        · simp [sumsL, rnv, rnr]
        · exact appOK (e := eBox) (L := out) (new := [Bx.mk a0 b0 a1 b1 a2 b2 a3 b3 a4 b4]) rfl rfl rfl rfl (Nat.le_refl _) (by rw [List.take_length]) (by omega) (by omega) (by omega)
    | false =>
      simp only [Bool.false_eq_true, if_false] at k3
      simp only [sumsGo, Bool.false_eq_true, if_false] at k7
      have hp0 : 0 ≤ p ∧ p < 5 := by
        simp [rightS] at hrs
        omega
      have rlo := lo_read (Bx.mk a0 b0 a1 b1 a2 b2 a3 b3 a4 b4) hp0.1 hp0.2
      have rhi := hi_read (Bx.mk a0 b0 a1 b1 a2 b2 a3 b3 a4 b4) hp0.1 hp0.2
      by_cases hbad : a < (Bx.mk a0 b0 a1 b1 a2 b2 a3 b3 a4 b4).lo p
      · have e : sumsI b L = none := by rw [eS, ← k7, if_pos (Or.inl hbad)]
        rw [e] at hE
        have t1 := decide_eq_true hbad
        have t2 : (decide (a < (Bx.mk a0 b0 a1 b1 a2 b2 a3 b3 a4 b4).lo p) == false) = false := by rw [t1]; rfl
        rcases hz' with rfl | rfl
        · exact suBadA0 cs off n c b a0 b0 a1 b1 a2 b2 a3 b3 a4 b4 p a i stk' junk out J hE ⟨⟨rfl, rfl⟩, t1, t2, t2, t2, t2, t2, t2, t2, t2, rlo, hp0, rfl, hsl, hpop, nat_in, i64_pred (by omega), hrd, by omega, hlt, trivial⟩
        · exact suBadA1 cs off n c b a0 b0 a1 b1 a2 b2 a3 b3 a4 b4 p a i stk' junk out J hE ⟨⟨rfl, rfl⟩, t1, t2, t2, t2, t2, t2, t2, t2, t2, rlo, hp0, rfl, hsl, hpop, nat_in, i64_pred (by omega), hrd, by omega, hlt, trivial⟩
      have t1 := decide_eq_false hbad
      have t2 : (decide (a < (Bx.mk a0 b0 a1 b1 a2 b2 a3 b3 a4 b4).lo p) == false) = true := by rw [t1]; rfl
      by_cases hbad2 : a ≥ (Bx.mk a0 b0 a1 b1 a2 b2 a3 b3 a4 b4).hi p
      · have e : sumsI b L = none := by rw [eS, ← k7, if_pos (Or.inr hbad2)]
        rw [e] at hE
        have t3 := decide_eq_true hbad2
        rcases hz' with rfl | rfl
        · exact suBadB0 cs off n c b a0 b0 a1 b1 a2 b2 a3 b3 a4 b4 p a i stk' junk out J hE ⟨⟨rfl, rfl⟩, t3, t1, t2, t2, rhi, t2, t2, hp0, t2, t2, t2, t2, rlo, hp0, rfl, hsl, hpop, nat_in, i64_pred (by omega), hrd, by omega, hlt, trivial⟩
        · exact suBadB1 cs off n c b a0 b0 a1 b1 a2 b2 a3 b3 a4 b4 p a i stk' junk out J hE ⟨⟨rfl, rfl⟩, t3, t1, t2, t2, rhi, t2, t2, hp0, t2, t2, t2, t2, rlo, hp0, rfl, hsl, hpop, nat_in, i64_pred (by omega), hrd, by omega, hlt, trivial⟩
      have t3 := decide_eq_false hbad2
      rw [if_neg (fun h => h.elim hbad hbad2)] at k7
      obtain ⟨c1, c2⟩ := cut_in (Bx.mk a0 b0 a1 b1 a2 b2 a3 b3 a4 b4) (a := a) hp0.1 hp0.2 (by omega) (by omega)
      obtain ⟨s1, s2, s3⟩ := i64s_set (Bx.mk a0 b0 a1 b1 a2 b2 a3 b3 a4 b4) (p := p) (a := a) ix hp0.1 hp0.2 (by omega) (by omega)
      rw [← c1] at s1
      rw [← c2] at s2
      have hI : (sumsL cs off n c b).inv z' ⟨i + 1, (Bx.mk a0 b0 a1 b1 a2 b2 a3 b3 a4 b4).low p a :: (Bx.mk a0 b0 a1 b1 a2 b2 a3 b3 a4 b4).high p a :: stk', [], out⟩ := by
        simp only [sumsL, hL]
        refine ⟨by omega, hlong, ⟨max m ((stk'.length : Int) + 1 + 1), ?_⟩, by simp; omega, by omega, ?_, k7, ?_⟩
        · rw [← k3]; simp
        · intro x hx
          simp at hx
          rcases hx with rfl | rfl | hx
          · exact s1
          · exact s2
          · exact istk x hx
        · rcases hz' with rfl | rfl
          · exact ⟨k8.1, by simp⟩
          · exact k8
      have hmu : ltO ((sumsL cs off n c b).mu z' ⟨i + 1, (Bx.mk a0 b0 a1 b1 a2 b2 a3 b3 a4 b4).low p a :: (Bx.mk a0 b0 a1 b1 a2 b2 a3 b3 a4 b4).high p a :: stk', [], out⟩) (some (n - i)) := by simp only [sumsL, ltO]; omega
      obtain ⟨⟨_, q1⟩, ⟨_, q2⟩, ⟨_, q3⟩, ⟨_, q4⟩, ⟨_, q5⟩, ⟨_, q6⟩, ⟨_, q7⟩, ⟨_, q8⟩, ⟨_, q9⟩, ⟨_, q10⟩⟩ := ix
      have happ : AppOK (some (.vec (eBox.row ((Bx.mk a0 b0 a1 b1 a2 b2 a3 b3 a4 b4 :: stk').reverse ++ junk)) 31 10)) stk'.length mk 10 80 2 (eBox.row [(Bx.mk a0 b0 a1 b1 a2 b2 a3 b3 a4 b4).high p a, (Bx.mk a0 b0 a1 b1 a2 b2 a3 b3 a4 b4).low p a]) 0 (eBox.row (stk'.reverse ++ [(Bx.mk a0 b0 a1 b1 a2 b2 a3 b3 a4 b4).high p a, (Bx.mk a0 b0 a1 b1 a2 b2 a3 b3 a4 b4).low p a])) :=
        appOK (e := eBox) rfl rfl rfl rfl (by simp only [List.length_append, List.length_reverse, List.length_cons]; omega) (by congr 2; simp) (by omega) (by omega) (by omega)
      rcases hz' with rfl | rfl
      · refine suCut0 cs off n c b a0 b0 a1 b1 a2 b2 a3 b3 a4 b4 p a i stk' junk out J hE okL ?_ fun zz hz hz' => hJ' 0 zz hz hz'
        exact ⟨rfl, ⟨_, hI, hmu, by simp [sumsL]; exact ⟨rfl, rfl, rfl, rfl, rfl⟩, by simp [sumsL, rnv, rnr]⟩, i64_succ (by omega), happ, s3, q2, q4, q6, q8, q10, t3, t1, t2, t2, rhi, t2, t2, hp0, t2, t2, t2, t2, rlo, hp0, rfl, hsl, hpop, nat_in, i64_pred (by omega), hrd, by omega, hlt, trivial⟩
      · refine suCut1 cs off n c b a0 b0 a1 b1 a2 b2 a3 b3 a4 b4 p a i stk' junk out J hE okL ?_ fun zz hz hz' => hJ' 1 zz hz hz'
        exact ⟨rfl, ⟨_, hI, hmu, by simp [sumsL]; exact ⟨rfl, rfl, rfl, rfl, rfl⟩, by simp [sumsL, rnv, rnr]⟩, i64_succ (by omega), happ, s3, q2, q4, q6, q8, q10, t3, t1, t2, t2, rhi, t2, t2, hp0, t2, t2, t2, t2, rlo, hp0, rfl, hsl, hpop, nat_in, i64_pred (by omega), hrd, by omega, hlt, trivial⟩
  · have hi' : i = n := by omega
    have hlt : decide ((i : Int) < (n : Int)) = false := decide_eq_false (by omega)
    have hdl : L.drop i = [] := by rw [List.drop_eq_nil_iff]; omega
    rw [hdl] at k3 k7
    simp only [deepGo] at k3
    simp only [sumsGo] at k7
    rw [hmm] at k3
    have hl0 : stk = [] := List.eq_nil_of_length_eq_zero (by
      simp only [Option.some.injEq, Prod.mk.injEq] at k3
      omega)
    rcases hz' with rfl | rfl
    · exact absurd hl0 k8.2
    · have e : sumsI b L = some out := by rw [eS, ← k7]
      rw [e] at hE
      exact suEnd cs off n c b i stk junk out J hE ⟨⟨rfl, by simp [rnv]⟩, hlt, trivial⟩
/-- What Sums hands back is told ahead. -/
def sums_F (R : Option (List Bx)) : RoF := fun xs css => match xs, css with
  | [.agg ⟨[.int .i64 a0, .int .i64 b0, .int .i64 a1, .int .i64 b1, .int .i64 a2, .int .i64 b2, .int .i64 a3, .int .i64 b3, .int .i64 a4, .int .i64 b4]⟩, .slice none 0 0], [] => some (sumsV none, [], [])
  | [.agg ⟨[.int .i64 a0, .int .i64 b0, .int .i64 a1, .int .i64 b1, .int .i64 a2, .int .i64 b2, .int .i64 a3, .int .i64 b3, .int .i64 a4, .int .i64 b4]⟩, .slice (some ⟨0, off, none⟩) n c], [cs] =>
    some (sumsV R, sumsB R, [eStp.Row cs off n, (Bx.mk a0 b0 a1 b1 a2 b2 a3 b3 a4 b4).I64s, sumsI (Bx.mk a0 b0 a1 b1 a2 b2 a3 b3 a4 b4) (eStp.list cs off n) = R])
  | _, _ => none
theorem sums_sum (R : Option (List Bx)) : SumOK Try.prog 8 (roSum (sums_F R)) := by
  refine roSum_ok (en Try.func8 rfl) ?_ (fun xs css r h => ?_)
  · intro xs css v blks ob h hob hpl hl
    unfold sums_F at h
    split at h
    · rename_i a0 b0 a1 b1 a2 b2 a3 b3 a4 b4
      simp only [Option.some.injEq, Prod.mk.injEq] at h
      obtain ⟨rfl, rfl, rfl⟩ := h
      refine ⟨by simp, by simp, fun j hj => by simp [sumsV, nms, nmL, nm1, nm0] at hj, ?_⟩
      exact spec_of_sat Try.func8 rfl fun E hE => suN ⟨a0, b0, a1, b1, a2, b2, a3, b3, a4, b4⟩ hE ⟨⟨rfl, rfl⟩, by intro x hx; simp at hx, trivial⟩
    · rename_i a0 b0 a1 b1 a2 b2 a3 b3 a4 b4 off n c cs
      simp only [Option.some.injEq, Prod.mk.injEq] at h
      obtain ⟨rfl, rfl, rfl⟩ := h
      have h1 := hob (eStp.Row cs off n) (by simp)
      have h2 := hob ((Bx.mk a0 b0 a1 b1 a2 b2 a3 b3 a4 b4).I64s) (by simp)
      have h3 := hob (sumsI (Bx.mk a0 b0 a1 b1 a2 b2 a3 b3 a4 b4) (eStp.list cs off n) = R) (by simp)
      have := sums_spec cs off n c ⟨a0, b0, a1, b1, a2, b2, a3, b3, a4, b4⟩ h1 (hpl cs (by simp)) h2
      rw [h3] at this
      refine ⟨?_, ?_, ?_, this⟩
      · cases R <;> simp [sumsB]
      · cases R with
        | none => simp [sumsB]
        | some out =>
          intro x hx
          simp [sumsB] at hx
          subst hx
          exact ⟨Elt.row_pl _, rfl⟩
      · cases R with
        | none => intro j hj; simp [sumsV, nms, nmL, nm1, nm0] at hj
        | some out =>
          intro j hj
          simp [sumsV, nms, nmL, nm1, nm0] at hj
          subst hj
          right
          simp [sumsB]
    · simp at h
  · unfold sums_F at h
    split at h <;> simp at h <;> simp
noncomputable def t_sums (R : Option (List Bx)) : Sums := upd t_Deep 8 (some (roSum (sums_F R)))
theorem t_sums_ok (R : Option (List Bx)) : SumsOK Try.prog (t_sums R) := sums_cons t_Deep_ok (sums_sum R)
end Go.Proofs.Ytoeehjfblpmljaa.PrA


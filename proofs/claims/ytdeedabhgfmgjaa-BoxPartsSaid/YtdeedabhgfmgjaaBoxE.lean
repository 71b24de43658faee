/-
  What the functions of the package box compute, by the evaluator.
-/
import Derived.Test.YtdeedabhgfmgjaaSizeE
set_option linter.unusedVariables false
set_option linter.unusedSimpArgs false
set_option maxRecDepth 100000
namespace Go.Proofs.Ytdeedabhgfmgjaa.SpanE
open Go Go.RowKit Go.Proofs.Ytdeedabhgfmgjaa.Ev Go.Proofs.Ytdeedabhgfmgjaa.Within
abbrev bx (a0 a1 a2 a3 a4 a5 a6 a7 a8 a9 : Int) : Value := .agg ⟨[i64 a0, i64 a1, i64 a2, i64 a3, i64 a4, i64 a5, i64 a6, i64 a7, i64 a8, i64 a9]⟩
abbrev pt (p0 p1 p2 p3 : Int) : Value := .agg ⟨[i64 p0, i64 p1, i64 p2, i64 p3]⟩
abbrev L10 : List (Option IntKind) := [some .i64, some .i64, some .i64, some .i64, some .i64, some .i64, some .i64, some .i64, some .i64, some .i64]
/-! ### Set.Add -/
noncomputable def add1 (key : Value) (es : List Ent) (c : Nat) : List Ent := mput key (i64 (mgetI key es + 1)) c es
noncomputable def addS : List Value → Heap → Nat → Option Res := fun args H nm =>
  match args with
  | [.map (some k), .agg ⟨[.int .i64 a0, .int .i64 a1, .int .i64 a2, .int .i64 a3, .int .i64 a4, .int .i64 a5, .int .i64 a6, .int .i64 a7, .int .i64 a8, .int .i64 a9]⟩] =>
    match H k with
    | some (.map lay true (some .i64) es c) => bif layEq lay L10 then
        some ⟨i64 (mgetI (bx a0 a1 a2 a3 a4 a5 a6 a7 a8 a9) es + 1), [(k, some (.map lay true (some .i64) (add1 (bx a0 a1 a2 a3 a4 a5 a6 a7 a8 a9) es c) (bif mhas (bx a0 a1 a2 a3 a4 a5 a6 a7 a8 a9) es then c else c + 1)))], [k], [I64 (mgetI (bx a0 a1 a2 a3 a4 a5 a6 a7 a8 a9) es + 1)]⟩
      else none
    | _ => none
  | _ => none
abbrev H1 (b : Blk) : Heap := upd (fun _ => none) 0 (some b)
theorem add_spec (a0 a1 a2 a3 a4 a5 a6 a7 a8 a9 : Int) (es : List Ent) (c : Nat) (ok : MapOK L10 true (some .i64) es c) (hr : I64 (mgetI (bx a0 a1 a2 a3 a4 a5 a6 a7 a8 a9) es + 1)) :
    ∃ H', CallSpec Try.prog 16 [.map (some 0), bx a0 a1 a2 a3 a4 a5 a6 a7 a8 a9] (H1 (.map L10 true (some .i64) es c)) 1 (i64 (mgetI (bx a0 a1 a2 a3 a4 a5 a6 a7 a8 a9) es + 1)) H' ∧
      H' 0 = some (.map L10 true (some .i64) (add1 (bx a0 a1 a2 a3 a4 a5 a6 a7 a8 a9) es c) (bif mhas (bx a0 a1 a2 a3 a4 a5 a6 a7 a8 a9) es then c else c + 1)) := by
  have hk : keyFits L10 true (bx a0 a1 a2 a3 a4 a5 a6 a7 a8 a9) = true := rfl
  generalize hn : mgetI (bx a0 a1 a2 a3 a4 a5 a6 a7 a8 a9) es + 1 = n at hr ⊢
  let ob : List Prop := [i64 (mgetI (bx a0 a1 a2 a3 a4 a5 a6 a7 a8 a9) (mput (bx a0 a1 a2 a3 a4 a5 a6 a7 a8 a9) (i64 n) c es)) = i64 n,
    some (i64 (mgetI (bx a0 a1 a2 a3 a4 a5 a6 a7 a8 a9) (mens (bx a0 a1 a2 a3 a4 a5 a6 a7 a8 a9) (zeroOf (some .i64)) c es))) = some (i64 (mgetI (bx a0 a1 a2 a3 a4 a5 a6 a7 a8 a9) es)),
    mborn ((mstamp (bx a0 a1 a2 a3 a4 a5 a6 a7 a8 a9) c es : Nat) : Int) (mens (bx a0 a1 a2 a3 a4 a5 a6 a7 a8 a9) (zeroOf (some .i64)) c es) = true,
    mset ((mstamp (bx a0 a1 a2 a3 a4 a5 a6 a7 a8 a9) c es : Nat) : Int) (i64 n) (mens (bx a0 a1 a2 a3 a4 a5 a6 a7 a8 a9) (zeroOf (some .i64)) c es) = mput (bx a0 a1 a2 a3 a4 a5 a6 a7 a8 a9) (i64 n) c es,
    i64 (IntKind.i64.wrap (mgetI (bx a0 a1 a2 a3 a4 a5 a6 a7 a8 a9) es + 1)) = i64 n]
  have hob : all ob := by
    refine ⟨?_, ?_, ?_, ?_, ?_, trivial⟩
    · rw [mgetI_put (keyEq_refl hk)]
    · rw [mgetI_ens]
    · exact mborn_ens hk es
    · exact mset_ens es ok.borns ok.clock
    · rw [hn, wrap_id hr]
  have hspec := spec_run (f := 16) (fn := Try.f16) (args := [.map (some 0), bx a0 a1 a2 a3 a4 a5 a6 a7 a8 a9]) (H0 := H1 (.map L10 true (some .i64) es c)) (nx := 1) hm sums_none
    (hint := hints [(1, 3, { v := some (i64 n) }), (1, 6, { e := some (mput (bx a0 a1 a2 a3 a4 a5 a6 a7 a8 a9) (i64 n) c es) }), (2, 2, { v := some (i64 n) })]) (ws := []) Try.func16 rfl (v := i64 n) (by kernel_rfl)
    (cast (by kernel_rfl : all ob = all (oOb (runH Try.prog t_none (hints [(1, 3, { v := some (i64 n) }), (1, 6, { e := some (mput (bx a0 a1 a2 a3 a4 a5 a6 a7 a8 a9) (i64 n) c es) }), (2, 2, { v := some (i64 n) })]) [] Try.f16 _ [.map (some 0), bx a0 a1 a2 a3 a4 a5 a6 a7 a8 a9] (H1 (.map L10 true (some .i64) es c)) 1))) hob)
  refine ⟨_, hspec, ?_⟩
  rw [add1, hn]
  kernel_rfl
theorem sadd_sum : SumOK Try.prog 16 addS := by
  refine ⟨en Try.func16 rfl, ?_, ?_⟩
  · intro args H nm r hr hob M w0 g B w hH hargs hn
    unfold addS at hr
    split at hr
    · rename_i k a0 a1 a2 a3 a4 a5 a6 a7 a8 a9
      split at hr
      · rename_i lay es c hb
        cases hl : layEq lay L10 <;> simp only [hl, cond_true, cond_false, reduceCtorEq, Option.some.injEq] at hr
        obtain rfl := layEq_spec hl
        subst hr
        have ok : MapOK L10 true (some .i64) es c := hH.scope k _ hb
        obtain ⟨H', hs, h0⟩ := add_spec a0 a1 a2 a3 a4 a5 a6 a7 a8 a9 es c ok (hob _ (by simp))
        have := spec_calls (old := [(0, k)]) (new := []) (nm := nm) hs (by simp) (by simp) (fun j k' h => by
            simp at h; obtain ⟨rfl, rfl⟩ := h
            exact ⟨by omega, _, hb, by simp [H1, upd_self], trivial⟩)
          (fun j b h => by
            by_cases e : j = 0
            · subst e; exact ⟨k, by simp⟩
            · simp [H1, upd_ne _ _ e] at h)
          (fun m k h => by simp at h)
          (fun j k' h b hb' => by
            simp at h; obtain ⟨rfl, rfl⟩ := h
            rw [h0] at hb'; simp at hb'; subst hb'
            exact ⟨trivial, fun _ => ⟨.map L10 true (some .i64) es c, by simp [H1, upd_self], rfl⟩⟩)
          (fun g1 g2 _ => rfl)
          (fun u hu g1 g2 hg => by
            rcases List.mem_cons.1 hu with rfl | hu
            · have := (hg 0 k (by simp)).1
              show Value.map (some (g1.blk 0)) = Value.map (some (g2.blk 0))
              rw [this]
            · simp at hu; subst hu
              exact (ren_gnd g1 rfl).trans (ren_gnd g2 rfl).symm)
          hH hn
        refine this.mono ?_
        rintro e w' ⟨g', h1, h2, h3, h4⟩
        refine ⟨g', h1, ?_, h3, h4⟩
        have e1 : usOf ([(0, k)] ++ []) H' = [(k, some (.map L10 true (some .i64) (add1 (bx a0 a1 a2 a3 a4 a5 a6 a7 a8 a9) es c) (bif mhas (bx a0 a1 a2 a3 a4 a5 a6 a7 a8 a9) es then c else c + 1)))] := by
          simp [usOf, h0]
        rw [e1] at h2; exact h2
      · simp at hr
    · simp at hr
  · intro args H nm r hr H' hH'
    unfold addS at hr ⊢
    split at hr
    · rename_i k a0 a1 a2 a3 a4 a5 a6 a7 a8 a9
      split at hr
      · rename_i lay es c hb
        cases hl : layEq lay L10 <;> simp only [hl, cond_true, cond_false, reduceCtorEq, Option.some.injEq] at hr
        subst hr
        have : H' k = H k := hH' k (by simp)
        simp only [this, hb, hl, cond_true]
      · simp at hr
    · simp at hr
noncomputable def t_sadd : Sums := upd t_size 16 (some addS)
theorem t_sadd_ok : SumsOK Try.prog t_sadd := sums_cons t_size_ok sadd_sum
/-! ### Empty, Has, Within, Cut, Whole -/
def e2 (a b : Int) : Bool := decide (a > b)
def h3 (a b n : Int) : Bool := decide (a ≤ n) && decide (n ≤ b)
def w4 (a b c d : Int) : Bool := decide (a > b) || (decide (c ≤ a) && decide (b ≤ d))
def emptyB (a0 a1 a2 a3 a4 a5 a6 a7 a8 a9 : Int) : Bool := bif e2 a0 a1 then true else bif e2 a2 a3 then true else bif e2 a4 a5 then true else bif e2 a6 a7 then true else bif e2 a8 a9 then true else false
def hasB (a0 a1 a2 a3 a4 a5 a6 a7 a8 a9 p0 p1 p2 p3 n : Int) : Bool := bif !h3 a0 a1 p0 then false else bif !h3 a2 a3 p1 then false else bif !h3 a4 a5 p2 then false else bif !h3 a6 a7 p3 then false else h3 a8 a9 n
def withinB (a0 a1 a2 a3 a4 a5 a6 a7 a8 a9 b0 b1 b2 b3 b4 b5 b6 b7 b8 b9 : Int) : Bool := bif emptyB a0 a1 a2 a3 a4 a5 a6 a7 a8 a9 then true else bif !w4 a0 a1 b0 b1 then false else bif !w4 a2 a3 b2 b3 then false else bif !w4 a4 a5 b4 b5 then false else bif !w4 a6 a7 b6 b7 then false else bif !w4 a8 a9 b8 b9 then false else true
def cL (i p a b n : Int) : Int := bif p == i then cutLo a b n else a
def cH (i p a b n : Int) : Int := bif p == i then cutHi a b n else b
def dL (i p a b n : Int) : Int := bif p == i then cutLo' a b n else a
def dH (i p a b n : Int) : Int := bif p == i then cutHi' a b n else b
def bempty_F : List Value → Option (Value × List Prop)
  | [.agg ⟨[.int .i64 a0, .int .i64 a1, .int .i64 a2, .int .i64 a3, .int .i64 a4, .int .i64 a5, .int .i64 a6, .int .i64 a7, .int .i64 a8, .int .i64 a9]⟩] => some (.bool (emptyB a0 a1 a2 a3 a4 a5 a6 a7 a8 a9), [])
  | _ => none
theorem bempty_sum : SumOK Try.prog 30 (sumOf bempty_F) := by
  refine sumOf_ok (en Try.func30 rfl) fun args v ob h hob => ?_
  unfold bempty_F at h
  split at h
  · obtain ⟨rfl, rfl⟩ := Prod.mk.inj (Option.some.inj h)
    exact calls_run0 hm (auto0_ok t_sadd_ok) noHint [.go,.go,.fork,.go,.fork,.go,.fork,.go,.fork,.go,.fork] (by kernel_rfl)
  · exact absurd h (by simp)
noncomputable def t_bempty : Sums := upd t_sadd 30 (some (sumOf bempty_F))
theorem t_bempty_ok : SumsOK Try.prog t_bempty := sums_cons t_sadd_ok bempty_sum
def bhas_F : List Value → Option (Value × List Prop)
  | [.agg ⟨[.int .i64 a0, .int .i64 a1, .int .i64 a2, .int .i64 a3, .int .i64 a4, .int .i64 a5, .int .i64 a6, .int .i64 a7, .int .i64 a8, .int .i64 a9]⟩, .agg ⟨[.int .i64 p0, .int .i64 p1, .int .i64 p2, .int .i64 p3]⟩, .int .i64 n] => some (.bool (hasB a0 a1 a2 a3 a4 a5 a6 a7 a8 a9 p0 p1 p2 p3 n), [])
  | _ => none
theorem bhas_sum : SumOK Try.prog 22 (sumOf bhas_F) := by
  refine sumOf_ok (en Try.func22 rfl) fun args v ob h hob => ?_
  unfold bhas_F at h
  split at h
  · obtain ⟨rfl, rfl⟩ := Prod.mk.inj (Option.some.inj h)
    exact calls_run0 hm (auto0_ok t_bempty_ok) noHint [.go,.go,.fork,.go,.fork,.go,.fork,.go,.fork] (by kernel_rfl)
  · exact absurd h (by simp)
noncomputable def t_bhas : Sums := upd t_bempty 22 (some (sumOf bhas_F))
theorem t_bhas_ok : SumsOK Try.prog t_bhas := sums_cons t_bempty_ok bhas_sum
def bwithin_F : List Value → Option (Value × List Prop)
  | [.agg ⟨[.int .i64 a0, .int .i64 a1, .int .i64 a2, .int .i64 a3, .int .i64 a4, .int .i64 a5, .int .i64 a6, .int .i64 a7, .int .i64 a8, .int .i64 a9]⟩, .agg ⟨[.int .i64 b0, .int .i64 b1, .int .i64 b2, .int .i64 b3, .int .i64 b4, .int .i64 b5, .int .i64 b6, .int .i64 b7, .int .i64 b8, .int .i64 b9]⟩] => some (.bool (withinB a0 a1 a2 a3 a4 a5 a6 a7 a8 a9 b0 b1 b2 b3 b4 b5 b6 b7 b8 b9), [])
  | _ => none
theorem bwithin_sum : SumOK Try.prog 27 (sumOf bwithin_F) := by
  refine sumOf_ok (en Try.func27 rfl) fun args v ob h hob => ?_
  unfold bwithin_F at h
  split at h
  · obtain ⟨rfl, rfl⟩ := Prod.mk.inj (Option.some.inj h)
    exact calls_run0 hm (auto0_ok t_bhas_ok) noHint [.fork,.go,.go,.fork,.go,.fork,.go,.fork,.go,.fork,.go,.fork] (by kernel_rfl)
  · exact absurd h (by simp)
noncomputable def t_bwithin : Sums := upd t_bhas 27 (some (sumOf bwithin_F))
theorem t_bwithin_ok : SumsOK Try.prog t_bwithin := sums_cons t_bhas_ok bwithin_sum
theorem cut_no {i p : Int} (h : p ≠ i) (a b n : Int) : cL i p a b n = a ∧ cH i p a b n = b ∧ dL i p a b n = a ∧ dH i p a b n = b := by
  have : (p == i) = false := by simpa using h
  simp [cL, cH, dL, dH, this]
abbrev cutPair (a0 a1 a2 a3 a4 a5 a6 a7 a8 a9 p n : Int) : Value := .tuple ⟨[bx (cL 0 p a0 a1 n) (cH 0 p a0 a1 n) (cL 1 p a2 a3 n) (cH 1 p a2 a3 n) (cL 2 p a4 a5 n) (cH 2 p a4 a5 n) (cL 3 p a6 a7 n) (cH 3 p a6 a7 n) (cL 4 p a8 a9 n) (cH 4 p a8 a9 n),
  bx (dL 0 p a0 a1 n) (dH 0 p a0 a1 n) (dL 1 p a2 a3 n) (dH 1 p a2 a3 n) (dL 2 p a4 a5 n) (dH 2 p a4 a5 n) (dL 3 p a6 a7 n) (dH 3 p a6 a7 n) (dL 4 p a8 a9 n) (dH 4 p a8 a9 n)]⟩
abbrev mx : Int := 9223372036854775807
def bcut_F : List Value → Option (Value × List Prop)
  | [.agg ⟨[.int .i64 a0, .int .i64 a1, .int .i64 a2, .int .i64 a3, .int .i64 a4, .int .i64 a5, .int .i64 a6, .int .i64 a7, .int .i64 a8, .int .i64 a9]⟩, .int .i64 p, .int .i64 n] => some (cutPair a0 a1 a2 a3 a4 a5 a6 a7 a8 a9 p n, [I64 n, a1 ≤ mx, a3 ≤ mx, a5 ≤ mx, a7 ≤ mx, a9 ≤ mx])
  | _ => none
theorem bcut_sum : SumOK Try.prog 15 (sumOf bcut_F) := by
  refine sumOf_ok (en Try.func15 rfl) fun args v ob h hob => ?_
  unfold bcut_F at h
  split at h
  · rename_i a0 a1 a2 a3 a4 a5 a6 a7 a8 a9 p n
    obtain ⟨rfl, rfl⟩ := Prod.mk.inj (Option.some.inj h)
    clear h
    have hn := hob (I64 n) (by simp)
    have k1 := hob (a1 ≤ mx) (by simp)
    have k3 := hob (a3 ≤ mx) (by simp)
    have k5 := hob (a5 ≤ mx) (by simp)
    have k7 := hob (a7 ≤ mx) (by simp)
    have k9 := hob (a9 ≤ mx) (by simp)
    by_cases c0 : p = 0
    · subst c0; exact calls_runO hm (auto0_ok t_bwithin_ok) noHint [] [I64 n, a1 ≤ mx] (by kernel_rfl) ⟨hn, k1, trivial⟩
    by_cases c1 : p = 1
    · subst c1; exact calls_runO hm (auto0_ok t_bwithin_ok) noHint [] [I64 n, a3 ≤ mx] (by kernel_rfl) ⟨hn, k3, trivial⟩
    by_cases c2 : p = 2
    · subst c2; exact calls_runO hm (auto0_ok t_bwithin_ok) noHint [] [I64 n, a5 ≤ mx] (by kernel_rfl) ⟨hn, k5, trivial⟩
    by_cases c3 : p = 3
    · subst c3; exact calls_runO hm (auto0_ok t_bwithin_ok) noHint [] [I64 n, a7 ≤ mx] (by kernel_rfl) ⟨hn, k7, trivial⟩
    by_cases c4 : p = 4
    · subst c4; exact calls_runO hm (auto0_ok t_bwithin_ok) noHint [] [I64 n, a9 ≤ mx] (by kernel_rfl) ⟨hn, k9, trivial⟩
    obtain ⟨q1, q2, q3, q4⟩ := cut_no c0 a0 a1 n
    obtain ⟨q5, q6, q7, q8⟩ := cut_no c1 a2 a3 n
    obtain ⟨r1, r2, r3, r4⟩ := cut_no c2 a4 a5 n
    obtain ⟨r5, r6, r7, r8⟩ := cut_no c3 a6 a7 n
    obtain ⟨s1, s2, s3, s4⟩ := cut_no c4 a8 a9 n
    simp only [cutPair, q1, q2, q3, q4, q5, q6, q7, q8, r1, r2, r3, r4, r5, r6, r7, r8, s1, s2, s3, s4]
    cases h : decide (p ≥ 0)
    · exact calls_runO hm (auto0_ok t_bwithin_ok) (hints [(2, 1, ht false)]) [] [bb (decide (p ≥ 0)) false] (by kernel_rfl) ⟨bb_of h, trivial⟩
    · have h' := of_decide_eq_true h
      exact calls_runO hm (auto0_ok t_bwithin_ok) (hints [(2, 1, ht true), (2, 4, ht false)]) [] [bb (decide (p < 5)) false, bb (decide (p ≥ 0)) true] (by kernel_rfl) ⟨bb_of (decide_eq_false (by omega)), bb_of h, trivial⟩
  · exact absurd h (by simp)
noncomputable def t_bcut : Sums := upd t_bwithin 15 (some (sumOf bcut_F))
theorem t_bcut_ok : SumsOK Try.prog t_bcut := sums_cons t_bwithin_ok bcut_sum
end Go.Proofs.Ytdeedabhgfmgjaa.SpanE


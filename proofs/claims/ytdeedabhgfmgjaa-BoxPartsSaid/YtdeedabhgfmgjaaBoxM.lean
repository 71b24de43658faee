/-
  The contracts of box.Meet, box.Low and the document's MeetBox and Empty for the evaluator.
-/
import Derived.Test.YtdeedabhgfmgjaaBoxLaw
set_option linter.unusedVariables false
set_option linter.unusedSimpArgs false
set_option maxRecDepth 100000
namespace Go.Proofs.Ytdeedabhgfmgjaa.SpanE
open Go Go.RowKit Go.Proofs.Ytdeedabhgfmgjaa.Ev Go.Proofs.Ytdeedabhgfmgjaa.Within
abbrev mbx (a0 a1 a2 a3 a4 a5 a6 a7 a8 a9 b0 b1 b2 b3 b4 b5 b6 b7 b8 b9 : Int) : Value := bx (meetLo a0 a1 b0 b1) (meetHi a0 a1 b0 b1) (meetLo a2 a3 b2 b3) (meetHi a2 a3 b2 b3) (meetLo a4 a5 b4 b5) (meetHi a4 a5 b4 b5) (meetLo a6 a7 b6 b7) (meetHi a6 a7 b6 b7) (meetLo a8 a9 b8 b9) (meetHi a8 a9 b8 b9)
def bmeet_F : List Value → Option (Value × List Prop)
  | [.agg ⟨[.int .i64 a0, .int .i64 a1, .int .i64 a2, .int .i64 a3, .int .i64 a4, .int .i64 a5, .int .i64 a6, .int .i64 a7, .int .i64 a8, .int .i64 a9]⟩, .agg ⟨[.int .i64 b0, .int .i64 b1, .int .i64 b2, .int .i64 b3, .int .i64 b4, .int .i64 b5, .int .i64 b6, .int .i64 b7, .int .i64 b8, .int .i64 b9]⟩] => some (mbx a0 a1 a2 a3 a4 a5 a6 a7 a8 a9 b0 b1 b2 b3 b4 b5 b6 b7 b8 b9, [])
  | _ => none
theorem bmeet_sum : SumOK Try.prog 28 (sumOf bmeet_F) := by
  refine sumOf_ok (en Try.func28 rfl) fun args v ob h hob => ?_
  unfold bmeet_F at h
  split at h
  · obtain ⟨rfl, rfl⟩ := Prod.mk.inj (Option.some.inj h)
    exact calls_run0 hm (auto0_ok t_whole_ok) noHint [] (by kernel_rfl)
  · exact absurd h (by simp)
noncomputable def t_bmeet : Sums := upd t_whole 28 (some (sumOf bmeet_F))
theorem t_bmeet_ok : SumsOK Try.prog t_bmeet := sums_cons t_whole_ok bmeet_sum
def rmeet_F : List Value → Option (Value × List Prop)
  | [.agg ⟨[.int .i64 a, .int .i64 b]⟩, .agg ⟨[.int .i64 c, .int .i64 d]⟩] => some (sp (meetLo a b c d) (meetHi a b c d), [])
  | _ => none
theorem rmeet_sum : SumOK Try.prog 26 (sumOf rmeet_F) := by
  refine sumOf_ok (en Try.func26 rfl) fun args v ob h hob => ?_
  unfold rmeet_F at h
  split at h
  · obtain ⟨rfl, rfl⟩ := Prod.mk.inj (Option.some.inj h)
    exact calls_run0 hm (auto0_ok t_bmeet_ok) noHint [.fork] (by kernel_rfl)
  · exact absurd h (by simp)
noncomputable def t_rmeet : Sums := upd t_bmeet 26 (some (sumOf rmeet_F))
theorem t_rmeet_ok : SumsOK Try.prog t_rmeet := sums_cons t_bmeet_ok rmeet_sum
def rmeetbox_F : List Value → Option (Value × List Prop)
  | [.agg ⟨[.int .i64 a0, .int .i64 a1, .int .i64 a2, .int .i64 a3, .int .i64 a4, .int .i64 a5, .int .i64 a6, .int .i64 a7, .int .i64 a8, .int .i64 a9]⟩, .agg ⟨[.int .i64 b0, .int .i64 b1, .int .i64 b2, .int .i64 b3, .int .i64 b4, .int .i64 b5, .int .i64 b6, .int .i64 b7, .int .i64 b8, .int .i64 b9]⟩] => some (mbx a0 a1 a2 a3 a4 a5 a6 a7 a8 a9 b0 b1 b2 b3 b4 b5 b6 b7 b8 b9, [])
  | _ => none
theorem rmeetbox_sum : SumOK Try.prog 29 (sumOf rmeetbox_F) := by
  refine sumOf_ok (en Try.func29 rfl) fun args v ob h hob => ?_
  unfold rmeetbox_F at h
  split at h
  · obtain ⟨rfl, rfl⟩ := Prod.mk.inj (Option.some.inj h)
    exact calls_run0 hm (auto0_ok t_rmeet_ok) noHint [] (by kernel_rfl)
  · exact absurd h (by simp)
noncomputable def t_rmeetbox : Sums := upd t_rmeet 29 (some (sumOf rmeetbox_F))
theorem t_rmeetbox_ok : SumsOK Try.prog t_rmeetbox := sums_cons t_rmeet_ok rmeetbox_sum
def rempty_F : List Value → Option (Value × List Prop)
  | [.agg ⟨[.int .i64 a0, .int .i64 a1, .int .i64 a2, .int .i64 a3, .int .i64 a4, .int .i64 a5, .int .i64 a6, .int .i64 a7, .int .i64 a8, .int .i64 a9]⟩] => some (.bool (emptyB a0 a1 a2 a3 a4 a5 a6 a7 a8 a9), [])
  | _ => none
theorem rempty_sum : SumOK Try.prog 31 (sumOf rempty_F) := by
  refine sumOf_ok (en Try.func31 rfl) fun args v ob h hob => ?_
  unfold rempty_F at h
  split at h
  · obtain ⟨rfl, rfl⟩ := Prod.mk.inj (Option.some.inj h)
    exact calls_run0 hm (auto0_ok t_rmeetbox_ok) noHint [.go,.go,.fork,.go,.fork,.go,.fork,.go,.fork,.go,.fork] (by kernel_rfl)
  · exact absurd h (by simp)
noncomputable def t_rempty : Sums := upd t_rmeetbox 31 (some (sumOf rempty_F))
theorem t_rempty_ok : SumsOK Try.prog t_rempty := sums_cons t_rmeetbox_ok rempty_sum
def blow_F : List Value → Option (Value × List Prop)
  | [.agg ⟨[.int .i64 a0, .int .i64 a1, .int .i64 a2, .int .i64 a3, .int .i64 a4, .int .i64 a5, .int .i64 a6, .int .i64 a7, .int .i64 a8, .int .i64 a9]⟩] => some (pt a0 a2 a4 a6, [])
  | _ => none
theorem blow_sum : SumOK Try.prog 32 (sumOf blow_F) := by
  refine sumOf_ok (en Try.func32 rfl) fun args v ob h hob => ?_
  unfold blow_F at h
  split at h
  · obtain ⟨rfl, rfl⟩ := Prod.mk.inj (Option.some.inj h)
    exact calls_run0 hm (auto0_ok t_rempty_ok) noHint [] (by kernel_rfl)
  · exact absurd h (by simp)
noncomputable def t_blow : Sums := upd t_rempty 32 (some (sumOf blow_F))
theorem t_blow_ok : SumsOK Try.prog t_blow := sums_cons t_rempty_ok blow_sum
/-! ### Their laws -/
theorem keyEq_bx (a0 a1 a2 a3 a4 a5 a6 a7 a8 a9 b0 b1 b2 b3 b4 b5 b6 b7 b8 b9 : Int) : keyEq (bx a0 a1 a2 a3 a4 a5 a6 a7 a8 a9) (bx b0 b1 b2 b3 b4 b5 b6 b7 b8 b9) = (a0 == b0 && (a1 == b1 && (a2 == b2 && (a3 == b3 && (a4 == b4 && (a5 == b5 && (a6 == b6 && (a7 == b7 && (a8 == b8 && (a9 == b9)))))))))) := by
  simp only [keyEq, cellsEq, leafEq, beq_self_eq_true, Bool.true_and]
theorem keyEq_self (a0 a1 a2 a3 a4 a5 a6 a7 a8 a9 : Int) : keyEq (bx a0 a1 a2 a3 a4 a5 a6 a7 a8 a9) (bx a0 a1 a2 a3 a4 a5 a6 a7 a8 a9) = true := by
  simp only [keyEq_bx, beq_self_eq_true, Bool.and_self]
theorem has_meetB (a0 a1 a2 a3 a4 a5 a6 a7 a8 a9 b0 b1 b2 b3 b4 b5 b6 b7 b8 b9 p0 p1 p2 p3 n : Int) : hasB (meetLo a0 a1 b0 b1) (meetHi a0 a1 b0 b1) (meetLo a2 a3 b2 b3) (meetHi a2 a3 b2 b3) (meetLo a4 a5 b4 b5) (meetHi a4 a5 b4 b5) (meetLo a6 a7 b6 b7) (meetHi a6 a7 b6 b7) (meetLo a8 a9 b8 b9) (meetHi a8 a9 b8 b9) p0 p1 p2 p3 n = (hasB a0 a1 a2 a3 a4 a5 a6 a7 a8 a9 p0 p1 p2 p3 n && hasB b0 b1 b2 b3 b4 b5 b6 b7 b8 b9 p0 p1 p2 p3 n) := by
  simp only [hasB_eq, meet_has]
  cases h3 a0 a1 p0 <;> cases h3 a2 a3 p1 <;> cases h3 a4 a5 p2 <;> cases h3 a6 a7 p3 <;> cases h3 a8 a9 n <;> simp
theorem low_hasB (a0 a1 a2 a3 a4 a5 a6 a7 a8 a9 : Int) : hasB a0 a1 a2 a3 a4 a5 a6 a7 a8 a9 a0 a2 a4 a6 a8 = !emptyB a0 a1 a2 a3 a4 a5 a6 a7 a8 a9 := by
  simp only [hasB_eq, emptyB_eq, h3_low, Bool.not_or]
theorem meet_withinB (a0 a1 a2 a3 a4 a5 a6 a7 a8 a9 b0 b1 b2 b3 b4 b5 b6 b7 b8 b9 : Int) : withinB (meetLo a0 a1 b0 b1) (meetHi a0 a1 b0 b1) (meetLo a2 a3 b2 b3) (meetHi a2 a3 b2 b3) (meetLo a4 a5 b4 b5) (meetHi a4 a5 b4 b5) (meetLo a6 a7 b6 b7) (meetHi a6 a7 b6 b7) (meetLo a8 a9 b8 b9) (meetHi a8 a9 b8 b9) a0 a1 a2 a3 a4 a5 a6 a7 a8 a9 = true ∧ withinB (meetLo a0 a1 b0 b1) (meetHi a0 a1 b0 b1) (meetLo a2 a3 b2 b3) (meetHi a2 a3 b2 b3) (meetLo a4 a5 b4 b5) (meetHi a4 a5 b4 b5) (meetLo a6 a7 b6 b7) (meetHi a6 a7 b6 b7) (meetLo a8 a9 b8 b9) (meetHi a8 a9 b8 b9) b0 b1 b2 b3 b4 b5 b6 b7 b8 b9 = true := by
  simp only [withinB_eq, meet_within, Bool.and_self, Bool.or_true, and_self]
theorem empty_withinB {a0 a1 a2 a3 a4 a5 a6 a7 a8 a9 : Int} (h : emptyB a0 a1 a2 a3 a4 a5 a6 a7 a8 a9 = true) (b0 b1 b2 b3 b4 b5 b6 b7 b8 b9 : Int) : withinB a0 a1 a2 a3 a4 a5 a6 a7 a8 a9 b0 b1 b2 b3 b4 b5 b6 b7 b8 b9 = true := by
  rw [withinB_eq, h, Bool.true_or]
theorem within_meetB {a0 a1 a2 a3 a4 a5 a6 a7 a8 a9 : Int} (h : emptyB a0 a1 a2 a3 a4 a5 a6 a7 a8 a9 = false) (b0 b1 b2 b3 b4 b5 b6 b7 b8 b9 : Int) : withinB a0 a1 a2 a3 a4 a5 a6 a7 a8 a9 b0 b1 b2 b3 b4 b5 b6 b7 b8 b9 = keyEq (mbx a0 a1 a2 a3 a4 a5 a6 a7 a8 a9 b0 b1 b2 b3 b4 b5 b6 b7 b8 b9) (bx a0 a1 a2 a3 a4 a5 a6 a7 a8 a9) := by
  rw [withinB_eq, h, Bool.false_or]
  rw [emptyB_eq] at h
  simp only [Bool.or_eq_false_iff] at h
  obtain ⟨k0, k1, k2, k3, k4⟩ := h
  rw [within_meet k0, within_meet k1, within_meet k2, within_meet k3, within_meet k4]
  simp only [mbx, keyEq_bx, Bool.and_assoc, Bool.and_true]
theorem assocB (a0 a1 a2 a3 a4 a5 a6 a7 a8 a9 b0 b1 b2 b3 b4 b5 b6 b7 b8 b9 c0 c1 c2 c3 c4 c5 c6 c7 c8 c9 : Int) : keyEq (bx (meetLo (meetLo a0 a1 b0 b1) (meetHi a0 a1 b0 b1) c0 c1) (meetHi (meetLo a0 a1 b0 b1) (meetHi a0 a1 b0 b1) c0 c1) (meetLo (meetLo a2 a3 b2 b3) (meetHi a2 a3 b2 b3) c2 c3) (meetHi (meetLo a2 a3 b2 b3) (meetHi a2 a3 b2 b3) c2 c3) (meetLo (meetLo a4 a5 b4 b5) (meetHi a4 a5 b4 b5) c4 c5) (meetHi (meetLo a4 a5 b4 b5) (meetHi a4 a5 b4 b5) c4 c5) (meetLo (meetLo a6 a7 b6 b7) (meetHi a6 a7 b6 b7) c6 c7) (meetHi (meetLo a6 a7 b6 b7) (meetHi a6 a7 b6 b7) c6 c7) (meetLo (meetLo a8 a9 b8 b9) (meetHi a8 a9 b8 b9) c8 c9) (meetHi (meetLo a8 a9 b8 b9) (meetHi a8 a9 b8 b9) c8 c9)) (bx (meetLo a0 a1 (meetLo b0 b1 c0 c1) (meetHi b0 b1 c0 c1)) (meetHi a0 a1 (meetLo b0 b1 c0 c1) (meetHi b0 b1 c0 c1)) (meetLo a2 a3 (meetLo b2 b3 c2 c3) (meetHi b2 b3 c2 c3)) (meetHi a2 a3 (meetLo b2 b3 c2 c3) (meetHi b2 b3 c2 c3)) (meetLo a4 a5 (meetLo b4 b5 c4 c5) (meetHi b4 b5 c4 c5)) (meetHi a4 a5 (meetLo b4 b5 c4 c5) (meetHi b4 b5 c4 c5)) (meetLo a6 a7 (meetLo b6 b7 c6 c7) (meetHi b6 b7 c6 c7)) (meetHi a6 a7 (meetLo b6 b7 c6 c7) (meetHi b6 b7 c6 c7)) (meetLo a8 a9 (meetLo b8 b9 c8 c9) (meetHi b8 b9 c8 c9)) (meetHi a8 a9 (meetLo b8 b9 c8 c9) (meetHi b8 b9 c8 c9))) = true := by
  simp only [keyEq_bx, meet_assoc, beq_self_eq_true, Bool.and_self]
end Go.Proofs.Ytdeedabhgfmgjaa.SpanE


/-
  What the functions of the package node and the document's own compute, by the evaluator.
-/
import Derived.Test.YtnngaedhedbenaaNodeB
set_option linter.unusedVariables false
set_option linter.unusedSimpArgs false
set_option maxRecDepth 100000
namespace Go.Proofs.Ytnngaedhedbenaa.NodeE
open Go Go.RowKit Go.Proofs.Ytnngaedhedbenaa.Ev Go.Proofs.Ytnngaedhedbenaa.BitLib Go.Proofs.Ytnngaedhedbenaa.BitsA Go.Proofs.Ytnngaedhedbenaa.NodeB
abbrev u64 (n : Int) : Value := .int .u64 n
abbrev U64 (n : Int) : Prop := 0 ≤ n ∧ n ≤ 18446744073709551615
theorem still {f : FuncId} {args : Array Value} {v : Value} (h : ∀ w, Calls Try.prog f args w fun e w' => e = .returned v ∧ w = w') : ∀ w, Calls Try.prog f args w fun e w' => e = .returned v ∧ Below w.heap.size w w' := fun w =>
  (h w).mono fun e w' hh => ⟨hh.1, hh.2 ▸ Below.refl _ _⟩
/-! ### bits -/
def fitB (n : Int) : Bool := decide (-2147483648 ≤ n) && decide (n ≤ 2147483647)
theorem fitB_eq (n : Int) : decide (-(2 ^ (32 - 1)) ≤ n ∧ n < 2 ^ (32 - 1)) = fitB n := by
  unfold fitB
  rw [← Bool.decide_and, decide_eq_decide]
  have : (2 : Int) ^ (32 - 1) = 2147483648 := rfl
  omega
def low32 (n : Int) : Int := (n + 2147483648) % 4294967296 - 2147483648
def fld (a k : Int) : Prop := 0 ≤ a ∧ 1 ≤ k ∧ a + k ≤ 64
def getI (x a k : Int) : Int := x / 2 ^ a.toNat % 2 ^ k.toNat
def putI (x a k y : Int) : Int := (putN x.toNat a.toNat k.toNat y.toNat : Nat)
def bfits_F : List Value → Option (Value × List Prop)
  | [.int .i64 n, .int .i64 32] => some (.bool (fitB n), [I64 n])
  | _ => none
theorem bfits_sum : SumOK Try.prog 38 (sumOf bfits_F) := by
  refine sumOf_ok (en Try.func38 rfl) fun args v ob h hob => ?_
  unfold bfits_F at h
  split at h
  · rename_i n
    obtain ⟨rfl, rfl⟩ := Prod.mk.inj (Option.some.inj h)
    clear h
    have hn := hob (I64 n) (by simp)
    exact ⟨rfl, rfl, still fun w => by rw [← fitB_eq]; exact fits_yes n 32 hn.1 hn.2 (by decide) (by decide) w⟩
  · exact absurd h (by simp)
noncomputable def t_bfits : Sums := upd t_none 38 (some (sumOf bfits_F))
theorem t_bfits_ok : SumsOK Try.prog t_bfits := sums_cons t_none_ok bfits_sum
def rfits_F : List Value → Option (Value × List Prop)
  | [.int .i64 n, .int .i64 32] => some (.bool (fitB n), [I64 n])
  | _ => none
theorem rfits_sum : SumOK Try.prog 40 (sumOf rfits_F) := by
  refine sumOf_ok (en Try.func40 rfl) fun args v ob h hob => ?_
  unfold rfits_F at h
  split at h
  · rename_i n
    obtain ⟨rfl, rfl⟩ := Prod.mk.inj (Option.some.inj h)
    clear h
    have hn := hob (I64 n) (by simp)
    exact ⟨rfl, rfl, still fun w => by rw [← fitB_eq]; exact refFits_yes n 32 hn.1 hn.2 (by decide) (by decide) w⟩
  · exact absurd h (by simp)
noncomputable def t_rfits : Sums := upd t_bfits 40 (some (sumOf rfits_F))
theorem t_rfits_ok : SumsOK Try.prog t_rfits := sums_cons t_bfits_ok rfits_sum
def rwrap_F : List Value → Option (Value × List Prop)
  | [.int .i64 n, .int .i64 32] => some (.int .i64 (low32 n), [I64 n])
  | _ => none
theorem rwrap_sum : SumOK Try.prog 37 (sumOf rwrap_F) := by
  refine sumOf_ok (en Try.func37 rfl) fun args v ob h hob => ?_
  unfold rwrap_F at h
  split at h
  · rename_i n
    obtain ⟨rfl, rfl⟩ := Prod.mk.inj (Option.some.inj h)
    clear h
    have hn := hob (I64 n) (by simp)
    exact ⟨rfl, rfl, still fun w => refWrap_yes n 32 hn.1 hn.2 (by decide) (by decide) w⟩
  · exact absurd h (by simp)
noncomputable def t_rwrap : Sums := upd t_rfits 37 (some (sumOf rwrap_F))
theorem t_rwrap_ok : SumsOK Try.prog t_rwrap := sums_cons t_rfits_ok rwrap_sum
def bget_F : List Value → Option (Value × List Prop)
  | [.int .u64 x, .int .i64 a, .int .i64 k] => some (.int .u64 (getI x a k), [U64 x, fld a k])
  | _ => none
theorem bget_sum : SumOK Try.prog 21 (sumOf bget_F) := by
  refine sumOf_ok (en Try.func21 rfl) fun args v ob h hob => ?_
  unfold bget_F at h
  split at h
  · rename_i x a k
    obtain ⟨rfl, rfl⟩ := Prod.mk.inj (Option.some.inj h)
    clear h
    have hx := hob (U64 x) (by simp)
    have hk := hob (fld a k) (by simp)
    unfold fld at hk
    obtain ⟨x, rfl⟩ := Int.eq_ofNat_of_zero_le hx.1
    obtain ⟨a, rfl⟩ := Int.eq_ofNat_of_zero_le hk.1
    obtain ⟨k, rfl⟩ := Int.eq_ofNat_of_zero_le (show 0 ≤ k by omega)
    have e : getI x a k = (getN x a k : Nat) := by simp [getI, getN]
    exact ⟨rfl, rfl, still fun w => by rw [e]; exact get_yes x a k (by omega) (by omega) (by omega) w⟩
  · exact absurd h (by simp)
noncomputable def t_bget : Sums := upd t_rwrap 21 (some (sumOf bget_F))
theorem t_bget_ok : SumsOK Try.prog t_bget := sums_cons t_rwrap_ok bget_sum
def bput_F : List Value → Option (Value × List Prop)
  | [.int .u64 x, .int .i64 a, .int .i64 k, .int .u64 y] => some (.int .u64 (putI x a k y), [U64 x, fld a k, U64 y])
  | _ => none
theorem bput_sum : SumOK Try.prog 36 (sumOf bput_F) := by
  refine sumOf_ok (en Try.func36 rfl) fun args v ob h hob => ?_
  unfold bput_F at h
  split at h
  · rename_i x a k y
    obtain ⟨rfl, rfl⟩ := Prod.mk.inj (Option.some.inj h)
    clear h
    have hx := hob (U64 x) (by simp)
    have hy := hob (U64 y) (by simp)
    have hk := hob (fld a k) (by simp)
    unfold fld at hk
    obtain ⟨x, rfl⟩ := Int.eq_ofNat_of_zero_le hx.1
    obtain ⟨y, rfl⟩ := Int.eq_ofNat_of_zero_le hy.1
    obtain ⟨a, rfl⟩ := Int.eq_ofNat_of_zero_le hk.1
    obtain ⟨k, rfl⟩ := Int.eq_ofNat_of_zero_le (show 0 ≤ k by omega)
    exact ⟨rfl, rfl, still fun w => put_yes x a k y (by omega) (by omega) (by omega) (by omega) w⟩
  · exact absurd h (by simp)
noncomputable def t_bput : Sums := upd t_bget 36 (some (sumOf bput_F))
theorem t_bput_ok : SumsOK Try.prog t_bput := sums_cons t_bget_ok bput_sum
def bsigned_F : List Value → Option (Value × List Prop)
  | [.int .u64 x, .int .i64 0, .int .i64 32] => some (.int .i64 (low32 x), [U64 x])
  | _ => none
theorem bsigned_sum : SumOK Try.prog 20 (sumOf bsigned_F) := by
  refine sumOf_ok (en Try.func20 rfl) fun args v ob h hob => ?_
  unfold bsigned_F at h
  split at h
  · rename_i x
    obtain ⟨rfl, rfl⟩ := Prod.mk.inj (Option.some.inj h)
    clear h
    have hx := hob (U64 x) (by simp)
    obtain ⟨x, rfl⟩ := Int.eq_ofNat_of_zero_le hx.1
    have e : low32 x = signedS x 0 32 := by
      have e1 : ((2 : Nat) ^ 0) = 1 := rfl
      have e2 : ((2 : Nat) ^ 32) = 4294967296 := rfl
      have e3 : ((2 : Int) ^ 32) = 4294967296 := rfl
      have e4 : ((2 : Int) ^ (32 - 1)) = 2147483648 := rfl
      unfold low32 signedS wrapS getN
      rw [e1, e2, e3, e4]
      omega
    exact ⟨rfl, rfl, still fun w => by rw [e]; exact signed_yes x 0 32 (by omega) (by decide) (by decide) w⟩
  · exact absurd h (by simp)
noncomputable def t_bsigned : Sums := upd t_bput 20 (some (sumOf bsigned_F))
theorem t_bsigned_ok : SumsOK Try.prog t_bsigned := sums_cons t_bput_ok bsigned_sum
end Go.Proofs.Ytnngaedhedbenaa.NodeE


/-
  Contracts of fix.Add, fix.Sub, fix.Shift, copseref1.Add: what each answers, for all numbers of 64 bits.
-/
import Derived.Test.YtmgkmekknhggbaaBitLib
import Derived.Test.YtmgkmekknhggbaaRows
import Derived.Test.YtmgkmekknhggbaaRowLib
import Derived.WalkKit
import Derived.WalkLawsBesides
import Derived.WalkSpells
import Derived.KernelRfl
import Derived.RowKit3
import Derived.Deep.QuietTactic
import Derived.BigQuiet
import Derived.Outline
set_option linter.unusedVariables false
set_option linter.unusedSimpArgs false
namespace Go.Proofs.Ytmgkmekknhggbaa.FixA
open Go Go.RowKit Go.Proofs.Ytmgkmekknhggbaa.BitLib

theorem add_ov {a b : Int} (a0 : -9223372036854775808 ≤ a) (a1 : a ≤ 9223372036854775807) (b0 : -9223372036854775808 ≤ b) (b1 : b ≤ 9223372036854775807) :
    Go.bits .and .i64 (Go.bits .xor .i64 a (wrap64 (a + b))) (Go.bits .xor .i64 b (wrap64 (a + b))) < 0 ↔ ¬ (-9223372036854775808 ≤ a + b ∧ a + b ≤ 9223372036854775807) := by
  have hs := wrap64_range (a + b)
  have hx := xor_range a (wrap64 (a + b))
  have hy := xor_range b (wrap64 (a + b))
  rw [and_neg hx.1 hx.2 hy.1 hy.2, xor_neg a0 a1 hs.1 hs.2, xor_neg b0 b1 hs.1 hs.2]
  unfold wrap64
  omega
theorem sub_ov {a b : Int} (a0 : -9223372036854775808 ≤ a) (a1 : a ≤ 9223372036854775807) (b0 : -9223372036854775808 ≤ b) (b1 : b ≤ 9223372036854775807) :
    Go.bits .and .i64 (Go.bits .xor .i64 a b) (Go.bits .xor .i64 a (wrap64 (a - b))) < 0 ↔ ¬ (-9223372036854775808 ≤ a - b ∧ a - b ≤ 9223372036854775807) := by
  have hs := wrap64_range (a - b)
  have hx := xor_range a b
  have hy := xor_range a (wrap64 (a - b))
  rw [and_neg hx.1 hx.2 hy.1 hy.2, xor_neg a0 a1 b0 b1, xor_neg a0 a1 hs.1 hs.2]
  unfold wrap64
  omega

def fits (n : Int) : Bool := decide (-9223372036854775808 ≤ n ∧ n ≤ 9223372036854775807)
/-- A number, where it is one of 64 bits; else 0. -/
def told (n : Int) : Int := if -9223372036854775808 ≤ n ∧ n ≤ 9223372036854775807 then n else 0
theorem fits_yes {n : Int} (h0 : -9223372036854775808 ≤ n) (h1 : n ≤ 9223372036854775807) : fits n = true := decide_eq_true ⟨h0, h1⟩
theorem fits_no {n : Int} (h : ¬ (-9223372036854775808 ≤ n ∧ n ≤ 9223372036854775807)) : fits n = false := decide_eq_false h
theorem told_yes {n : Int} (h0 : -9223372036854775808 ≤ n) (h1 : n ≤ 9223372036854775807) : told n = n := if_pos ⟨h0, h1⟩
theorem told_no {n : Int} (h : ¬ (-9223372036854775808 ≤ n ∧ n ≤ 9223372036854775807)) : told n = 0 := if_neg h

set_option maxHeartbeats 400000 in
theorem add_calls (a b : Int) (a0 : -9223372036854775808 ≤ a) (a1 : a ≤ 9223372036854775807) (b0 : -9223372036854775808 ≤ b) (b1 : b ≤ 9223372036854775807) (w : World) :
    Calls Try.prog 14 #[.int .i64 a, .int .i64 b] w fun e w' => e = .returned (.tuple #[.int .i64 (told (a + b)), .bool (fits (a + b))]) ∧ w = w' := by
  by_cases h : -9223372036854775808 ≤ a + b ∧ a + b ≤ 9223372036854775807
  · have ho := mt (add_ov a0 a1 b0 b1).1 (fun hn => hn h)
    rw [wrap64_id h.1 h.2] at ho
    obtain ⟨h0, h1⟩ := h
    rw [told_yes h0 h1, fits_yes h0 h1]
    go_enter Try.func14, Try.ntmps14
    go_wp2
    go_ret2
    exact ⟨rfl, rfl⟩
  · have ho := (add_ov a0 a1 b0 b1).2 h
    rw [told_no h, fits_no h]
    clear h
    go_enter Try.func14, Try.ntmps14
    go_wp2
    go_ret2
    exact ⟨rfl, rfl⟩

set_option maxHeartbeats 400000 in
theorem sub_calls (a b : Int) (a0 : -9223372036854775808 ≤ a) (a1 : a ≤ 9223372036854775807) (b0 : -9223372036854775808 ≤ b) (b1 : b ≤ 9223372036854775807) (w : World) :
    Calls Try.prog 25 #[.int .i64 a, .int .i64 b] w fun e w' => e = .returned (.tuple #[.int .i64 (told (a - b)), .bool (fits (a - b))]) ∧ w = w' := by
  by_cases h : -9223372036854775808 ≤ a - b ∧ a - b ≤ 9223372036854775807
  · have ho := mt (sub_ov a0 a1 b0 b1).1 (fun hn => hn h)
    rw [wrap64_id h.1 h.2] at ho
    obtain ⟨h0, h1⟩ := h
    rw [told_yes h0 h1, fits_yes h0 h1]
    go_enter Try.func25, Try.ntmps25
    go_wp2
    go_ret2
    exact ⟨rfl, rfl⟩
  · have ho := (sub_ov a0 a1 b0 b1).2 h
    rw [told_no h, fits_no h]
    clear h
    go_enter Try.func25, Try.ntmps25
    go_wp2
    go_ret2
    exact ⟨rfl, rfl⟩
end Go.Proofs.Ytmgkmekknhggbaa.FixA


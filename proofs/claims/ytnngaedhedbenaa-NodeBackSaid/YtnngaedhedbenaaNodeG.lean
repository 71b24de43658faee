/-
  What node.Unpack's own function hands back: a field of the word that it has captured.
-/
import Derived.Test.YtnngaedhedbenaaNodeQ
set_option linter.unusedVariables false
set_option linter.unusedSimpArgs false
set_option maxRecDepth 100000
namespace Go.Proofs.Ytnngaedhedbenaa.NodeE
open Go Go.RowKit Go.Proofs.Ytnngaedhedbenaa.Ev Go.Proofs.Ytnngaedhedbenaa.BitLib Go.Proofs.Ytnngaedhedbenaa.BitsA Go.Proofs.Ytnngaedhedbenaa.NodeB
abbrev HB (b : Blk) : Heap := upd (fun _ => none) 0 (some b)
noncomputable def getS : List Value → Heap → Nat → Option Res := fun args H nm =>
  match args with
  | [.int .i64 a, .int .i64 k, .pointer (some ⟨b, 0, none⟩)] =>
    match H b with
    | some (.cells [.int .u64 w] ty) => some ⟨i64 (getI w a k), [], [b], [U64 w, fld a k, getI w a k ≤ 9223372036854775807]⟩
    | _ => none
  | _ => none
theorem getI_nn (w a k : Int) : 0 ≤ getI w a k := Int.emod_nonneg _ (by have : (0 : Int) < 2 ^ k.toNat := Int.pow_pos (by decide); omega)
theorem get_spec (w a k : Int) (ty : TypeId) (hw : U64 w) (hk : fld a k) (hr : getI w a k ≤ 9223372036854775807) :
    ∃ H', CallSpec Try.prog 35 [i64 a, i64 k, .pointer (some ⟨0, 0, none⟩)] (HB (.cells [u64 w] ty)) 1 (i64 (getI w a k)) H' ∧ H' 0 = some (.cells [u64 w] ty) := by
  let ob : List Prop := [i64 (IntKind.i64.wrap (getI w a k)) = i64 (getI w a k), U64 w, fld a k]
  have hob : all ob := by
    refine ⟨?_, hw, hk, trivial⟩
    have := getI_nn w a k
    rw [wrap_id (show I64 _ from ⟨by omega, hr⟩)]
  have hspec := spec_run (f := 35) (fn := Try.f35) (args := [i64 a, i64 k, .pointer (some ⟨0, 0, none⟩)]) (H0 := HB (.cells [u64 w] ty)) (nx := 1) hm (auto0_ok t_rpack_ok)
    (hint := hints [(1, 4, { v := some (i64 (getI w a k)) })]) (ws := []) Try.func35 rfl (v := i64 (getI w a k)) (by kernel_rfl)
    (cast (by kernel_rfl : all ob = all (oOb (runH Try.prog (auto0 t_rpack) (hints [(1, 4, { v := some (i64 (getI w a k)) })]) [] Try.f35 _ [i64 a, i64 k, .pointer (some ⟨0, 0, none⟩)] (HB (.cells [u64 w] ty)) 1))) hob)
  refine ⟨_, hspec, ?_⟩
  kernel_rfl
theorem get_sum : SumOK Try.prog 35 getS := by
  refine ⟨en Try.func35 rfl, ?_, ?_⟩
  · intro args H nm r hr hob M w0 g B W hH hargs hn
    unfold getS at hr
    split at hr
    · rename_i a k b
      split at hr
      · rename_i w ty hb
        simp only [Option.some.injEq] at hr
        subst hr
        obtain ⟨H', hs, h0⟩ := get_spec w a k ty (hob _ (by simp)) (hob _ (by simp)) (hob _ (by simp))
        have := spec_calls (old := [(0, b)]) (new := []) (nm := nm) hs (by simp) (by simp) (fun j k' h => by
            simp at h; obtain ⟨rfl, rfl⟩ := h
            exact ⟨by omega, _, hb, by simp [HB, upd_self], fun c hc => by simp at hc; subst hc; rfl⟩)
          (fun j b' h => by
            by_cases e : j = 0
            · subst e; exact ⟨b, by simp⟩
            · simp [HB, upd_ne _ _ e] at h)
          (fun m k h => by simp at h)
          (fun j k' h b' hb' => by
            simp at h; obtain ⟨rfl, rfl⟩ := h
            rw [h0] at hb'; simp at hb'; subst hb'
            exact ⟨fun c hc => by simp at hc; subst hc; rfl, fun _ => ⟨.cells [u64 w] ty, by simp [HB, upd_self], rfl⟩⟩)
          (fun g1 g2 _ => rfl)
          (fun u hu g1 g2 hg => by
            rcases List.mem_cons.1 hu with rfl | hu
            · exact (ren_gnd g1 rfl).trans (ren_gnd g2 rfl).symm
            rcases List.mem_cons.1 hu with rfl | hu
            · exact (ren_gnd g1 rfl).trans (ren_gnd g2 rfl).symm
            · simp at hu; subst hu
              have := hg 0 b (by simp)
              show Value.pointer (some ⟨g1.blk 0, g1.base 0 + 0, none⟩) = Value.pointer (some ⟨g2.blk 0, g2.base 0 + 0, none⟩)
              rw [this.1, this.2.1])
          hH hn
        refine this.mono ?_
        rintro e w' ⟨g', h1, h2, h3, h4⟩
        refine ⟨g', h1, ?_, h3, h4⟩
        have e1 : apU (usOf ([(0, b)] ++ []) H') H = H := by
          simp only [List.append_nil, usOf, List.map_cons, List.map_nil, h0, apU]
          funext i
          by_cases e : i = b
          · subst e; rw [upd_self, hb]
          · rw [upd_ne _ _ e]
        rw [e1] at h2; exact h2
      · simp at hr
    · simp at hr
  · intro args H nm r hr H' hH'
    unfold getS at hr ⊢
    split at hr
    · rename_i a k b
      split at hr
      · rename_i w ty hb
        simp only [Option.some.injEq] at hr
        subst hr
        have : H' b = H b := hH' b (by simp)
        simp only [this, hb]
      · simp at hr
    · simp at hr
noncomputable def t_get : Sums := upd t_rpack 35 (some getS)
theorem t_get_ok : SumsOK Try.prog t_get := sums_cons t_rpack_ok get_sum
end Go.Proofs.Ytnngaedhedbenaa.NodeE


/-
  The law copselaw4.SpanSize: the run of its body, and the numbers that it asks for.
-/
import Derived.Test.YtdeedabhgfmgjaaSizeE
set_option linter.unusedVariables false
set_option linter.unusedSimpArgs false
set_option maxRecDepth 100000
namespace Go.Proofs.Ytdeedabhgfmgjaa.WkSpanSize
open Go Go.RowKit Go.Proofs.Ytdeedabhgfmgjaa.Ev Go.Proofs.Ytdeedabhgfmgjaa.SpanE Go.Proofs.Ytdeedabhgfmgjaa.Within
theorem law_run (lo size a l k t : Int) (hob : all [I64 ((1 : Int)), I64 ((9 : Int)), I64 ((9 : Int)), (9 : Int) ≤ (9223372036854775807 : Int), I64 ((4 : Int)), (9 : Int) ≤ (9223372036854775807 : Int), Value.bool true = Value.bool true, Value.bool true = Value.bool true, Value.bool true = Value.bool true, Value.bool true = Value.bool true, Value.bool (sizeB l (l + k)) = Value.bool true, Value.bool (sizeN l (l + k) == IntKind.i64.wrap (sizeN l (l + k - (1 : Int)) + (1 : Int))) = Value.bool true, Value.bool (IntKind.i64.wrap (sizeN (cutLo l (l + k - (1 : Int)) (l + t)) (cutHi l (l + k - (1 : Int)) (l + t)) + sizeN (cutLo' l (l + k - (1 : Int)) (l + t)) (cutHi' l (l + k - (1 : Int)) (l + t))) == sizeN l (l + k - (1 : Int))) = Value.bool true, Value.bool (sizeB (cutLo' l (l + k - (1 : Int)) (l + t)) (cutHi' l (l + k - (1 : Int)) (l + t))) = Value.bool true, Value.bool (sizeB (cutLo l (l + k - (1 : Int)) (l + t)) (cutHi l (l + k - (1 : Int)) (l + t))) = Value.bool true, Value.bool (sizeB l (l + k - (1 : Int))) = Value.bool true, Value.bool (sizeN l (l + k - (1 : Int)) == k) = Value.bool true, I64 ((9223372036854775807 : Int)), I64 ((-9223372036854775808 : Int)), I64 ((-1 : Int)), I64 ((9223372036854775807 : Int)), I64 ((-9223372036854775808 : Int)), I64 ((9223372036854775807 : Int)), I64 l, I64 (l + k), Value.int IntKind.i64 (IntKind.i64.wrap (l + k)) = Value.int IntKind.i64 (l + k), I64 (cutLo' l (l + k - (1 : Int)) (l + t)), I64 (cutHi' l (l + k - (1 : Int)) (l + t)), I64 (cutLo l (l + k - (1 : Int)) (l + t)), I64 (cutHi l (l + k - (1 : Int)) (l + t)), I64 (l + t), l + k - (1 : Int) ≤ (9223372036854775807 : Int), Value.int IntKind.i64 (IntKind.i64.wrap (l + t)) = Value.int IntKind.i64 (l + t), Value.int IntKind.i64 (withinS a ((-3 : Int)) ((99 : Int))) = Value.int IntKind.i64 t, I64 a, (-2305843009213693952 : Int) ≤ (-3 : Int), (-3 : Int) ≤ (99 : Int), (99 : Int) ≤ (2305843009213693952 : Int), I64 l, I64 (l + k - (1 : Int)), Value.int IntKind.i64 (IntKind.i64.wrap (l + k - (1 : Int))) = Value.int IntKind.i64 (l + k - (1 : Int)), Value.int IntKind.i64 (IntKind.i64.wrap (l + k)) = Value.int IntKind.i64 (l + k), Value.int IntKind.i64 (withinS size ((0 : Int)) ((1152921504606846976 : Int))) = Value.int IntKind.i64 k, I64 size, (-2305843009213693952 : Int) ≤ (0 : Int), (0 : Int) ≤ (1152921504606846976 : Int), (1152921504606846976 : Int) ≤ (2305843009213693952 : Int), Value.int IntKind.i64 (withinS lo ((-1152921504606846976 : Int)) ((1152921504606846976 : Int))) = Value.int IntKind.i64 l, I64 lo, (-2305843009213693952 : Int) ≤ (-1152921504606846976 : Int), (-1152921504606846976 : Int) ≤ (1152921504606846976 : Int), (1152921504606846976 : Int) ≤ (2305843009213693952 : Int)]) : ∀ w, Calls Try.prog 6 ([i64 lo, i64 size, i64 a] : List Value).toArray w fun e w' => e = .returned (.bool true) ∧ Below w.heap.size w w' :=
  (calls_runO hm (auto0_ok t_size_ok) (hints ([(1,1,{v := some (i64 l)}),(1,3,{v := some (i64 k)}),(2,3,{v := some (i64 (l+k))}),(2,4,{v := some (i64 (l+k-1))}),(4,3,{v := some (i64 t)}),(4,4,{v := some (i64 (l+t))}),(7,3,{v := some (i64 (l+k))})]++([2,4,7,10,17,23,26,30,34,38,41].map fun i => (11,i,ht true)))) [] _ (by kernel_rfl) hob).2.2
theorem walk (w : World) (lo : Int) (_w0 : (Lit.int .i64 lo).wf = true) (size : Int) (_w1 : (Lit.int .i64 size).wf = true) (a : Int) (_w2 : (Lit.int .i64 a).wf = true) :
    Calls Try.prog 6 #[.int .i64 lo, .int .i64 size, .int .i64 a] w fun e w' => e = .returned (.bool true) ∧ Below w.heap.size w w' := by
  obtain ⟨b0, b1⟩ := BitLib.wf_i64 _w0
  obtain ⟨b2, b3⟩ := BitLib.wf_i64 _w1
  obtain ⟨b4, b5⟩ := BitLib.wf_i64 _w2
  obtain ⟨l0, l1⟩ := within_range lo (lo := -1152921504606846976) (hi := 1152921504606846976) (by omega)
  obtain ⟨k0, k1⟩ := within_range size (lo := 0) (hi := 1152921504606846976) (by omega)
  obtain ⟨t0, t1⟩ := within_range a (lo := -3) (hi := 99) (by omega)
  generalize hl : withinS lo (-1152921504606846976) 1152921504606846976 = l at *
  generalize hk : withinS size 0 1152921504606846976 = k at *
  generalize ht : withinS a (-3) 99 = t at *
  refine law_run lo size a l k t ?_ w
  rw [hl, hk, ht]
  simp only [all]
  have s1 : sizeN l (l + k - 1) = k := by unfold sizeN FixA.told; split <;> (try split) <;> omega
  have s2 : sizeB l (l + k - 1) = true := by unfold sizeB FixA.fits; split <;> (try exact decide_eq_true (by omega)); rfl
  have s3 : sizeN l (l + k) = k + 1 := by unfold sizeN FixA.told; split <;> (try split) <;> omega
  have s4 : sizeB l (l + k) = true := by unfold sizeB FixA.fits; split <;> (try exact decide_eq_true (by omega)); rfl
  obtain ⟨c1, c2, c3, c4⟩ : (I64 (cutLo l (l + k - 1) (l + t)) ∧ I64 (cutHi l (l + k - 1) (l + t)) ∧ I64 (cutLo' l (l + k - 1) (l + t)) ∧ I64 (cutHi' l (l + k - 1) (l + t))) ∧ sizeB (cutLo l (l + k - 1) (l + t)) (cutHi l (l + k - 1) (l + t)) = true ∧ sizeB (cutLo' l (l + k - 1) (l + t)) (cutHi' l (l + k - 1) (l + t)) = true ∧
      sizeN (cutLo l (l + k - 1) (l + t)) (cutHi l (l + k - 1) (l + t)) + sizeN (cutLo' l (l + k - 1) (l + t)) (cutHi' l (l + k - 1) (l + t)) = k := by
    rcases cut_cases l (l + k - 1) (l + t) with ⟨e1, e2, e3, e4, h⟩ | ⟨e1, e2, e3, e4, h⟩ | ⟨e1, e2, e3, e4, h⟩ | ⟨e1, e2, e3, e4, h⟩ <;> rw [e1, e2, e3, e4] <;>
      refine ⟨⟨⟨by omega, by omega⟩, ⟨by omega, by omega⟩, ⟨by omega, by omega⟩, by omega, by omega⟩, ?_, ?_, ?_⟩ <;> simp only [sizeB, sizeN, FixA.told, FixA.fits, decide_eq_true_eq] <;> (repeat' split) <;> first | rfl | omega | exact decide_eq_true (by omega)
  rw [s1, s2, s3, s4, c2, c3, c4, wrap_id (n := l + k) ⟨by omega, by omega⟩, wrap_id (n := k + 1) ⟨by omega, by omega⟩, wrap_id (n := l + t) ⟨by omega, by omega⟩, wrap_id (n := l + k - 1) ⟨by omega, by omega⟩, wrap_id (n := k) ⟨by omega, by omega⟩]
  simp only [beq_self_eq_true, I64] at c1 ⊢
  simp only [true_and, and_true]
  omega
end Go.Proofs.Ytdeedabhgfmgjaa.WkSpanSize


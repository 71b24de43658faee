/-
  Equality of values that are nothing but numbers and bools: what the machine reckons is the cells' equality. No condition.
-/
import Derived.Test.YtmgkmekknhggbaaEvSound
import Derived.DeepKeys
import Derived.Laws.StructEq
set_option linter.unusedVariables false
set_option linter.unusedSimpArgs false
namespace Go.Proofs.Ytmgkmekknhggbaa.Ev
open Go Go.RowKit
theorem intKindEq_spec {k k' : IntKind} (h : intKindEq k k' = true) : k = k' := by
  cases k <;> cases k' <;> first | rfl | simp [intKindEq] at h
theorem fitsC_length : ∀ {l : List (Option IntKind)} {cs : List Value}, fitsC l cs = true → cs.length = l.length
  | [], [], _ => rfl
  | [], _ :: _, h => by simp [fitsC] at h
  | a :: l, [], h => by cases a <;> simp [fitsC] at h
  | none :: l, c :: cs, h => by
    cases c <;> simp only [fitsC, Bool.false_eq_true] at h
    simp [fitsC_length h]
  | some k :: l, c :: cs, h => by
    cases c <;> simp only [fitsC, Bool.false_eq_true] at h
    rename_i k' n
    cases hk : intKindEq k k' <;> simp only [hk, cond_true, cond_false, Bool.false_eq_true] at h
    simp [fitsC_length h]
theorem fitsC_append : ∀ {l l' : List (Option IntKind)} {cs : List Value}, fitsC (l ++ l') cs = true → ∃ a b, cs = a ++ b ∧ fitsC l a = true ∧ fitsC l' b = true
  | [], l', cs, h => ⟨[], cs, rfl, rfl, h⟩
  | none :: l, l', cs, h => by
    cases cs with
    | nil => simp [fitsC] at h
    | cons c cs =>
      cases c <;> simp only [List.cons_append, fitsC, Bool.false_eq_true] at h
      obtain ⟨a, b, rfl, h1, h2⟩ := fitsC_append h
      exact ⟨_ :: a, b, rfl, by simpa [fitsC] using h1, h2⟩
  | some k :: l, l', cs, h => by
    cases cs with
    | nil => simp [fitsC] at h
    | cons c cs =>
      cases c <;> simp only [List.cons_append, fitsC, Bool.false_eq_true] at h
      rename_i k' n
      cases hk : intKindEq k k' <;> simp only [hk, cond_true, cond_false, Bool.false_eq_true] at h
      obtain ⟨a, b, rfl, h1, h2⟩ := fitsC_append h
      exact ⟨_ :: a, b, rfl, by simp [fitsC, hk, h1], h2⟩
theorem cellsEq_cons (x y : Value) (xs ys : List Value) (h : xs.length = ys.length) : cellsEq (x :: xs) (y :: ys) = (leafEq x y && cellsEq xs ys) := by
  cases xs with
  | nil => cases ys with
    | nil => simp [cellsEq]
    | cons => simp at h
  | cons a xs => cases ys with
    | nil => simp at h
    | cons b ys => rfl
theorem cellsEq_append : ∀ {a b c d : List Value}, a.length = b.length → c.length = d.length → cellsEq (a ++ c) (b ++ d) = (cellsEq a b && cellsEq c d)
  | [], [], c, d, _, _ => by simp [cellsEq]
  | x :: a, y :: b, c, d, h, h' => by
    rw [List.cons_append, List.cons_append, cellsEq_cons _ _ _ _ (by simp at h ⊢; omega), cellsEq_cons _ _ _ _ (by simpa using h), cellsEq_append (by simpa using h) h', Bool.and_assoc]
  | [], _ :: _, c, d, h, _ => by simp at h
  | _ :: _, [], c, d, h, _ => by simp at h
/-- A value with these cells, as its type wants it. -/
def Shape (P : Program) (t : TypeId) (cs : List Value) (v : Value) : Prop :=
  (aggT P t = some true ∧ v = .agg ⟨cs⟩) ∨ (aggT P t = some false ∧ cs = [v])
section
variable {P : Program}
theorem part_of {t : TypeId} {xs : List Value} {off : Nat} {l : List Value} (h : (xs.drop off).take l.length = l) (hs : sizeOfT P t = some l.length) {b : Bool} (ha : aggT P t = some b) (hb : b = false → l.length = 1) :
    ∃ v, (∀ w, (part t ⟨xs⟩ off).run P w = .ok v w) ∧ Shape P t l v := by
  obtain ⟨d, _, hagg⟩ := aggT_spec ha
  cases b with
  | true =>
    refine ⟨.agg ⟨l⟩, fun w => ?_, Or.inl ⟨ha, rfl⟩⟩
    simp [part, hagg, sizeOfT_spec hs, h]
  | false =>
    have h1 := hb rfl
    obtain ⟨v, rfl⟩ := List.length_eq_one_iff.1 h1
    refine ⟨v, fun w => ?_, Or.inr ⟨ha, rfl⟩⟩
    have : xs[off]? = some v := by
      have := congrArg (·[0]?) h
      simp at this
      exact this
    simp [part, hagg, this]
/-- The lists of cells are equal just if the machine says so. -/
def EqF (P : Program) (dd : Nat) (t : TypeId) (l : List (Option IntKind)) : Prop :=
  ∀ (w : World) (xs ys : List Value) (x y : Value), fitsC l xs = true → fitsC l ys = true → Shape P t xs x → Shape P t ys y → (Op.equalIn dd t x y).run P w = .ok (cellsEq xs ys) w
theorem layout_size : ∀ {d : Nat} {t : TypeId} {l : List (Option IntKind)}, layout P d t = some l → ∃ b, aggT P t = some b ∧ (b = true → sizeOfT P t = some l.length) ∧ (b = false → l.length = 1)
  | 0, t, l, h => by simp [layout] at h
  | d + 1, t, l, h => by
    simp only [layout] at h
    split at h
    · rename_i hu
      simp at h; subst h
      exact ⟨false, by simp [aggT, hu], by simp, by simp⟩
    · rename_i k hu
      simp at h; subst h
      exact ⟨false, by simp [aggT, hu], by simp, by simp⟩
    · rename_i fs i hu hi
      cases hs : P.stoodInHeld t <;> simp only [hs, cond_true, cond_false, reduceCtorEq] at h
      split at h
      · rename_i l' hl
        cases hb : Nat.beq l'.length i.size <;> simp only [hb, cond_true, cond_false, reduceCtorEq, Option.some.injEq] at h
        subst h
        exact ⟨true, by simp [aggT, hu], fun _ => by simp [sizeOfT, hi, Nat.eq_of_beq_eq_true hb], by simp⟩
      · simp at h
    · rename_i n e i hu hi
      split at h
      · rename_i l' hl
        cases hb : Nat.beq (replL l' n).length i.size <;> simp only [hb, cond_true, cond_false, reduceCtorEq] at h
        split at h
        · rename_i j hj
          cases hb2 : Nat.beq j.size l'.length <;> simp only [hb2, cond_true, cond_false, reduceCtorEq, Option.some.injEq] at h
          subst h
          exact ⟨true, by simp [aggT, hu], fun _ => by simp [sizeOfT, hi, Nat.eq_of_beq_eq_true hb], by simp⟩
        · simp at h
      · simp at h
    · simp at h
theorem eqFields_ok {d dd : Nat} (IH : ∀ t l, layout P d t = some l → EqF P dd t l) (w : World) (xs ys : List Value) : ∀ (fs : List Field) (off : Nat) (l : List (Option IntKind)), layFields (layout P d) fs off = some l → ∀ rx ry, xs.drop off = rx → ys.drop off = ry → fitsC l rx = true → fitsC l ry = true →
    (Op.eqFields dd ⟨xs⟩ ⟨ys⟩ fs).run P w = .ok (cellsEq rx ry) w
  | [], off, l, h, rx, ry, hx, hy, fx, fy => by
    simp [layFields] at h; subst h
    have e1 := fitsC_length fx
    have e2 := fitsC_length fy
    have : rx = [] := List.eq_nil_of_length_eq_zero (by simpa using e1)
    subst this
    have : ry = [] := List.eq_nil_of_length_eq_zero (by simpa using e2)
    subst this
    simp [Op.eqFields, cellsEq]
  | f :: fs, off, l, h, rx, ry, hx, hy, fx, fy => by
    simp only [layFields] at h
    cases h1 : Nat.beq f.offset off <;> simp only [h1, cond_true, cond_false, reduceCtorEq] at h
    cases h2 : (f.name == "_") <;> simp only [h2, cond_true, cond_false, reduceCtorEq] at h
    have hoff := Nat.eq_of_beq_eq_true h1
    split at h
    · rename_i lf hlf
      split at h
      · rename_i lr hlr
        simp at h; subst h
        obtain ⟨ax, bx, rfl, f1, f2⟩ := fitsC_append fx
        obtain ⟨ay, by', rfl, f3, f4⟩ := fitsC_append fy
        obtain ⟨b, ha, hb1, hb2⟩ := layout_size hlf
        have lx := fitsC_length f1
        have ly := fitsC_length f3
        have l2x := fitsC_length f2
        have l2y := fitsC_length f4
        have hsz : b = true → sizeOfT P f.type = some ax.length := fun e => by rw [lx]; exact hb1 e
        have partx : ∀ (zs az bz : List Value), zs.drop off = az ++ bz → fitsC lf az = true → ∃ v, (∀ w, (part f.type ⟨zs⟩ f.offset).run P w = .ok v w) ∧ Shape P f.type az v := by
          intro zs az bz hz fz
          have lz := fitsC_length fz
          obtain ⟨dsc, hu, hagg⟩ := aggT_spec ha
          cases b with
          | true =>
            refine part_of (l := az) ?_ (by rw [lz]; exact hb1 rfl) ha (by simp)
            rw [hoff, hz]; simp
          | false =>
            have h3 := hb2 rfl
            obtain ⟨v, rfl⟩ := List.length_eq_one_iff.1 (by rw [lz]; exact h3)
            refine ⟨v, fun w => ?_, Or.inr ⟨ha, rfl⟩⟩
            have : zs[off]? = some v := by
              have := congrArg (·[0]?) hz
              simpa using this
            simp [part, hagg, hoff, this]
        obtain ⟨vx, px, sx⟩ := partx xs ax bx hx f1
        obtain ⟨vy, py, sy⟩ := partx ys ay by' hy f3
        have he := IH f.type lf hlf w ax ay vx vy f1 f3 sx sy
        have hr := eqFields_ok IH w xs ys fs (off + lf.length) lr hlr bx by' (by rw [← List.drop_drop, hx, ← lx]; simp) (by rw [← List.drop_drop, hy, ← ly]; simp) f2 f4
        have hname : f.name ≠ "_" := by simpa using h2
        simp only [Op.eqFields, hname, ne_eq, not_false_eq_true, if_true, Sem.run_bind, px, py, he, Result.andThen_ok]
        rw [cellsEq_append (by rw [lx, ly]) (by rw [l2x, l2y])]
        cases cellsEq ax ay
        · simp
        · simpa using hr
      · simp at h
    · simp at h
theorem eqItems_ok {dd : Nat} {e : TypeId} {l : List (Option IntKind)} (IH : EqF P dd e l) (hc : P.cellsOf e = l.length) {b : Bool} (ha : aggT P e = some b) (hb : b = true → sizeOfT P e = some l.length) (hb2 : b = false → l.length = 1) (w : World) (xs ys : List Value) :
    ∀ (m k : Nat) (rx ry : List Value), xs.drop (k * l.length) = rx → ys.drop (k * l.length) = ry → fitsC (replL l m) rx = true → fitsC (replL l m) ry = true → (Op.eqItems dd e (P.cellsOf e) ⟨xs⟩ ⟨ys⟩ (List.range' k m)).run P w = .ok (cellsEq rx ry) w
  | 0, k, rx, ry, hx, hy, fx, fy => by
    have e1 := fitsC_length fx
    have e2 := fitsC_length fy
    have : rx = [] := List.eq_nil_of_length_eq_zero (by simpa [replL] using e1)
    subst this
    have : ry = [] := List.eq_nil_of_length_eq_zero (by simpa [replL] using e2)
    subst this
    simp [Op.eqItems, cellsEq]
  | m + 1, k, rx, ry, hx, hy, fx, fy => by
    obtain ⟨ax, bx, rfl, f1, f2⟩ := fitsC_append fx
    obtain ⟨ay, by', rfl, f3, f4⟩ := fitsC_append fy
    have lx := fitsC_length f1
    have ly := fitsC_length f3
    have l2x := fitsC_length f2
    have l2y := fitsC_length f4
    have partx : ∀ (zs az bz : List Value), zs.drop (k * l.length) = az ++ bz → fitsC l az = true → ∃ v, (∀ w, (part e ⟨zs⟩ (k * P.cellsOf e)).run P w = .ok v w) ∧ Shape P e az v := by
      intro zs az bz hz fz
      have lz := fitsC_length fz
      obtain ⟨dsc, hu, hagg⟩ := aggT_spec ha
      rw [hc]
      cases b with
      | true =>
        refine part_of (l := az) ?_ (by rw [lz]; exact hb rfl) ha (by simp)
        rw [hz]; simp
      | false =>
        obtain ⟨v, rfl⟩ := List.length_eq_one_iff.1 (by rw [lz]; exact hb2 rfl)
        refine ⟨v, fun w => ?_, Or.inr ⟨ha, rfl⟩⟩
        have : zs[k * l.length]? = some v := by
          have := congrArg (·[0]?) hz
          simpa using this
        simp [part, hagg, this]
    obtain ⟨vx, px, sx⟩ := partx xs ax bx hx f1
    obtain ⟨vy, py, sy⟩ := partx ys ay by' hy f3
    have he := IH w ax ay vx vy f1 f3 sx sy
    have hr := eqItems_ok IH hc ha hb hb2 w xs ys m (k + 1) bx by' (by rw [Nat.succ_mul, ← List.drop_drop, hx, ← lx]; simp) (by rw [Nat.succ_mul, ← List.drop_drop, hy, ← ly]; simp) f2 f4
    rw [List.range'_succ]
    simp only [Op.eqItems, Sem.run_bind, px, py, he, Result.andThen_ok]
    rw [cellsEq_append (by rw [lx, ly]) (by rw [l2x, l2y])]
    cases cellsEq ax ay
    · simp
    · simpa using hr
theorem eqF_ok : ∀ (d : Nat) (t : TypeId) (l : List (Option IntKind)), layout P d t = some l → ∀ dd, d ≤ dd → EqF P dd t l
  | 0, t, l, h, _, _ => by simp [layout] at h
  | d + 1, t, l, h, dd, hdd => by
    obtain ⟨dd, rfl⟩ : ∃ e, dd = e + 1 := ⟨dd - 1, by omega⟩
    intro w xs ys x y fx fy sx sy
    have h0 := h
    simp only [layout] at h
    split at h
    · rename_i hu
      simp at h; subst h
      have ha : aggT P t = some false := by simp [aggT, hu]
      rcases sx with ⟨h1, _⟩ | ⟨_, rfl⟩
      · rw [ha] at h1; simp at h1
      rcases sy with ⟨h1, _⟩ | ⟨_, rfl⟩
      · rw [ha] at h1; simp at h1
      cases x <;> simp only [fitsC, Bool.false_eq_true] at fx
      cases y <;> simp only [fitsC, Bool.false_eq_true] at fy
      rw [run_equalIn_bool' w dd t _ _ hu]
      simp [cellsEq, leafEq]
    · rename_i k hu
      simp at h; subst h
      have ha : aggT P t = some false := by simp [aggT, hu]
      rcases sx with ⟨h1, _⟩ | ⟨_, rfl⟩
      · rw [ha] at h1; simp at h1
      rcases sy with ⟨h1, _⟩ | ⟨_, rfl⟩
      · rw [ha] at h1; simp at h1
      cases x <;> simp only [fitsC, Bool.false_eq_true] at fx
      cases y <;> simp only [fitsC, Bool.false_eq_true] at fy
      rename_i k1 a k2 b
      cases hk1 : intKindEq k k1 <;> simp [hk1] at fx
      cases hk2 : intKindEq k k2 <;> simp [hk2] at fy
      obtain rfl := intKindEq_spec hk1
      obtain rfl := intKindEq_spec hk2
      rw [run_equalIn_int w dd t k k a b hu]
      simp [cellsEq, leafEq]
    · rename_i fs i hu hi
      cases hs : P.stoodInHeld t <;> simp only [hs, cond_true, cond_false, reduceCtorEq] at h
      split at h
      · rename_i l' hl
        cases hb : Nat.beq l'.length i.size <;> simp only [hb, cond_true, cond_false, reduceCtorEq, Option.some.injEq] at h
        subst h
        have ha : aggT P t = some true := by simp [aggT, hu]
        rcases sx with ⟨_, rfl⟩ | ⟨h1, _⟩
        · rcases sy with ⟨_, rfl⟩ | ⟨h1, _⟩
          · have hf : P.fieldsOf t = fs := by simp [Program.fieldsOf, hu]
            rw [run_equalIn_struct w dd t ⟨xs⟩ ⟨ys⟩ (by rw [hf]; exact hu) hs, hf]
            exact eqFields_ok (fun t l hl => eqF_ok d t l hl dd (by omega)) w xs ys fs.toList 0 l' hl xs ys (by simp) (by simp) fx fy
          · rw [ha] at h1; simp at h1
        · rw [ha] at h1; simp at h1
      · simp at h
    · rename_i n e i hu hi
      split at h
      · rename_i l' hl
        cases hb : Nat.beq (replL l' n).length i.size <;> simp only [hb, cond_true, cond_false, reduceCtorEq] at h
        split at h
        · rename_i j hj
          cases hb2 : Nat.beq j.size l'.length <;> simp only [hb2, cond_true, cond_false, reduceCtorEq, Option.some.injEq] at h
          subst h
          have ha : aggT P t = some true := by simp [aggT, hu]
          obtain ⟨b, hae, h1, h2⟩ := layout_size hl
          rcases sx with ⟨_, rfl⟩ | ⟨h1, _⟩
          · rcases sy with ⟨_, rfl⟩ | ⟨h1, _⟩
            · rw [run_equalIn_array w dd ⟨xs⟩ ⟨ys⟩ hu hj, List.range_eq_range']
              exact eqItems_ok (eqF_ok d e l' hl dd (by omega)) (by simp [Program.cellsOf, hj, Nat.eq_of_beq_eq_true hb2]) hae h1 h2 w xs ys n 0 xs ys (by simp) (by simp) fx fy
            · rw [ha] at h1; simp at h1
          · rw [ha] at h1; simp at h1
        · simp at h
      · simp at h
    · simp at h
theorem aggT'_eq (t : TypeId) : flatV.aggT' P t = aggT P t := rfl
theorem flatV_spec {t : TypeId} {v : Value} (h : flatV P t v = true) : ∃ l cs, layout P 9 t = some l ∧ fitsC l cs = true ∧ Shape P t cs v ∧ v.cells = ⟨cs⟩ := by
  unfold flatV at h
  simp only [aggT'_eq] at h
  split at h
  · rename_i l hl ha
    split at h
    · rename_i cs
      exact ⟨l, cs, hl, h, Or.inl ⟨ha, rfl⟩, rfl⟩
    · simp at h
  · rename_i l hl ha
    refine ⟨l, [v], hl, h, Or.inr ⟨ha, rfl⟩, ?_⟩
    cases v <;> first | rfl | (cases l with
      | nil => simp [fitsC] at h
      | cons a l => cases a <;> simp [fitsC] at h)
  · simp at h
theorem flat_equal {t : TypeId} {x y : Value} (hx : flatV P t x = true) (hy : flatV P t y = true) (w : World) : (Op.equal t x y).run P w = .ok (keyEq x y) w := by
  obtain ⟨l, xs, hl, fx, sx, cx⟩ := flatV_spec hx
  obtain ⟨l', ys, hl', fy, sy, cy⟩ := flatV_spec hy
  rw [hl] at hl'; simp at hl'; subst hl'
  have := eqF_ok 9 t l hl Op.maxDepth (by decide) w xs ys x y fx fy sx sy
  rw [Op.equal, this]
  congr 1
  rcases sx with ⟨h1, rfl⟩ | ⟨h1, rfl⟩
  · rcases sy with ⟨_, rfl⟩ | ⟨h2, rfl⟩
    · rfl
    · rw [h1] at h2; simp at h2
  · rcases sy with ⟨h2, rfl⟩ | ⟨h2, rfl⟩
    · rw [h1] at h2; simp at h2
    · show leafEq x y = keyEq x y
      unfold keyEq
      split
      · simp only [leafEq]
        exfalso
        have h9 := fitsC_length fx
        cases l with
        | nil => simp at h9
        | cons a l => cases a <;> simp [fitsC] at fx
      · rfl
theorem flat_gnd {t : TypeId} {v : Value} (h : flatV P t v = true) : gnd v = true := by
  obtain ⟨l, cs, hl, fx, sx, cx⟩ := flatV_spec h
  have hall : ∀ {l : List (Option IntKind)} {cs : List Value}, fitsC l cs = true → allB leafG cs = true := by
    intro l
    induction l with
    | nil => intro cs h; cases cs <;> simp_all [fitsC, allB]
    | cons a l ih =>
      intro cs h
      cases cs with
      | nil => cases a <;> simp [fitsC] at h
      | cons c cs =>
        cases a with
        | none =>
          cases c <;> simp only [fitsC, Bool.false_eq_true] at h
          simp [allB, leafG, ih h]
        | some k =>
          cases c <;> simp only [fitsC, Bool.false_eq_true] at h
          rename_i k' n
          cases hk : intKindEq k k' <;> simp only [hk, cond_true, cond_false, Bool.false_eq_true] at h
          simp [allB, leafG, ih h]
  rcases sx with ⟨_, rfl⟩ | ⟨_, rfl⟩
  · exact hall fx
  · have := hall fx
    simp only [allB] at this
    cases hv : leafG v
    · rw [hv] at this; simp at this
    · have e : gnd v = leafG v := by cases v <;> first | (simp [leafG] at hv; done) | simp only [gnd, gnd1]
      rw [e, hv]
end
end Go.Proofs.Ytmgkmekknhggbaa.Ev

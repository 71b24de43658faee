/-
  Maps whose keys are nothing but numbers and bools: what the machine's operations do to their entries. No condition.
-/
import Derived.Test.YtmgkmekknhggbaaEvEq
set_option linter.unusedVariables false
set_option linter.unusedSimpArgs false
namespace Go.Proofs.Ytmgkmekknhggbaa.Ev
open Go Go.RowKit
theorem layEq_spec : ∀ {l m : List (Option IntKind)}, layEq l m = true → l = m
  | [], [], _ => rfl
  | [], _ :: _, h => by simp [layEq] at h
  | a :: _, [], h => by cases a <;> simp [layEq] at h
  | none :: l, none :: m, h => by rw [layEq_spec (l := l) (m := m) (by simpa [layEq] using h)]
  | none :: l, some k :: m, h => by simp [layEq] at h
  | some k :: l, none :: m, h => by simp [layEq] at h
  | some k :: l, some k' :: m, h => by
    simp only [layEq] at h
    cases hk : intKindEq k k' <;> simp only [hk, cond_true, cond_false, Bool.false_eq_true] at h
    rw [intKindEq_spec hk, layEq_spec h]
theorem boolEq_spec {a b : Bool} (h : boolEq a b = true) : a = b := by cases a <;> cases b <;> first | rfl | simp [boolEq] at h
section
variable {P : Program} {lay : List (Option IntKind)} {agg : Bool} {ek : Option IntKind}
theorem keyTypeIs_spec {kt : TypeId} (h : keyTypeIs P kt lay agg = true) : layout P 9 kt = some lay ∧ aggT P kt = some agg := by
  unfold keyTypeIs at h
  simp only [aggT'_eq] at h
  split at h
  · rename_i l a hl ha
    cases h1 : layEq l lay <;> simp only [h1, cond_true, cond_false, Bool.false_eq_true] at h
    rw [← layEq_spec h1, ← boolEq_spec h]
    exact ⟨hl, ha⟩
  · simp at h
theorem keyFits_flat {kt : TypeId} (hl : layout P 9 kt = some lay) (ha : aggT P kt = some agg) {v : Value} (h : keyFits lay agg v = true) : flatV P kt v = true := by
  unfold flatV
  simp only [aggT'_eq, hl, ha]
  unfold keyFits at h
  split at h
  · cases agg <;> simp only [cond_true, cond_false, Bool.false_eq_true] at h
    exact h
  · cases agg <;> simp only [cond_true, cond_false, Bool.false_eq_true] at h
    exact h
theorem leafEq_eq {a b : Option IntKind} {l l' : List (Option IntKind)} {x y : Value} {xs ys : List Value} (h : leafEq x y = true) (hx : fitsC (a :: l) (x :: xs) = true) (hy : fitsC (a :: l) (y :: ys) = true) : x = y := by
  cases a with
  | none =>
    cases x <;> simp only [fitsC, Bool.false_eq_true] at hx
    cases y <;> simp only [fitsC, Bool.false_eq_true] at hy
    simpa [leafEq] using h
  | some k =>
    cases x <;> simp only [fitsC, Bool.false_eq_true] at hx
    cases y <;> simp only [fitsC, Bool.false_eq_true] at hy
    rename_i k1 a k2 b
    cases h1 : intKindEq k k1 <;> simp [h1] at hx
    cases h2 : intKindEq k k2 <;> simp [h2] at hy
    obtain rfl := intKindEq_spec h1
    obtain rfl := intKindEq_spec h2
    have : a = b := by simpa [leafEq] using h
    rw [this]
theorem fitsC_tail {a : Option IntKind} {l : List (Option IntKind)} {x : Value} {xs : List Value} (h : fitsC (a :: l) (x :: xs) = true) : fitsC l xs = true := by
  cases a <;> cases x <;> simp only [fitsC, Bool.false_eq_true] at h
  · exact h
  · rename_i k k' n
    cases h1 : intKindEq k k' <;> simp [h1] at h
    exact h
theorem cellsEq_eq : ∀ {l : List (Option IntKind)} {xs ys : List Value}, cellsEq xs ys = true → fitsC l xs = true → fitsC l ys = true → xs = ys
  | [], xs, ys, _, hx, hy => by
    have h1 : xs = [] := List.eq_nil_of_length_eq_zero (by simpa using fitsC_length hx)
    have h2 : ys = [] := List.eq_nil_of_length_eq_zero (by simpa using fitsC_length hy)
    rw [h1, h2]
  | a :: l, [], ys, _, hx, hy => by cases a <;> simp [fitsC] at hx
  | a :: l, x :: xs, [], _, hx, hy => by cases a <;> simp [fitsC] at hy
  | a :: l, x :: xs, y :: ys, h, hx, hy => by
    have hl : xs.length = ys.length := by rw [fitsC_length (fitsC_tail hx), fitsC_length (fitsC_tail hy)]
    rw [cellsEq_cons _ _ _ _ hl, Bool.and_eq_true] at h
    rw [leafEq_eq (b := a) (l' := l) h.1 hx hy, cellsEq_eq h.2 (fitsC_tail hx) (fitsC_tail hy)]
theorem keyEq_eq {x y : Value} (h : keyEq x y = true) (hx : keyFits lay agg x = true) (hy : keyFits lay agg y = true) : x = y := by
  unfold keyEq at h
  split at h
  · rename_i xs ys
    simp only [keyFits] at hx hy
    cases agg <;> simp only [cond_true, cond_false, Bool.false_eq_true] at hx hy
    rw [cellsEq_eq h hx hy]
  · unfold leafEq at h
    split at h
    · simp only [keyFits] at hx hy
      cases agg <;> simp only [cond_true, cond_false, Bool.false_eq_true] at hx hy
      cases lay with
      | nil => simp [fitsC] at hx
      | cons a l => exact leafEq_eq (b := a) (l' := l) (by simpa [leafEq] using h) hx hy
    · simp at h; rw [h]
    · simp at h
theorem cellsEq_refl : ∀ {l : List (Option IntKind)} {xs : List Value}, fitsC l xs = true → cellsEq xs xs = true
  | [], xs, hx => by
    have h1 : xs = [] := List.eq_nil_of_length_eq_zero (by simpa using fitsC_length hx)
    subst h1; rfl
  | a :: l, [], hx => by cases a <;> simp [fitsC] at hx
  | a :: l, x :: xs, hx => by
    rw [cellsEq_cons _ _ _ _ rfl, cellsEq_refl (fitsC_tail hx), Bool.and_true]
    cases a <;> cases x <;> simp [fitsC, leafEq] at hx ⊢
theorem keyEq_refl {x : Value} (hx : keyFits lay agg x = true) : keyEq x x = true := by
  unfold keyFits at hx
  split at hx
  · cases agg <;> simp only [cond_true, cond_false, Bool.false_eq_true] at hx
    exact cellsEq_refl hx
  · rename_i h
    cases agg <;> simp only [cond_true, cond_false, Bool.false_eq_true] at hx
    cases lay with
    | nil => simp [fitsC] at hx
    | cons a l => cases a <;> cases x <;> simp [fitsC, keyEq, leafEq] at hx ⊢
theorem sameBits_cells : ∀ {l : List (Option IntKind)} {xs : List Value} (n : Nat), fitsC l xs = true → (xs.zip xs).all (fun (x, y) => Instr.sameBits n x y) = true
  | [], xs, n, hx => by
    have h1 : xs = [] := List.eq_nil_of_length_eq_zero (by simpa using fitsC_length hx)
    subst h1; rfl
  | a :: l, [], n, hx => by cases a <;> simp [fitsC] at hx
  | a :: l, x :: xs, n, hx => by
    have := sameBits_cells n (fitsC_tail hx)
    simp only [List.zip_cons_cons, List.all_cons, this, Bool.and_true]
    cases a <;> cases x <;> cases n <;> simp [fitsC, Instr.sameBits] at hx ⊢
theorem sameBits_key {x : Value} (hx : keyFits lay agg x = true) : Instr.sameBits 10000 x x = true := by
  unfold keyFits at hx
  split at hx
  · rename_i cs
    cases agg <;> simp only [cond_true, cond_false, Bool.false_eq_true] at hx
    have := sameBits_cells 9999 hx
    show Instr.sameBits (9999 + 1) _ _ = true
    simp only [Instr.sameBits, beq_self_eq_true, Bool.true_and]
    exact this
  · cases agg <;> simp only [cond_true, cond_false, Bool.false_eq_true] at hx
    cases lay with
    | nil => simp [fitsC] at hx
    | cons a l => cases a <;> cases x <;> simp [fitsC, Instr.sameBits] at hx ⊢
/-! ### Keys are right -/
def CheckF (P : Program) (dd : Nat) (t : TypeId) (l : List (Option IntKind)) : Prop :=
  ∀ (em : Bool) (w : World) (xs : List Value) (x : Value), fitsC l xs = true → Shape P t xs x → (Instr.checkKey em dd t x).run P w = .ok () w
theorem checkF_ok : ∀ (d : Nat) (t : TypeId) (l : List (Option IntKind)), layout P d t = some l → ∀ dd, d ≤ dd → CheckF P dd t l
  | 0, t, l, h, _, _ => by simp [layout] at h
  | d + 1, t, l, h, dd, hdd => by
    obtain ⟨dd, rfl⟩ : ∃ e, dd = e + 1 := ⟨dd - 1, by omega⟩
    intro em w xs x fx sx
    simp only [layout] at h
    split at h
    · rename_i hu
      have ha : aggT P t = some false := by simp [aggT, hu]
      simp only [Instr.checkKey, Sem.run_bind, run_underlying hu, Result.andThen_ok]
      cases x <;> rfl
    · rename_i k hu
      simp only [Instr.checkKey, Sem.run_bind, run_underlying hu, Result.andThen_ok]
      cases x <;> rfl
    · rename_i fs i hu hi
      cases hs : P.stoodInHeld t <;> simp only [hs, cond_true, cond_false, reduceCtorEq] at h
      split at h
      · rename_i l' hl
        cases hb : Nat.beq l'.length i.size <;> simp only [hb, cond_true, cond_false, reduceCtorEq, Option.some.injEq] at h
        subst h
        have ha : aggT P t = some true := by simp [aggT, hu]
        rcases sx with ⟨_, rfl⟩ | ⟨h1, _⟩
        · simp only [Instr.checkKey, Sem.run_bind, run_underlying hu, Result.andThen_ok]
          rw [← Array.forIn_toList]
          have key : ∀ (fl : List Field) (off : Nat) (l : List (Option IntKind)), layFields (layout P d) fl off = some l → ∀ rx, xs.drop off = rx → fitsC l rx = true →
              (forIn fl PUnit.unit (fun f (r : PUnit) => if f.name ≠ "_" then (do let a ← part f.type ⟨xs⟩ f.offset; Instr.checkKey em dd f.type a; pure (ForInStep.yield PUnit.unit)) else pure (ForInStep.yield PUnit.unit)) : Sem PUnit).run P w = .ok PUnit.unit w := by
            intro fl
            induction fl with
            | nil => intro off l hl rx hx fx; simp
            | cons f fl ih =>
              intro off l hl rx hx fx
              simp only [layFields] at hl
              cases h1 : Nat.beq f.offset off <;> simp only [h1, cond_true, cond_false, reduceCtorEq] at hl
              cases h2 : (f.name == "_") <;> simp only [h2, cond_true, cond_false, reduceCtorEq] at hl
              have hoff := Nat.eq_of_beq_eq_true h1
              split at hl
              · rename_i lf hlf
                split at hl
                · rename_i lr hlr
                  simp at hl; subst hl
                  obtain ⟨ax, bx, rfl, f1, f2⟩ := fitsC_append fx
                  obtain ⟨b, ha', hb1, hb2⟩ := layout_size hlf
                  have lx := fitsC_length f1
                  have hname : f.name ≠ "_" := by simpa using h2
                  obtain ⟨v, pv, sv⟩ : ∃ v, (∀ w, (part f.type ⟨xs⟩ f.offset).run P w = .ok v w) ∧ Shape P f.type ax v := by
                    obtain ⟨dsc, hu', hagg⟩ := aggT_spec ha'
                    cases b with
                    | true =>
                      refine part_of (l := ax) ?_ (by rw [lx]; exact hb1 rfl) ha' (by simp)
                      rw [hoff, hx]; simp
                    | false =>
                      obtain ⟨v, rfl⟩ := List.length_eq_one_iff.1 (by rw [lx]; exact hb2 rfl)
                      refine ⟨v, fun w => ?_, Or.inr ⟨ha', rfl⟩⟩
                      have : xs[off]? = some v := by
                        have := congrArg (·[0]?) hx
                        simpa using this
                      simp [part, hagg, hoff, this]
                  have hck := checkF_ok d f.type lf hlf dd (by omega) em w ax v f1 sv
                  have := ih (off + lf.length) lr hlr bx (by rw [← List.drop_drop, hx, ← lx]; simp) f2
                  simp only [List.forIn_cons, Sem.run_bind, hname, ne_eq, not_false_eq_true, if_true, pv, hck, Result.andThen_ok, Sem.run_pure]
                  exact this
                · simp at hl
              · simp at hl
          have := key fs.toList 0 l' hl xs (by simp) fx
          simp only [ne_eq, ite_not] at this ⊢
          first | exact this | (simp only [Sem.run_bind, Result.andThen_ok, Sem.run_pure, this])
        · rw [ha] at h1; simp at h1
      · simp at h
    · rename_i n e i hu hi
      split at h
      · rename_i l' hl
        cases hb : Nat.beq (replL l' n).length i.size <;> simp only [hb, cond_true, cond_false, reduceCtorEq] at h
        split at h
        · rename_i j hj
          cases hb2 : Nat.beq j.size l'.length <;> simp only [hb2, cond_true, cond_false, reduceCtorEq, Option.some.injEq] at h
          subst h
          have ha : aggT P t = some true := by simp [aggT, hu]
          obtain ⟨b, hae, h1, h2⟩ := layout_size hl
          rcases sx with ⟨_, rfl⟩ | ⟨h1, _⟩
          · have hsz : ∀ w, (sizeOf e).run P w = .ok l'.length w := fun w => by simp [sizeOf, typeInfo, hj, Nat.eq_of_beq_eq_true hb2]
            have key : ∀ (m k : Nat) (rx : List Value), xs.drop (k * l'.length) = rx → fitsC (replL l' m) rx = true →
                (forIn (List.range' k m) PUnit.unit (fun i (r : PUnit) => (do let s ← sizeOf e; let a ← part e ⟨xs⟩ (i * s); Instr.checkKey em dd e a; pure (ForInStep.yield PUnit.unit))) : Sem PUnit).run P w = .ok PUnit.unit w := by
              intro m
              induction m with
              | zero => intro k rx hx fx; simp
              | succ m ih =>
                intro k rx hx fx
                obtain ⟨ax, bx, rfl, f1, f2⟩ := fitsC_append fx
                have lx := fitsC_length f1
                obtain ⟨v, pv, sv⟩ : ∃ v, (∀ w, (part e ⟨xs⟩ (k * l'.length)).run P w = .ok v w) ∧ Shape P e ax v := by
                  obtain ⟨dsc, hu', hagg⟩ := aggT_spec hae
                  cases b with
                  | true =>
                    refine part_of (l := ax) ?_ (by rw [lx]; exact h1 rfl) hae (by simp)
                    rw [hx]; simp
                  | false =>
                    obtain ⟨v, rfl⟩ := List.length_eq_one_iff.1 (by rw [lx]; exact h2 rfl)
                    refine ⟨v, fun w => ?_, Or.inr ⟨hae, rfl⟩⟩
                    have : xs[k * l'.length]? = some v := by
                      have := congrArg (·[0]?) hx
                      simpa using this
                    simp [part, hagg, this]
                have hck := checkF_ok d e l' hl dd (by omega) em w ax v f1 sv
                have := ih (k + 1) bx (by rw [Nat.succ_mul, ← List.drop_drop, hx, ← lx]; simp) f2
                rw [List.range'_succ]
                simp only [List.forIn_cons, Sem.run_bind, hsz, pv, hck, Result.andThen_ok, Sem.run_pure]
                exact this
            simp only [Instr.checkKey, Sem.run_bind, run_underlying hu, Result.andThen_ok]
            simp only [Std.Legacy.Range.forIn_eq_forIn_range', Std.Legacy.Range.size, Nat.sub_zero, Nat.add_one_sub_one, Nat.div_one]
            have := key n 0 xs (by simp) fx
            first | exact this | (simp only [Sem.run_bind, Result.andThen_ok, Sem.run_pure, this])
          · rw [ha] at h1; simp at h1
        · simp at h
      · simp at h
    · simp at h
/-! ### Entries -/
def mfind (key : Value) : List Ent → Nat → Option (Nat × Value)
  | [], _ => none
  | e :: es, i => bif keyEq key e.1 then some (i, e.2.1) else mfind key es (i + 1)
variable {es : List Ent} {clock : Nat} {key : Value} {kt : TypeId}
theorem mfind_mhas : ∀ (es : List Ent) (i : Nat), (mfind key es i).isSome = mhas key es
  | [], i => rfl
  | e :: es, i => by
    simp only [mfind, mhas]
    cases keyEq key e.1
    · exact mfind_mhas es (i + 1)
    · rfl
theorem fits1 {v : Value} (h : fitsC [ek] [v] = true) : (ek = none ∧ ∃ b, v = .bool b) ∨ ∃ k n, ek = some k ∧ v = .int k n := by
  cases ek with
  | none => cases v <;> simp [fitsC] at h; exact Or.inl ⟨rfl, _, rfl⟩
  | some k =>
    cases v <;> simp only [fitsC, Bool.false_eq_true] at h
    rename_i k' n
    cases hk : intKindEq k k' <;> simp [hk] at h
    obtain rfl := intKindEq_spec hk
    exact Or.inr ⟨k, n, rfl, rfl⟩
theorem mfind_scal (hv : ∀ e ∈ es, fitsC [ek] [e.2.1] = true) : ∀ (i : Nat), (match mfind key es i with | some (_, v) => v | none => zeroOf ek) = scal ek key es := by
  induction es with
  | nil => intro i; cases ek <;> rfl
  | cons e es ih =>
    intro i
    have h1 := hv e (by simp)
    have ih' := ih (fun e he => hv e (by simp [he])) (i + 1)
    simp only [mfind]
    cases hk : keyEq key e.1
    · simp only [cond_false]
      rw [ih']
      cases ek <;> simp [scal, mgetB, mgetI, hk]
    · simp only [cond_true]
      rcases fits1 h1 with ⟨rfl, b, hb⟩ | ⟨k, n, rfl, hb⟩ <;> simp [scal, mgetB, mgetI, hk, hb, boolV, intV]
theorem findNow_eq (hl : layout P 9 kt = some lay) (ha : aggT P kt = some agg) {d : TypeDesc} (hk : keyFits lay agg key = true) : ∀ (es : List Ent) (i : Nat) r, (∀ e ∈ es, keyFits lay agg e.1 = true) → Instr.findNow d key (es.map conv) i = some r → r = mfind key es i
  | [], i, r, _, h => by simp [Instr.findNow] at h; rw [← h]; rfl
  | e :: es, i, r, he, h => by
    simp only [List.map_cons, Instr.findNow] at h
    have hs : ∀ b, Instr.sameNow d key e.1 = some b → b = keyEq key e.1 := by
      intro b hb
      unfold Instr.sameNow at hb
      split at hb
      · rename_i hx
        split at hb
        · simp at hb; rw [← hb, hx]; rfl
        · simp at hb
      · rename_i x y hx
        exfalso
        have := keyFits_flat hl ha hk
        obtain ⟨l, cs, h1, h2, h3, h4⟩ := flatV_spec this
        rcases h3 with ⟨_, h3⟩ | ⟨_, h3⟩
        · simp at h3
        · rw [h3] at h2
          cases l with
          | nil => simp [fitsC] at h2
          | cons a l => cases a <;> simp [fitsC] at h2
      · rename_i hx
        simp at hb; rw [← hb, hx]; rfl
      · simp at hb
    simp only [mfind]
    split at h
    · rename_i hb
      rw [← hs _ hb]
      simp at h; rw [← h]; rfl
    · rename_i hb
      rw [← hs _ hb]
      exact findNow_eq hl ha hk es (i + 1) r (fun e he' => he e (by simp [he'])) h
    · simp at h
theorem run_findAsking (hl : layout P 9 kt = some lay) (ha : aggT P kt = some agg) (hk : keyFits lay agg key = true) (w : World) : ∀ (es : List Ent) (i : Nat), (∀ e ∈ es, keyFits lay agg e.1 = true) → (Instr.findAsking kt key (es.map conv) i).run P w = .ok (mfind key es i) w
  | [], i, _ => rfl
  | e :: es, i, he => by
    have h1 := flat_equal (keyFits_flat hl ha hk) (keyFits_flat hl ha (he e (by simp))) w
    simp only [List.map_cons, Instr.findAsking, Sem.run_bind]
    rw [show (conv e).key = e.1 from rfl, h1]
    simp only [Result.andThen_ok, mfind]
    cases keyEq key e.1
    · simpa using run_findAsking hl ha hk w es (i + 1) (fun e he' => he e (by simp [he']))
    · rfl
theorem run_findKey (hl : layout P 9 kt = some lay) (ha : aggT P kt = some agg) (hk : keyFits lay agg key = true) (he : ∀ e ∈ es, keyFits lay agg e.1 = true) (w : World) : (Instr.findKey kt key (es.map conv)).run P w = .ok (mfind key es 0) w := by
  obtain ⟨d, hu, _⟩ := aggT_spec ha
  unfold Instr.findKey
  simp only [Sem.run_bind, run_underlying hu, Result.andThen_ok]
  split
  · rename_i r hr
    rw [findNow_eq hl ha hk es 0 r he hr]; rfl
  · exact run_findAsking hl ha hk w es 0 he
theorem run_check (hl : layout P 9 kt = some lay) (ha : aggT P kt = some agg) (hk : keyFits lay agg key = true) (em : Bool) (w : World) : (Instr.checkKey em 10000 kt key).run P w = .ok () w := by
  obtain ⟨l, cs, h1, h2, h3, _⟩ := flatV_spec (keyFits_flat hl ha hk)
  exact checkF_ok 9 kt l h1 10000 (by decide) em w cs key h2 h3
theorem ekIs_spec {et : TypeId} (h : ekIs P et ek = true) (w : World) : (zeroValue et).run P w = .ok (zeroOf ek) w := by
  unfold ekIs ekOf at h
  split at h
  · rename_i e he
    have : e = ek := by have := layEq_spec h; simpa using this
    subst this
    split at he
    · rename_i k i hu hi
      split at he
      · rename_i k' n hz
        cases h1 : intKindEq k k' <;> simp only [h1, cond_true, cond_false, reduceCtorEq] at he
        cases h2 : (n == 0) <;> simp only [h2, cond_true, cond_false, reduceCtorEq, Option.some.injEq] at he
        subst he
        obtain rfl := intKindEq_spec h1
        have : n = 0 := by simpa using h2
        subst this
        simp [zeroValue, typeInfo, hi, hz, zeroOf]
      · simp at he
    · rename_i i hu hi
      split at he
      · rename_i b hz
        cases b <;> simp only [cond_true, cond_false, reduceCtorEq, Option.some.injEq] at he
        subst he
        simp [zeroValue, typeInfo, hi, hz, zeroOf]
      · simp at he
    · simp at he
  · simp at h
theorem mapTypeIs_spec {t : TypeId} (h : mapTypeIs P t lay agg ek = true) : ∃ kt et, P.underlying t = some (.map kt et) ∧ layout P 9 kt = some lay ∧ aggT P kt = some agg ∧ ∀ w, (zeroValue et).run P w = .ok (zeroOf ek) w := by
  unfold mapTypeIs at h
  split at h
  · rename_i kt et hu
    cases h1 : keyTypeIs P kt lay agg <;> simp only [h1, cond_true, cond_false, Bool.false_eq_true] at h
    obtain ⟨h2, h3⟩ := keyTypeIs_spec h1
    exact ⟨kt, et, hu, h2, h3, ekIs_spec h⟩
  · simp at h
theorem run_getObj {w : World} {R : Nat} (h : w.heap[R]? = some (.map (objMap es) clock)) : (getObj R).run P w = .ok (.map (objMap es) clock) w := by
  simp [getObj, Sem.run, h]
theorem run_setObj {w : World} {R : Nat} {a : Array MapEntry} {c : Nat} (h : w.heap[R]? = some (.map a c)) (o : Obj) : (setObj R o).run P w = .ok () { w with heap := w.heap.setIfInBounds R o } := by
  simp [setObj, Sem.run, h]
theorem objMap_toList : (objMap es).toList = es.map conv := by simp [objMap]
theorem lookup_run {t : TypeId} {w : World} {R : Nat} (hR : w.heap[R]? = some (.map (objMap es) clock)) (ht : mapTypeIs P t lay agg ek = true) (hk : keyFits lay agg key = true) (ok : MapOK lay agg ek es clock) (c : Bool) :
    (Instr.lookup t (.map (some R)) key c).run P w = .ok (if c then .tuple #[scal ek key es, .bool (mhas key es)] else scal ek key es) w := by
  obtain ⟨kt, et, hu, hl, ha, hz⟩ := mapTypeIs_spec ht
  have h1 := mfind_scal (key := key) ok.vals 0
  have h2 := mfind_mhas (key := key) es 0
  unfold Instr.lookup
  simp only [Sem.run_bind, run_underlying hu, Result.andThen_ok, run_getObj hR, Sem.run_pure, run_check hl ha hk, objMap_toList, run_findKey hl ha hk ok.keys]
  rw [← h1, ← h2]
  cases mfind key es 0 with
  | none => simp only [Sem.run_bind, hz, Result.andThen_ok, Sem.run_pure]; rfl
  | some x => obtain ⟨i, v⟩ := x; simp only [Sem.run_pure, Result.andThen_ok]; rfl
/-- Where a key is found, its entry is the one that is put anew. -/
theorem mfind_split : ∀ (es : List Ent) (n : Nat) (j : Nat) (u : Value), mfind key es n = some (j, u) → ∃ A e C, es = A ++ e :: C ∧ j = n + A.length ∧ e.2.1 = u ∧ keyEq key e.1 = true ∧ (∀ a ∈ A, keyEq key a.1 = false)
  | [], n, j, u, h => by simp [mfind] at h
  | e :: es, n, j, u, h => by
    simp only [mfind] at h
    cases hk : keyEq key e.1 <;> rw [hk] at h
    · obtain ⟨A, e', C, h1, h2, h3, h4, h5⟩ := mfind_split es (n + 1) j u h
      refine ⟨e :: A, e', C, by rw [h1]; rfl, by simp; omega, h3, h4, fun a ha => ?_⟩
      rcases List.mem_cons.1 ha with rfl | ha
      · exact hk
      · exact h5 a ha
    · simp only [cond_true, Option.some.injEq, Prod.mk.injEq] at h
      exact ⟨[], e, es, rfl, by simp [h.1], h.2, hk, by simp⟩
theorem mfind_none : ∀ (es : List Ent) (n : Nat), mfind key es n = none → ∀ e ∈ es, keyEq key e.1 = false
  | [], n, _ => by simp
  | e :: es, n, h => by
    simp only [mfind] at h
    cases hk : keyEq key e.1 <;> rw [hk] at h
    · intro a ha
      rcases List.mem_cons.1 ha with rfl | ha
      · exact hk
      · exact mfind_none es (n + 1) h a ha
    · simp at h
theorem mput_app {v : Value} {A C : List Ent} {e : Ent} (hA : ∀ a ∈ A, keyEq key a.1 = false) (he : keyEq key e.1 = true) : mput key v clock (A ++ e :: C) = A ++ (e.1, v, e.2.2) :: C := by
  induction A with
  | nil => simp [mput, he]
  | cons a A ih => simp [mput, hA a (by simp), ih (fun a ha => hA a (by simp [ha]))]
theorem mput_none {v : Value} : ∀ {es : List Ent}, (∀ e ∈ es, keyEq key e.1 = false) → mput key v clock es = es ++ [(key, v, clock)]
  | [], _ => rfl
  | e :: es, h => by simp [mput, h e (by simp), mput_none (es := es) (fun a ha => h a (by simp [ha]))]
theorem mens_app {z : Value} {A C : List Ent} {e : Ent} (hA : ∀ a ∈ A, keyEq key a.1 = false) (he : keyEq key e.1 = true) : mens key z clock (A ++ e :: C) = A ++ e :: C := by
  induction A with
  | nil => simp [mens, he]
  | cons a A ih => simp [mens, hA a (by simp), ih (fun a ha => hA a (by simp [ha]))]
theorem mens_none {z : Value} : ∀ {es : List Ent}, (∀ e ∈ es, keyEq key e.1 = false) → mens key z clock es = es ++ [(key, z, clock)]
  | [], _ => rfl
  | e :: es, h => by simp [mens, h e (by simp), mens_none (es := es) (fun a ha => h a (by simp [ha]))]
theorem mhas_app {A C : List Ent} {e : Ent} (hA : ∀ a ∈ A, keyEq key a.1 = false) (he : keyEq key e.1 = true) : mhas key (A ++ e :: C) = true := by
  induction A with
  | nil => simp [mhas, he]
  | cons a A ih => simp [mhas, hA a (by simp), ih (fun a ha => hA a (by simp [ha]))]
theorem mhas_none : ∀ {es : List Ent}, (∀ e ∈ es, keyEq key e.1 = false) → mhas key es = false
  | [], _ => rfl
  | e :: es, h => by simp [mhas, h e (by simp), mhas_none (es := es) (fun a ha => h a (by simp [ha]))]
theorem mstamp_app {A C : List Ent} {e : Ent} (hA : ∀ a ∈ A, keyEq key a.1 = false) (he : keyEq key e.1 = true) : mstamp key clock (A ++ e :: C) = e.2.2 := by
  induction A with
  | nil => simp [mstamp, he]
  | cons a A ih => simp [mstamp, hA a (by simp), ih (fun a ha => hA a (by simp [ha]))]
theorem mstamp_none : ∀ {es : List Ent}, (∀ e ∈ es, keyEq key e.1 = false) → mstamp key clock es = clock
  | [], _ => rfl
  | e :: es, h => by simp [mstamp, h e (by simp), mstamp_none (es := es) (fun a ha => h a (by simp [ha]))]
theorem modify_app (A C : List Ent) (e : Ent) (f : MapEntry → MapEntry) : (objMap (A ++ e :: C)).modify A.length f = ((A.map conv) ++ f (conv e) :: C.map conv).toArray := by
  apply Array.ext'
  simp only [objMap, Array.toList_modify, List.map_append, List.map_cons]
  have key : ∀ (A C : List MapEntry) (e : MapEntry), (A ++ e :: C).modify A.length f = A ++ f e :: C := by
    intro A C e
    induction A with
    | nil => simp
    | cons a A ih => simp [ih]
  have := key (A.map conv) (C.map conv) (conv e)
  rwa [List.length_map] at this
theorem MapOK.put {v : Value} (ok : MapOK lay agg ek es clock) (hk : keyFits lay agg key = true) (hv : fitsC [ek] [v] = true) : MapOK lay agg ek (mput key v clock es) (bif mhas key es then clock else clock + 1) := by
  cases hf : mfind key es 0 with
  | some x =>
    obtain ⟨j, u⟩ := x
    obtain ⟨A, e, C, rfl, _, _, he, hA⟩ := mfind_split es 0 j u hf
    rw [mput_app hA he, mhas_app hA he]
    have hp := ok.borns
    refine ⟨fun x hx => ?_, fun x hx => ?_, ?_, fun x hx => ?_⟩
    · simp only [List.mem_append, List.mem_cons] at hx
      rcases hx with hx | rfl | hx
      · exact ok.keys x (by simp [hx])
      · exact ok.keys e (by simp)
      · exact ok.keys x (by simp [hx])
    · simp only [List.mem_append, List.mem_cons] at hx
      rcases hx with hx | rfl | hx
      · exact ok.vals x (by simp [hx])
      · exact hv
      · exact ok.vals x (by simp [hx])
    · rw [List.pairwise_append, List.pairwise_cons] at hp ⊢
      refine ⟨hp.1, ⟨hp.2.1.1, hp.2.1.2⟩, fun a ha b hb => ?_⟩
      rcases List.mem_cons.1 hb with rfl | hb
      · exact hp.2.2 a ha e (by simp)
      · exact hp.2.2 a ha b (by simp [hb])
    · simp only [List.mem_append, List.mem_cons] at hx
      rcases hx with hx | rfl | hx
      · exact ok.clock x (by simp [hx])
      · exact ok.clock e (by simp)
      · exact ok.clock x (by simp [hx])
  | none =>
    have hn := mfind_none es 0 hf
    rw [mput_none hn, mhas_none hn]
    refine ⟨fun x hx => ?_, fun x hx => ?_, ?_, fun x hx => ?_⟩
    · rcases List.mem_append.1 hx with hx | hx
      · exact ok.keys x hx
      · simp at hx; subst hx; exact hk
    · rcases List.mem_append.1 hx with hx | hx
      · exact ok.vals x hx
      · simp at hx; subst hx; exact hv
    · rw [List.pairwise_append]
      exact ⟨ok.borns, by simp, fun a ha b hb => by simp at hb; subst hb; exact ok.clock a ha⟩
    · rcases List.mem_append.1 hx with hx | hx
      · have := ok.clock x hx; simp; omega
      · simp at hx; subst hx; simp
theorem zero_fits : fitsC [ek] [zeroOf ek] = true := by
  cases ek with
  | none => rfl
  | some k => cases k <;> rfl
theorem mens_eq (hk : keyFits lay agg key = true) (ok : MapOK lay agg ek es clock) : MapOK lay agg ek (mens key (zeroOf ek) clock es) (bif mhas key es then clock else clock + 1) := by
  cases hf : mfind key es 0 with
  | some x =>
    obtain ⟨j, u⟩ := x
    obtain ⟨A, e, C, rfl, _, _, he, hA⟩ := mfind_split es 0 j u hf
    rw [mens_app hA he, mhas_app hA he]; exact ok
  | none =>
    have hn := mfind_none es 0 hf
    rw [mens_none hn, ← mput_none (clock := clock) hn]
    exact ok.put hk zero_fits
theorem update_run {t : TypeId} {w : World} {R : Nat} {v : Value} (hR : w.heap[R]? = some (.map (objMap es) clock)) (ht : mapTypeIs P t lay agg ek = true) (hk : keyFits lay agg key = true) (ok : MapOK lay agg ek es clock) :
    (Instr.mapUpdate t (.map (some R)) key v).run P w = .ok () { w with heap := w.heap.setIfInBounds R (.map (objMap (mput key v clock es)) (bif mhas key es then clock else clock + 1)) } := by
  obtain ⟨kt, et, hu, hl, ha, hz⟩ := mapTypeIs_spec ht
  unfold Instr.mapUpdate
  simp only [Sem.run_bind, run_underlying hu, Result.andThen_ok, run_getObj hR, Sem.run_pure, run_check hl ha hk, objMap_toList, run_findKey hl ha hk ok.keys]
  cases hf : mfind key es 0 with
  | some x =>
    obtain ⟨j, u⟩ := x
    obtain ⟨A, e, C, rfl, hj, _, he, hA⟩ := mfind_split es 0 j u hf
    have hke : key = e.1 := keyEq_eq he hk (ok.keys e (by simp))
    have hget : ((objMap (A ++ e :: C))[j]?).map (·.key) = some e.1 := by
      rw [hj]; simp [objMap, conv]
    simp only [hget, Option.getD_some, Instr.keyThatStays]
    rw [← hke, if_pos (sameBits_key hk)]
    simp only [Sem.run_bind, Sem.run_pure, Result.andThen_ok, run_setObj hR]
    rw [mput_app hA he, mhas_app hA he, hj, Nat.zero_add, modify_app]
    congr 4
    simp [objMap, conv, hke]
  | none =>
    have hn := mfind_none es 0 hf
    simp only [run_setObj hR]
    rw [mput_none hn, mhas_none hn]
    congr 4
    simp [objMap, conv]
theorem entry_run {t : TypeId} {w : World} {R : Nat} (hR : w.heap[R]? = some (.map (objMap es) clock)) (ht : mapTypeIs P t lay agg ek = true) (hk : keyFits lay agg key = true) (ok : MapOK lay agg ek es clock) :
    (Instr.mapEntry t (.map (some R)) key).run P w = .ok (.tuple #[scal ek key es, .int .i64 (mstamp key clock es : Nat)]) { w with heap := w.heap.setIfInBounds R (.map (objMap (mens key (zeroOf ek) clock es)) (bif mhas key es then clock else clock + 1)) } := by
  obtain ⟨kt, et, hu, hl, ha, hz⟩ := mapTypeIs_spec ht
  have h1 := mfind_scal (key := key) ok.vals 0
  unfold Instr.mapEntry
  simp only [Sem.run_bind, run_underlying hu, Result.andThen_ok, run_getObj hR, Sem.run_pure, run_check hl ha hk, objMap_toList, run_findKey hl ha hk ok.keys]
  cases hf : mfind key es 0 with
  | some x =>
    obtain ⟨j, u⟩ := x
    obtain ⟨A, e, C, rfl, hj, hu', he, hA⟩ := mfind_split es 0 j u hf
    have hke : key = e.1 := keyEq_eq he hk (ok.keys e (by simp))
    rw [hf] at h1
    have hget : (objMap (A ++ e :: C))[j]? = some (conv e) := by
      rw [hj]; simp [objMap]
    simp only [hget, Option.map_some, Option.getD_some, Instr.keyThatStays]
    rw [show (conv e).key = key from hke.symm, if_pos (sameBits_key hk)]
    simp only [Sem.run_bind, Sem.run_pure, Result.andThen_ok, run_setObj hR]
    rw [mens_app hA he, mhas_app hA he, mstamp_app hA he, hj, Nat.zero_add, modify_app, ← h1]
    simp only [cond_true, goInt, conv]
    congr 4
    simp [objMap, conv, hke]
  | none =>
    have hn := mfind_none es 0 hf
    rw [hf] at h1
    simp only [Sem.run_bind, hz, Result.andThen_ok, run_setObj hR, Sem.run_pure]
    rw [mens_none hn, mhas_none hn, mstamp_none hn, ← h1]
    simp only [cond_false, goInt]
    congr 4
    simp [objMap, conv]
theorem mborn_split : ∀ {es : List Ent} {n : Int}, mborn n es = true → ∃ A e C, es = A ++ e :: C ∧ (e.2.2 : Int) = n ∧ ∀ a ∈ A, (a.2.2 : Int) ≠ n
  | [], n, h => by simp [mborn] at h
  | e :: es, n, h => by
    simp only [mborn] at h
    cases hb : ((e.2.2 : Int) == n) <;> rw [hb] at h
    · obtain ⟨A, e', C, h1, h2, h3⟩ := mborn_split (es := es) h
      refine ⟨e :: A, e', C, by rw [h1]; rfl, h2, fun a ha => ?_⟩
      rcases List.mem_cons.1 ha with rfl | ha
      · simpa using hb
      · exact h3 a ha
    · exact ⟨[], e, es, rfl, by simpa using hb, by simp⟩
theorem mset_app {n : Int} {v : Value} {A C : List Ent} {e : Ent} (hA : ∀ a ∈ A, (a.2.2 : Int) ≠ n) (he : (e.2.2 : Int) = n) : mset n v (A ++ e :: C) = A ++ (e.1, v, e.2.2) :: C := by
  induction A with
  | nil => simp [mset, he]
  | cons a A ih =>
    have : ((a.2.2 : Int) == n) = false := by simpa using hA a (by simp)
    simp [mset, this, ih (fun a ha => hA a (by simp [ha]))]
theorem MapOK.set {n : Int} {v : Value} (ok : MapOK lay agg ek es clock) (hb : mborn n es = true) (hv : fitsC [ek] [v] = true) : MapOK lay agg ek (mset n v es) clock := by
  obtain ⟨A, e, C, rfl, he, hA⟩ := mborn_split hb
  rw [mset_app hA he]
  have hp := ok.borns
  refine ⟨fun x hx => ?_, fun x hx => ?_, ?_, fun x hx => ?_⟩
  · simp only [List.mem_append, List.mem_cons] at hx
    rcases hx with hx | rfl | hx
    · exact ok.keys x (by simp [hx])
    · exact ok.keys e (by simp)
    · exact ok.keys x (by simp [hx])
  · simp only [List.mem_append, List.mem_cons] at hx
    rcases hx with hx | rfl | hx
    · exact ok.vals x (by simp [hx])
    · exact hv
    · exact ok.vals x (by simp [hx])
  · rw [List.pairwise_append, List.pairwise_cons] at hp ⊢
    refine ⟨hp.1, ⟨hp.2.1.1, hp.2.1.2⟩, fun a ha b hb => ?_⟩
    rcases List.mem_cons.1 hb with rfl | hb
    · exact hp.2.2 a ha e (by simp)
    · exact hp.2.2 a ha b (by simp [hb])
  · simp only [List.mem_append, List.mem_cons] at hx
    rcases hx with hx | rfl | hx
    · exact ok.clock x (by simp [hx])
    · exact ok.clock e (by simp)
    · exact ok.clock x (by simp [hx])
theorem store_run {t : TypeId} {w : World} {R : Nat} {n : Int} {v : Value} (hR : w.heap[R]? = some (.map (objMap es) clock)) (hb : mborn n es = true) :
    (Instr.entryStore t (.map (some R)) (.int .i64 n) v).run P w = .ok () { w with heap := w.heap.setIfInBounds R (.map (objMap (mset n v es)) clock) } := by
  obtain ⟨A, e, C, rfl, he, hA⟩ := mborn_split hb
  have hidx : (objMap (A ++ e :: C)).findIdx? (fun x => (x.born : Int) == n) = some A.length := by
    rw [show (objMap (A ++ e :: C)) = ((A ++ e :: C).map conv).toArray from rfl, List.findIdx?_toArray, List.map_append, List.map_cons, List.findIdx?_append]
    have : (A.map conv).findIdx? (fun x => (x.born : Int) == n) = none := by
      rw [List.findIdx?_eq_none_iff]
      intro x hx
      obtain ⟨a, ha, rfl⟩ := List.mem_map.1 hx
      simpa [conv] using hA a ha
    rw [this]
    simp [List.findIdx?_cons, conv, he]
  unfold Instr.entryStore
  simp only [Sem.run_bind, run_getObj hR, Result.andThen_ok, asInt, asIntOf, Sem.run_pure, hidx, run_setObj hR]
  rw [mset_app hA he, modify_app]
  congr 4
  simp [objMap, conv]
/-! ### What is put is got -/
theorem mgetI_ens {n : Nat} : ∀ (es : List Ent), mgetI key (mens key (zeroOf (some .i64)) n es) = mgetI key es
  | [] => by cases h : keyEq key key <;> simp [mens, mgetI, h, zeroOf, intV]
  | e :: es => by cases h : keyEq key e.1 <;> simp [mens, mgetI, h, mgetI_ens es]
theorem mborn_ens (hk : keyFits lay agg key = true) {z : Value} {n : Nat} : ∀ (es : List Ent), mborn ((mstamp key n es : Nat) : Int) (mens key z n es) = true
  | [] => by simp [mens, mborn, mstamp]
  | e :: es => by
    cases h : keyEq key e.1
    · have ih := mborn_ens hk (z := z) (n := n) es
      simp only [mens, mstamp, h, cond_false, mborn]
      rw [ih]; simp
    · simp [mens, mborn, mstamp, h]
theorem mset_ens {z v : Value} {n : Nat} : ∀ (es : List Ent), es.Pairwise (fun a b => a.2.2 < b.2.2) → (∀ e ∈ es, e.2.2 < n) → mset ((mstamp key n es : Nat) : Int) v (mens key z n es) = mput key v n es
  | [], _, _ => by simp [mens, mset, mstamp, mput]
  | e :: es, hp, hc => by
    obtain ⟨h1, h2⟩ := List.pairwise_cons.1 hp
    cases h : keyEq key e.1
    · have ih := mset_ens (z := z) (v := v) (n := n) es h2 (fun x hx => hc x (by simp [hx]))
      have hne : ((e.2.2 : Int) == ((mstamp key n es : Nat) : Int)) = false := by
        have : e.2.2 < mstamp key n es := by
          have key2 : ∀ (l : List Ent), (∀ x ∈ l, e.2.2 < x.2.2) → e.2.2 < mstamp key n l := by
            intro l
            induction l with
            | nil => intro _; exact hc e (by simp)
            | cons x l ih =>
              intro hl
              simp only [mstamp]
              cases keyEq key x.1
              · exact ih fun y hy => hl y (by simp [hy])
              · exact hl x (by simp)
          exact key2 es h1
        simp; omega
      simp only [mens, mstamp, mput, h, cond_false, mset, hne, ih]
    · simp [mens, mset, mstamp, mput, h]
theorem mgetI_put (hk : keyEq key key = true) {k : IntKind} {m : Int} {n : Nat} : ∀ (es : List Ent), mgetI key (mput key (.int k m) n es) = m
  | [] => by simp [mput, mgetI, hk, intV]
  | e :: es => by cases h : keyEq key e.1 <;> simp [mput, mgetI, h, intV, mgetI_put hk es]
end
end Go.Proofs.Ytmgkmekknhggbaa.Ev

/-
  One operation of the evaluator: the machine does the same; and it looks at nothing but its operands and what it says it reads. No condition.
-/
import Derived.Test.YtmgkmekknhggbaaEvEff
import Derived.Test.YtmgkmekknhggbaaEvApp
set_option linter.unusedVariables false
set_option linter.unusedSimpArgs false
namespace Go.Proofs.Ytmgkmekknhggbaa.Ev
open Go Go.RowKit
section
variable {P : Program} {M : Nat → Prop} {w0 w : World} {g : Nm} {B : Nat → Prop} {H : Heap} {r : Res} {sums : Sums} {h : Hint} {o : Oper} {ρ : Operand → Option Value} {nm : Nat} {a : Act} {K : Act → World → Prop} {Q : Exit → Act → World → Prop}
theorem plus_mono (k : Nat) (hk : B k) : Plus B nm k := Or.inl hk
theorem fresh_self (nm : Nat) : Fresh nm nm := ⟨Nat.le_refl _, by omega⟩
theorem wp_val (hH : HC M w0 g B H w) (hu : r.us = []) (hv : InB B r.v) (hrun : (execOp a.eval o).run P w = .ok (.value (ren g r.v)) w)
    (hK : ∀ g' w', Agree B g g' → HC M w0 g' (Plus B nm) (apU r.us H) w' → InB (Plus B nm) r.v → K (a.put o.dst (ren g' r.v)) w') : o.wp P a w K Q := by
  unfold Oper.wp
  rw [hrun, Oper.upon_value]
  refine hK g w (Agree.refl _ _) ?_ (hv.mono plus_mono)
  rw [hu]; exact hH.mono plus_mono
theorem wp_vok (hH : HC M w0 g B H w) {s : Sem Value} (hv : VOK g B P w s r) (hop : execOp a.eval o = (do pure (.value (← s))))
    (hK : ∀ g' w', Agree B g g' → HC M w0 g' (Plus B nm) (apU r.us H) w' → InB (Plus B nm) r.v → K (a.put o.dst (ren g' r.v)) w') : o.wp P a w K Q :=
  wp_val hH hv.us hv.inb (by rw [hop]; simp only [Sem.run_bind, hv.run, Result.andThen_ok, Sem.run_pure]) hK
theorem wp_new (hH : HC M w0 g B H w) (hn : ¬ B nm) {cs : List Value} {ty : TypeId} (hcs : ∀ c ∈ cs, In0 B c) (v : Nm → Value) (hr1 : r.us = [(nm, some (.cells cs ty))])
    (hr2 : ∀ g' : Nm, g'.base nm = 0 → ren g' r.v = v g') (hin : ∀ B' : Nat → Prop, B' nm → InB B' r.v)
    (hrun : ∀ g' : Nm, g'.blk nm = w.heap.size → (execOp a.eval o).run P w = .ok (.value (v g')) (w.alloc (.cells (cs.map (ren0 g)).toArray ty (0, 0))))
    (hK : ∀ g' w', Agree B g g' → HC M w0 g' (Plus B nm) (apU r.us H) w' → InB (Plus B nm) r.v → K (a.put o.dst (ren g' r.v)) w') : o.wp P a w K Q := by
  obtain ⟨g', hag, hblk, hbase, _, _, hc⟩ := hH.new (nm := nm) hn (.cells cs ty) rfl (.cells (cs.map (ren0 g)).toArray ty (0, 0)) (B' := Plus B nm) plus_mono (Or.inr (fresh_self nm))
    (fun c hc => (hcs c hc).mono plus_mono) 0 (fun g' hag h0 _ => ⟨h0, by rw [map_ren0_congr hag hcs]⟩)
  unfold Oper.wp
  rw [hrun g' hblk, Oper.upon_value, ← hr2 g' hbase]
  refine hK g' _ hag ?_ (hin _ (Or.inr (fresh_self nm)))
  rw [hr1]; exact hc
theorem in_ptr_self {k o : Nat} (hk : B k) : InB B (.pointer (some ⟨k, o, none⟩)) := fun g g' a => by
  simp only [ren_ptr, renA_none, (a k hk).1, (a k hk).2.1]
theorem capOf_small {g : Nm} {k c : Nat} (h : Nat.ble mark c = false) : capOf g k c = c := by simp [capOf, h]
theorem append_case (hH : HC M w0 g B H w) (hnB : ¬ B nm) (hρ : Stands g B ρ a.eval) {x y : Operand} {ts : Array TypeId} {as : Array Operand} (ho : o.op = .call { callee := .builtin .append, args := as, argTypes := ts }) (has : as.toList = [x, y])
    (hr : appendOp P ts.toList (ρ x) (ρ y) H nm = some r)
    (hK : ∀ g' w', Agree B g g' → HC M w0 g' (Plus B nm) (apU r.us H) w' → InB (Plus B nm) r.v → K (a.put o.dst (ren g' r.v)) w') : o.wp P a w K Q := by
  unfold appendOp at hr
  split at hr
  · rename_i t t' s u hts hx hy
    have p1 := bifN hr
    have q := p1.1
    have hr1 := p1.2
    clear hr p1
    subst q
    split at hr1
    · rename_i e hu
      split at hr1
      · rename_i i hi
        split at hr1
        · rename_i z hz
          have p2 := bifN hr1
          have p3 := bifL p2.2
          have hzs := p2.1
          have hsz := p3.1
          have hr2 := p3.2
          clear hr1 p2 p3
          split at hr2
          · rename_i n xs ko m vs kx ho1 hs1
            have p4 := bifB hr2
            have p5 := bifL p4.2
            have p6 := bifL p5.2
            have p7 := bifL p6.2
            have hlf := p4.1
            have hm := p5.1
            have hnm := p6.1
            have hby := p7.1
            have hr3 := p7.2
            clear hr2 p4 p5 p6 p7
            rw [forceL_eq] at hr3
            simp only [Option.some.injEq] at hr3
            subst hr3
            obtain ⟨g', w', hrun, hag, hc⟩ := append_core (P := P) (ty := o.type) hH hnB (B' := Plus B nm) plus_mono (Or.inr (fresh_self nm)) hu hi hz hzs hsz ho1 hs1 hlf hm hnm hby
            have has' : as.map a.eval = #[ren g s, ren g u] := by
              apply Array.ext'
              rw [Array.toList_map, has]
              simp [(hρ x _ hx).1, (hρ y _ hy).1]
            have hts' : ts = #[t, t] := by
              apply Array.ext'
              rw [hts]
            unfold Oper.wp
            have hex : (execOp a.eval o).run P w = .ok (.value (ren g' (.slice (some ⟨nm, 0, none⟩) (n + m) mark))) w' := by
              simp only [execOp, ho, resolve, Sem.run_bind, Sem.run_pure, Result.andThen_ok, invoke, has', hts', builtin, hrun]
            rw [hex, Oper.upon_value]
            refine hK g' w' hag hc fun g1 g2 ag => ?_
            have hq := ag nm (Or.inr (fresh_self nm))
            simp only [ren_slice, renA_none, capOf, hq.1, hq.2.1, hq.2.2]
          · simp at hr2
        · simp at hr1
      · simp at hr1
    · simp at hr1
  · simp at hr
theorem boundOf_ok (hρ : Stands g B ρ a.eval) {lo : Option Operand} {d l : Nat} (h : boundOf (lo.map ρ) d = some l) : (lo = none ∧ l = d) ∨ ∃ y k, lo = some y ∧ a.eval y = .int k (l : Int) := by
  cases lo with
  | none => left; simpa [boundOf, eq_comm] using h
  | some y =>
    right
    simp only [Option.map_some] at h
    unfold boundOf at h
    split at h
    · rename_i he; simp at he
    · rename_i k l' he
      simp only [Option.some.injEq] at h he
      subst h
      exact ⟨y, k, rfl, (hρ y _ he).1⟩
    · simp at h
theorem slice_run {t e : TypeId} {ad : Option Addr} {n c size l h : Nat} (hu : P.underlying t = some (.slice e)) (hs : sizeOfT P e = some size) (hρ : Stands g B ρ a.eval) {lo hi : Option Operand}
    (h1 : boundOf (lo.map ρ) 0 = some l) (h2 : boundOf (hi.map ρ) n = some h) (hlh : l ≤ h) (hhn : h ≤ n) (hnc : n ≤ c) :
    (Instr.sliceAt t (.slice ad n c) (lo.map a.eval) (hi.map a.eval) none).run P w = .ok (.slice (if c = l then ad else ad.map (·.add (l * size))) (h - l) (c - l)) w := by
  have hc : (0 : Int) ≤ (h : Int) ∧ (h : Int) ≤ (c : Int) := by omega
  have hb : (0 : Int) ≤ (l : Int) ∧ (l : Int) ≤ (h : Int) := by omega
  have hsz := sizeOfT_spec hs
  rcases boundOf_ok hρ h1 with ⟨rfl, rfl⟩ | ⟨y, k, rfl, hy⟩ <;> rcases boundOf_ok hρ h2 with ⟨rfl, rfl⟩ | ⟨y', k', rfl, hy'⟩ <;>
    simp [Instr.sliceAt, Instr.slice, Instr.sliceBounds, run_underlying hu, Instr.sliceBound, asIntOf, hsz, *] <;> (intro hbad; omega)
theorem cap_gen {b : Bool} {x y : Nat} (h : b = true) : (bif b then x else y) = x := by subst h; rfl
theorem cap_eq {g : Nm} {k c : Nat} {mk : Nat} (e : mk = mark) (h : Nat.ble mk c = true) : capOf g k c = g.cap k - (c - mk) := by
  subst e
  exact cap_gen h
theorem cap_two {g1 g2 : Nm} {k c : Nat} (h : g1.cap k = g2.cap k) : capOf g1 k c = capOf g2 k c := by simp only [capOf, h]
theorem slice_case (hH : HC M w0 g B H w) (hρ : Stands g B ρ a.eval) {t : TypeId} {x : Operand} {lo hi : Option Operand} (hr : sliceOp P t (ρ x) (lo.map ρ) (hi.map ρ) H = some r) :
    VOK g B P w (Instr.sliceAt t (a.eval x) (lo.map a.eval) (hi.map a.eval) none) r := by
  unfold sliceOp at hr
  split at hr
  · rename_i e k off n c hu hx
    obtain ⟨hx1, hx2⟩ := hρ x _ hx
    split at hr
    · rename_i size l h hs h1 h2
      have p1 := bifL hr
      have p2 := bifL p1.2
      have hlh := p1.1
      have hhn := p2.1
      have hr1 := p2.2
      clear hr p1 p2
      split at hr1
      · rename_i hmk
        split at hr1
        · rename_i cs ty s hb
          have p3 := bifN hr1
          have p4 := bifL p3.2
          have p5 := bifL p4.2
          have p6 := bifB p5.2
          have q1 := p3.1
          have q2 := p4.1
          have q3 := p5.1
          have q4 := p6.1
          have hr2 := p6.2
          clear hr1 p3 p4 p5 p6
          subst q1
          simp only [Option.some.injEq] at hr2
          subst hr2
          obtain ⟨h0, rest, ho, hlen, hcap⟩ := hH.holds k _ hb
          obtain ⟨mk, hmk0⟩ : ∃ mk, mk = mark := ⟨_, rfl⟩
          rw [← hmk0] at hmk q3
          have hm := Nat.le_of_ble_eq_true hmk
          have hfit : c - mk + n ≤ g.cap k := by
            have : (c - mk + n) * s ≤ g.cap k * s := by omega
            exact Nat.le_of_mul_le_mul_right this (by omega)
          have hco : capOf g k c = g.cap k - (c - mk) := cap_eq hmk0 hmk
          have hco' : capOf g k (c + l) = capOf g k c - l := by
            rw [hco, cap_eq hmk0 (Nat.ble_eq_true_of_le (Nat.le_trans hm (Nat.le_add_right _ _)))]
            omega
          have hkB := hH.dom k _ hb
          refine ⟨rfl, fun g1 g2 ag => ?_, ?_⟩
          · have hq := ag k hkB
            simp only [ren_slice, renA_none, cap_two (c := c + l) hq.2.2, hq.1, hq.2.1]
          · have hrun := slice_run (P := P) (w := w) (ad := some (renA g ⟨k, off, none⟩)) hu hs hρ h1 h2 hlh hhn (show n ≤ capOf g k c by rw [hco]; omega)
            rw [hx1, ren_slice, hrun, ren_slice, hco']
            congr 2
            by_cases hcl : capOf g k c = l
            · rw [if_pos hcl]
              have : l = 0 := by
                cases hl0 : Nat.beq l 0 with
                | true => exact Nat.eq_of_beq_eq_true hl0
                | false =>
                  rw [hl0] at q4
                  have := Nat.le_of_ble_eq_true q4
                  rw [hco] at hcl; omega
              subst this; simp
            · rw [if_neg hcl]
              simp [renA, plain_add, Nat.add_assoc]
        · simp at hr1
      · rename_i hmk
        have p3 := bifL hr1
        have hnc := p3.1
        have hr2 := p3.2
        clear hr1 p3
        have hco : capOf g k c = c := capOf_small hmk
        have hsm : Nat.ble mark (c - l) = false := by
          cases hbl : Nat.ble mark (c - l) with
          | false => rfl
          | true =>
            have h3 := Nat.le_of_ble_eq_true hbl
            rw [Nat.ble_eq_true_of_le (by omega)] at hmk
            simp at hmk
        have hrun := slice_run (P := P) (w := w) (ad := some (renA g ⟨k, off, none⟩)) hu hs hρ h1 h2 hlh hhn hnc
        split at hr2
        · rename_i hcl
          have hcl' := Nat.eq_of_beq_eq_true hcl
          simp only [Option.some.injEq] at hr2
          subst hr2
          refine ⟨rfl, fun g1 g2 ag => ?_, ?_⟩
          · have hq := hx2 g1 g2 ag
            simp only [ren_slice, renA_none, Value.slice.injEq, Option.some.injEq, Addr.mk.injEq, and_true] at hq ⊢
            exact ⟨hq.1, trivial, by rw [capOf_small hsm, capOf_small hsm]⟩
          · rw [hx1, ren_slice, hco, hrun, ren_slice, capOf_small hsm, if_pos hcl']
        · rename_i hcl
          have hcl' : c ≠ l := fun e => by subst e; simp at hcl
          simp only [Option.some.injEq] at hr2
          subst hr2
          refine ⟨rfl, fun g1 g2 ag => ?_, ?_⟩
          · have hq := hx2 g1 g2 ag
            simp only [ren_slice, renA_none, Value.slice.injEq, Option.some.injEq, Addr.mk.injEq, and_true] at hq ⊢
            exact ⟨⟨hq.1.1, by omega⟩, trivial, by rw [capOf_small hsm, capOf_small hsm]⟩
          · rw [hx1, ren_slice, hco, hrun, ren_slice, capOf_small hsm, if_neg hcl']
            simp [renA, plain_add, Nat.add_assoc]
    · simp at hr
  · rename_i e hu hx
    obtain ⟨hx1, hx2⟩ := hρ x _ hx
    split at hr
    · rename_i size hs h1 h2
      obtain ⟨e1, e2, _, _⟩ := val_v hr
      have hrun := slice_run (P := P) (w := w) (ad := none) (c := 0) hu hs hρ h1 h2 (Nat.le_refl _) (Nat.le_refl _) (Nat.le_refl _)
      refine ⟨e2, e1 ▸ InB.gnd rfl, ?_⟩
      rw [hx1, show ren g (.slice none 0 0) = .slice none 0 0 from rfl, hrun, e1]
      rfl
    · simp at hr
  · simp at hr
theorem copy_case (hH : HC M w0 g B H w) (hρ : Stands g B ρ a.eval) {x y : Operand} {ts : Array TypeId} {as : Array Operand} (ho : o.op = .call { callee := .builtin .copy, args := as, argTypes := ts }) (has : as.toList = [x, y]) {cs' : List Value}
    (hr : copyS P cs' ts.toList (ρ x) (ρ y) H = some r) (hob : ∀ p ∈ r.ob, p)
    (hK : ∀ g' w', Agree B g g' → HC M w0 g' (Plus B nm) (apU r.us H) w' → InB (Plus B nm) r.v → K (a.put o.dst (ren g' r.v)) w') : o.wp P a w K Q := by
  unfold copyS at hr
  split at hr
  · rename_i t t' k off n c kx offx m cx hts hx hy
    split at hr
    · rename_i e hu
      split at hr
      · rename_i size hsz
        split at hr
        · rename_i b bx hb hbx
          split at hr
          · rename_i cs csx hrow hrowx
            split at hr
            · rename_i b' hput
              simp only [Option.some.injEq] at hr
              subst hr
              obtain ⟨vs, hs, hlf, hset⟩ := hob _ (List.mem_singleton.2 rfl)
              obtain ⟨hl, _, hj⟩ := sub_spec hs
              have hld : (loadCells ⟨g.blk kx, g.base kx + offx, none⟩ (Nat.min m n * size)).run P w = .ok (vs.map (ren0 g)).toArray w := by
                have := run_loadCells_list (P := P) w ⟨g.blk kx, g.base kx + offx, none⟩ (vs.map (ren0 g)) (fun j v hv => by
                  rw [plain_add, Nat.add_assoc]
                  simp only [List.getElem?_map, Option.map_eq_some_iff] at hv
                  obtain ⟨u, hu, rfl⟩ := hv
                  exact hH.cell hbx hrowx (hj j u hu))
                rwa [List.length_map, hl] at this
              obtain ⟨w1, hw1, hc⟩ := run_storeC (P := P) hH hb hrow hput hset hlf (fun v hv => row_in hH hbx hrowx v (sub_mem hs hv))
              have has' : as.map a.eval = #[ren g (.slice (some ⟨k, off, none⟩) n c), ren g (.slice (some ⟨kx, offx, none⟩) m cx)] := by
                apply Array.ext'
                rw [Array.toList_map, has]
                simp [(hρ x _ hx).1, (hρ y _ hy).1]
              have hts' : ts = #[t, t'] := by
                apply Array.ext'
                rw [hts]
              unfold Oper.wp
              have hrun : (Builtin.copy_ #[t, t'] o.type #[ren g (.slice (some ⟨k, off, none⟩) n c), ren g (.slice (some ⟨kx, offx, none⟩) m cx)]).run P w = .ok (goInt (Nat.min m n)) w1 := by
                simp only [ren_slice, renA_none]
                simp [Builtin.copy_, run_underlying hu, sizeOfT_spec hsz, Builtin.lenOf, Builtin.firstCells, hld, hw1]
              have hex : (execOp a.eval o).run P w = .ok (.value (goInt (Nat.min m n))) w1 := by
                simp only [execOp, ho, resolve, Sem.run_bind, Sem.run_pure, Result.andThen_ok, invoke, has', hts', builtin, hrun]
              rw [hex, Oper.upon_value]
              have hk := hK g w1 (Agree.refl _ _) (hc.mono plus_mono) (InB.gnd rfl)
              rw [ren_gnd g (v := goLen (Nat.min m n)) rfl] at hk
              exact hk
            · simp at hr
          · simp at hr
        · simp at hr
      · simp at hr
    · simp at hr
  · simp at hr
theorem appendS_eq {cs' : List Value} {ts : List TypeId} {s x : Option Value} (hr : appendS P cs' ts s x H nm = some r) (hob : ∀ p ∈ r.ob, p) : appendOp P ts s x H nm = some ⟨r.v, r.us, r.rs, []⟩ := by
  unfold appendS at hr
  split at hr
  · rename_i t t' s kx offx m cx
    have p1 := bifN hr
    have q := p1.1
    have hr1 := p1.2
    clear hr p1
    subst q
    split at hr1
    · rename_i e hu
      split at hr1
      · rename_i i hi
        split at hr1
        · rename_i z hz
          have p2 := bifN hr1
          have p3 := bifL p2.2
          have hzs := p2.1
          have hsz := p3.1
          have hr2 := p3.2
          clear hr1 p2 p3
          split at hr2
          · rename_i bx hbx
            split at hr2
            · rename_i csx hcsx
              have key : ∀ (own : Option Blk) (n c : Nat) (ko : Option Nat) (us : List (Nat × Option Blk)) (rs : List Nat), us = keptOf ko ++ [(nm, some (.vec cs' e i.size))] → rs = kx :: readsOf ko →
                  (∀ xs vs, sub csx offx (m * i.size) = some vs → cs' = xs ++ vs → (match own with
                    | none => n = 0 ∧ c = 0 ∧ xs = []
                    | some (.vec cs _ _) => c = mark ∧ n * i.size ≤ cs.length ∧ xs = cs.take (n * i.size)
                    | some (.cells cs _) => cs.length = c * i.size ∧ n ≤ c ∧ c ≤ 16777216 ∧ xs = cs.take (n * i.size)
                    | _ => False) → ownOf i.size e H s = some (n, xs, ko)) →
                  some ⟨.slice (some ⟨nm, 0, none⟩) (n + m) mark, us, rs, [AppOK own n c i.size i.bytes m csx offx cs']⟩ = some r →
                  appendOp P [t, t] (some s) (some (.slice (some ⟨kx, offx, none⟩) m cx)) H nm = some ⟨r.v, r.us, r.rs, []⟩ := by
                intro own n c ko us rs hus hrs hown he
                simp only [Option.some.injEq] at he
                subst he
                obtain ⟨xs, vs, h1, h2, h3, h4, h5, h6, h7⟩ := hob _ (List.mem_singleton.2 rfl)
                have ho := hown xs vs h1 h6 h7
                have hs : srcOf i.size H (.slice (some ⟨kx, offx, none⟩) m cx) = some (m, vs, kx) := by
                  simp only [srcOf, hbx, hcsx, h1]
                have hb1 : Nat.beq t t = true := Nat.beq_refl t
                have hb2 : Nat.beq z.cells.size i.size = true := by rw [hzs]; exact Nat.beq_refl _
                simp only [appendOp, hb1, hu, hi, hz, hb2, Nat.ble_eq_true_of_le hsz, ho, hs, h2, Nat.ble_eq_true_of_le h3, Nat.ble_eq_true_of_le h4, Nat.ble_eq_true_of_le h5, cond_true, forceL_eq, hus, hrs, h6]
              split at hr2
              · rename_i n c
                refine key none n c none _ _ rfl rfl (fun xs vs _ _ h7 => ?_) hr2
                obtain ⟨rfl, rfl, rfl⟩ := h7
                rfl
              · rename_i k n c
                split at hr2
                · rename_i cs ty sz hb
                  have p4 := bifN hr2
                  have p5 := bifN p4.2
                  have q4 := p4.1
                  have q5 := p5.1
                  subst q4
                  subst q5
                  refine key (some (.vec cs ty i.size)) n c (some k) _ _ rfl rfl (fun xs vs _ _ h7 => ?_) p5.2
                  obtain ⟨rfl, h8, rfl⟩ := h7
                  simp only [ownOf, hb, Nat.beq_refl, Nat.ble_eq_true_of_le h8, cond_true]
                · rename_i cs ty hb
                  have p4 := bifN hr2
                  have q4 := p4.1
                  subst q4
                  refine key (some (.cells cs ty)) n c (some k) _ _ rfl rfl (fun xs vs _ _ h7 => ?_) p4.2
                  obtain ⟨h8, h9, h10, rfl⟩ := h7
                  simp only [ownOf, hb, h8, Nat.beq_refl, Nat.ble_eq_true_of_le h9, Nat.ble_eq_true_of_le h10, cond_true]
                · simp at hr2
              · simp at hr2
            · simp at hr2
          · simp at hr2
        · simp at hr1
      · simp at hr1
    · simp at hr1
  · simp at hr
theorem zero_run {t ty e : TypeId} {size n c m d : Nat} {ad ax : Option Addr} (hu : P.underlying t = some (.slice e)) (hs : sizeOfT P e = some size) (hm : m = 0) (hnc : n ≤ c) : (Builtin.append_ #[t, t] ty #[.slice ad n c, .slice ax m d]).run P w = .ok (.slice ad n c) w := by
  subst hm
  have hsz := sizeOfT_spec hs w
  cases ad with
  | none => simp [Builtin.append_, run_underlying hu, hsz, Builtin.lenOf, hnc, Builtin.firstCells]; (first | done | (cases ax <;> simp [loadCells, loadCellsFrom, storeCells]))
  | some a => simp [Builtin.append_, run_underlying hu, hsz, Builtin.lenOf, hnc, Builtin.firstCells]; (first | done | (cases ax <;> simp [loadCells, loadCellsFrom, storeCells]))
theorem zero_case (hH : HC M w0 g B H w) (hρ : Stands g B ρ a.eval) {x y : Operand} {ts : Array TypeId} {as : Array Operand} (ho : o.op = .call { callee := .builtin .append, args := as, argTypes := ts }) (has : as.toList = [x, y])
    (hr : appendZ P ts.toList (ρ x) (ρ y) H = some r) (hob : ∀ p ∈ r.ob, p)
    (hK : ∀ g' w', Agree B g g' → HC M w0 g' (Plus B nm) (apU r.us H) w' → InB (Plus B nm) r.v → K (a.put o.dst (ren g' r.v)) w') : o.wp P a w K Q := by
  unfold appendZ at hr
  split at hr
  · rename_i t t' s ax m d hts hx hy
    have p1 := bifN hr
    have q := p1.1
    have hr1 := p1.2
    clear hr p1
    subst q
    have hts' : ts = #[t, t] := by
      apply Array.ext'
      rw [hts]
    have has' : as.map a.eval = #[ren g s, ren g (.slice ax m d)] := by
      apply Array.ext'
      rw [Array.toList_map, has]
      simp [(hρ x _ hx).1, (hρ y _ hy).1]
    obtain ⟨ax', d', hax⟩ : ∃ ax' d', ren g (.slice ax m d) = .slice ax' m d' := by
      cases ax with
      | none => exact ⟨none, d, rfl⟩
      | some b => exact ⟨_, _, rfl⟩
    have fin : ∀ (u : Value) (ad : Option Addr) (n c size : Nat) (e : TypeId), s = u → ren g u = .slice ad n c → P.underlying t = some (.slice e) → sizeOfT P e = some size → m = 0 → n ≤ c → r.v = u → r.us = [] → o.wp P a w K Q := by
      intro u ad n c size e hsu hru hu hs hm hnc hv hus
      refine wp_val hH hus (by rw [hv, ← hsu]; exact (hρ x _ hx).2) ?_ hK
      simp only [execOp, ho, resolve, Sem.run_bind, Sem.run_pure, Result.andThen_ok, invoke, has', hts', builtin, hsu, hru, hax, zero_run (P := P) (w := w) hu hs hm hnc, hv]
    split at hr1
    · rename_i e hu
      split at hr1
      · rename_i size hs
        split at hr1
        · rename_i n c
          simp only [Option.some.injEq] at hr1
          subst hr1
          obtain ⟨hm, hn, hc⟩ := hob _ (List.mem_singleton.2 rfl)
          exact fin _ none n c size e rfl rfl hu hs hm (by omega) rfl rfl
        · rename_i k n c
          simp only [Option.some.injEq] at hr1
          subst hr1
          obtain ⟨hm, hq⟩ := hob _ (List.mem_singleton.2 rfl)
          simp only at hq
          split at hq
          · rename_i cs ty sz hb
            obtain ⟨hc, h1, h2⟩ := hq
            subst hc
            obtain ⟨h0, rest, hoo, hlen, hcap⟩ := hH.holds k _ hb
            have hn : n ≤ g.cap k := by
              have : n * sz ≤ g.cap k * sz := by omega
              exact Nat.le_of_mul_le_mul_right this (by omega)
            refine fin _ (some (renA g ⟨k, 0, none⟩)) n (g.cap k) size e rfl ?_ hu hs hm hn rfl rfl
            simp only [ren_slice, capOf, ble_self, cond_true, Nat.sub_self, Nat.sub_zero]
          · rename_i cs ty hb
            obtain ⟨h1, h2⟩ := hq
            have hmk : Nat.ble mark c = false := by
              cases hbl : Nat.ble mark c with
              | false => rfl
              | true => have := Nat.le_of_ble_eq_true hbl; unfold mark at this; omega
            refine fin _ (some (renA g ⟨k, 0, none⟩)) n c size e rfl ?_ hu hs hm h1 rfl rfl
            simp only [ren_slice, capOf_small hmk]
          · exact hq.elim
        · simp at hr1
      · simp at hr1
    · simp at hr1
  · simp at hr
theorem boundI_of {lo : Option (Option Value)} {d : Nat} {i : Option Int} {l : Nat} (h : boundI lo = some i) (hi : i.getD (d : Int) = (l : Int)) : boundOf lo d = some l := by
  unfold boundI at h
  split at h
  · simp at h; subst h
    simp at hi
    have hi' : (d : Int) = (l : Int) := by simpa using hi
    have : d = l := by omega
    subst this
    rfl
  · simp at h; subst h
    simp at hi
    subst hi
    rfl
  · simp at h
theorem sliceS_eq {u : Value} {t : TypeId} {x : Option Value} {lo hi : Option (Option Value)} (hr : sliceS P u t x lo hi H = some r) (hob : ∀ p ∈ r.ob, p) : ∃ r0, sliceOp P t x lo hi H = some r0 ∧ r0.v = r.v ∧ r.us = [] := by
  unfold sliceS at hr
  split at hr
  · rename_i e k off n c hu
    split at hr
    · rename_i size l' h' hs hl hh
      simp only [Option.some.injEq] at hr
      subst hr
      obtain ⟨l, h, e1, e2, h1, h2, h3⟩ := hob _ (List.mem_singleton.2 rfl)
      have b1 := boundI_of (d := 0) hl e1
      have b2 := boundI_of (d := n) hh e2
      simp only [sliceOp, hu, hs, b1, b2, Nat.ble_eq_true_of_le h1, Nat.ble_eq_true_of_le h2, cond_true]
      rcases h3 with ⟨hc, ⟨cs, ty, rfl', q1, q2⟩, hl0, hu'⟩ | ⟨hc, hnc, h4⟩
      · rw [Nat.ble_eq_true_of_le hc]
        simp only [rfl', Nat.beq_refl, cond_true, Nat.ble_eq_true_of_le q1, Nat.ble_eq_true_of_le q2]
        have : (bif Nat.beq l 0 then true else Nat.ble (l + 1) n) = true := by
          rcases hl0 with rfl | hl0
          · rfl
          · cases Nat.beq l 0
            · exact Nat.ble_eq_true_of_le hl0
            · rfl
        rw [this]
        exact ⟨_, rfl, hu'.symm, trivial⟩
      · have hm : Nat.ble mark c = false := by
          cases hbl : Nat.ble mark c with
          | false => rfl
          | true => have := Nat.le_of_ble_eq_true hbl; omega
        rw [hm]
        simp only [Nat.ble_eq_true_of_le hnc, cond_true]
        rcases h4 with ⟨rfl, hu'⟩ | ⟨hne, hu'⟩
        · rw [Nat.beq_refl]
          exact ⟨_, rfl, hu'.symm, trivial⟩
        · have : Nat.beq c l = false := by
            cases hbl : Nat.beq c l with
            | false => rfl
            | true => exact absurd (Nat.eq_of_beq_eq_true hbl) hne
          rw [this]
          exact ⟨_, rfl, hu'.symm, trivial⟩
    · simp at hr
  · simp at hr
theorem end_case (hH : HC M w0 g B H w) (hnB : ¬ B nm) (hρ : Stands g B ρ a.eval) {t : TypeId} {x : Operand} {lo hi : Option Operand} (ho : o.op = .slice t x lo hi none)
    (hr : sliceE P t (ρ x) (lo.map ρ) (hi.map ρ) H nm = some r) (hob : ∀ p ∈ r.ob, p)
    (hK : ∀ g' w', Agree B g g' → HC M w0 g' (Plus B nm) (apU r.us H) w' → InB (Plus B nm) r.v → K (a.put o.dst (ren g' r.v)) w') : o.wp P a w K Q := by
  unfold sliceE at hr
  split at hr
  · rename_i e k off n c hu hx
    obtain ⟨hx1, hx2⟩ := hρ x _ hx
    split at hr
    · rename_i size l' h' hs hl hh
      simp only [Option.some.injEq] at hr
      subst hr
      obtain ⟨hc, e1, e2, cs, ty, hb, q1, q2⟩ := hob _ (List.mem_singleton.2 rfl)
      have b1 := boundI_of (d := 0) hl e1
      have b2 := boundI_of (d := n) hh e2
      obtain ⟨h0, rest, hobj, hlen, hcap⟩ := hH.holds k _ hb
      obtain ⟨mk, hmk0⟩ : ∃ mk, mk = mark := ⟨_, rfl⟩
      rw [← hmk0] at hc
      have hco : capOf g k c = g.cap k - (c - mk) := cap_eq hmk0 (Nat.ble_eq_true_of_le (Nat.le_of_eq hc.symm))
      have hfit : n ≤ g.cap k := by
        have : n * size ≤ g.cap k * size := by omega
        exact Nat.le_of_mul_le_mul_right this (by omega)
      have hn : n ≤ capOf g k c := by rw [hco]; omega
      have hrun := slice_run (P := P) (w := w) (ad := some (renA g ⟨k, off, none⟩)) hu hs hρ b1 b2 (Nat.le_refl _) (Nat.le_refl _) hn
      obtain ⟨x0, y0, hba⟩ : ∃ x0 y0, (if capOf g k c = n then some (renA g ⟨k, off, none⟩) else (some (renA g ⟨k, off, none⟩)).map (·.add (n * size))) = some (⟨x0, y0, none⟩ : Addr) := by
        by_cases hcn : capOf g k c = n
        · rw [if_pos hcn]; exact ⟨_, _, by rw [renA_none]⟩
        · rw [if_neg hcn]; exact ⟨_, _, by rw [renA_none, Option.map_some, plain_add]⟩
      rw [hba, Nat.sub_self] at hrun
      obtain ⟨g', hag, h1, h2, h3, hc'⟩ := hH.name hnB x0 y0 (capOf g k c - n) (B' := Plus B nm) plus_mono
      unfold Oper.wp
      have hv : ren g' (.slice (some ⟨nm, 0, none⟩) 0 mark) = .slice (some ⟨x0, y0, none⟩) 0 (capOf g k c - n) := by
        have : capOf g' nm mark = capOf g k c - n := by
          rw [← hmk0, cap_eq hmk0 (Nat.ble_eq_true_of_le (Nat.le_refl _)), h3, Nat.sub_self, Nat.sub_zero]
        rw [ren_slice, renA_none, this, h1, h2, Nat.add_zero]
      have hex : (execOp a.eval o).run P w = .ok (.value (ren g' (.slice (some ⟨nm, 0, none⟩) 0 mark))) w := by
        have hop : execOp a.eval o = (do pure (.value (← Instr.sliceAt t (a.eval x) (lo.map a.eval) (hi.map a.eval) none))) := by unfold execOp; rw [ho]; rfl
        rw [hop, hx1, ren_slice]
        simp only [Sem.run_bind, hrun, Result.andThen_ok, Sem.run_pure, hv]
      rw [hex, Oper.upon_value]
      refine hK g' w hag hc' fun g1 g2 ag => ?_
      have hq := ag nm (Or.inr (fresh_self nm))
      simp only [ren_slice, renA_none, capOf, hq.1, hq.2.1, hq.2.2]
    · simp at hr
  · simp at hr
theorem set_map (hH : HC M w0 g B H w) {k : Nat} {lay lay' : List (Option IntKind)} {agg agg' : Bool} {ek ek' : Option IntKind} {es es' : List Ent} {c c' : Nat} (hb : H k = some (.map lay agg ek es c)) (ok : MapOK lay' agg' ek' es' c') :
    HC M w0 g B (upd H k (some (.map lay' agg' ek' es' c'))) { w with heap := w.heap.setIfInBounds (g.blk k) (.map (objMap es') c') } := by
  have hlt := hH.lt hb
  refine hH.set hb rfl rfl rfl rfl rfl (by simp) (fun i hi => ?_) ok ?_
  · simp [Array.getElem?_setIfInBounds_ne (Ne.symm hi)]
  · show _ = _
    simp [hlt]
theorem upd_case (hH : HC M w0 g B H w) (hρ : Stands g B ρ a.eval) {t : TypeId} {x key v : Operand} (hr : mapUpdateOp P h t (ρ x) (ρ key) (ρ v) H = some r) (hob : ∀ p ∈ r.ob, p) (hop : execOp a.eval o = (do Instr.mapUpdate t (a.eval x) (a.eval key) (a.eval v); pure .skip))
    (hK : ∀ g' w', Agree B g g' → HC M w0 g' (Plus B nm) (apU r.us H) w' → InB (Plus B nm) r.v → K (a.put o.dst (ren g' r.v)) w') : o.wp P a w K Q := by
  unfold mapUpdateOp at hr
  split at hr
  · rename_i k key' v' hx hkey hv
    obtain ⟨h1, h2⟩ := hρ x _ hx
    obtain ⟨h3, h4⟩ := hρ key _ hkey
    obtain ⟨h5, h6⟩ := hρ v _ hv
    split at hr
    · rename_i lay agg ek es c hb
      cases t1 : mapTypeIs P t lay agg ek <;> simp only [t1, cond_true, cond_false, reduceCtorEq] at hr
      cases t2 : keyFits lay agg key' <;> simp only [t2, cond_true, cond_false, reduceCtorEq] at hr
      cases t3 : fitsC [ek] [v'] <;> simp only [t3, cond_true, cond_false, reduceCtorEq] at hr
      obtain ⟨kt, et, hu, hl, ha, hz⟩ := mapTypeIs_spec t1
      rw [ren_gnd g (flat_gnd (keyFits_flat hl ha t2))] at h3
      have hgv : gnd v' = true := by rcases fits1 t3 with ⟨_, b, rfl⟩ | ⟨_, _, _, rfl⟩ <;> rfl
      rw [ren_gnd g hgv] at h5
      have fin : ∀ es', mput key' v' c es = es' → r.v = undef → r.us = [(k, some (.map lay agg ek es' (bif mhas key' es then c else c + 1)))] → o.wp P a w K Q := by
        intro es' hes e1 e2
        subst hes
        have hrun := update_run (P := P) (t := t) (v := v') (hH.holds k _ hb) t1 t2 (hH.scope k _ hb)
        unfold Oper.wp
        have : (execOp a.eval o).run P w = .ok .skip { w with heap := w.heap.setIfInBounds (g.blk k) (.map (objMap (mput key' v' c es)) (bif mhas key' es then c else c + 1)) } := by
          rw [hop]
          simp only [h1, h3, h5, Sem.run_bind]
          rw [show ren g (.map (some k)) = .map (some (g.blk k)) from rfl, hrun]
          rfl
        rw [this, Oper.upon_skip]
        have hk := hK g _ (Agree.refl _ _) (by rw [e2]; exact (set_map hH hb (MapOK.put (hH.scope k _ hb) t2 t3)).mono plus_mono) (by rw [e1]; exact InB.gnd rfl)
        rw [e1, ren_gnd g (v := undef) rfl] at hk
        exact hk
      split at hr
      · rename_i es' he
        simp at hr; subst hr
        exact fin es' (hob _ (by simp)) rfl rfl
      · simp at hr; subst hr
        exact fin _ rfl rfl rfl
    · simp at hr
  · simp at hr
theorem repl_in0 {zs : List Value} (h : ∀ c ∈ zs, In0 B c) : ∀ n, ∀ c ∈ repl zs n, In0 B c
  | 0, c, hc => by simp [repl] at hc
  | n + 1, c, hc => by
    simp only [repl, List.mem_append] at hc
    rcases hc with hc | hc
    · exact h c hc
    · exact repl_in0 h n c hc
theorem repl_len (zs : List Value) : ∀ n, (repl zs n).length = n * zs.length
  | 0 => by simp [repl]
  | n + 1 => by simp [repl, repl_len zs n, Nat.succ_mul]; omega
theorem repl_get {zs : List Value} : ∀ n i, i < n * zs.length → (repl zs n)[i]? = zs[i % zs.length]?
  | 0, i, h => by simp at h
  | n + 1, i, h => by
    simp only [repl, List.getElem?_append]
    by_cases hlt : i < zs.length
    · rw [if_pos hlt, Nat.mod_eq_of_lt hlt]
    · rw [if_neg hlt, repl_get n (i - zs.length) (by rw [Nat.succ_mul] at h; omega), ← Nat.mod_eq_sub_mod (by omega)]
theorem made_repl (zs : List Value) (n : Nat) : madeCells zs.toArray (n * zs.length) = (repl zs n).toArray := by
  apply Array.ext
  · simp [madeCells, repl_len]
  · intro i h1 h2
    have hi : i < n * zs.length := by simpa [madeCells] using h1
    have hpos : 0 < zs.length := by
      rcases Nat.eq_zero_or_pos zs.length with h0 | h0
      · rw [h0] at hi; simp at hi
      · exact h0
    have h5 := repl_get (zs := zs) n i hi
    have hlt := Nat.mod_lt i hpos
    rw [List.getElem?_eq_getElem (by rw [repl_len]; exact hi), List.getElem?_eq_getElem hlt] at h5
    simp only [Option.some.injEq] at h5
    simp [madeCells, h5, hlt]
theorem make_case (hH : HC M w0 g B H w) (hnB : ¬ B nm) (hρ : Stands g B ρ a.eval) {t : TypeId} {l c : Operand} (ho : o.op = .makeSlice t l c) (hr : makeOp P h t (ρ l) (ρ c) nm = some r) (hob : ∀ p ∈ r.ob, p)
    (hK : ∀ g' w', Agree B g g' → HC M w0 g' (Plus B nm) (apU r.us H) w' → InB (Plus B nm) r.v → K (a.put o.dst (ren g' r.v)) w') : o.wp P a w K Q := by
  unfold makeOp at hr
  split at hr
  · rename_i e k1 l' k2 c' hu hl hc
    obtain ⟨hl1, _⟩ := hρ l _ hl
    obtain ⟨hc1, _⟩ := hρ c _ hc
    split at hr
    · rename_i i zs hi hz
      have hz0 := hz
      obtain ⟨⟨z, hz1, hz2⟩, hz3, hz4⟩ := zeroCells_ok (g := g) (B := B) hz
      obtain ⟨z', hz5⟩ : ∃ z', i.zero = some z' := by
        unfold zeroCells at hz0
        rw [hi] at hz0
        cases hq : i.zero with
        | none => simp only [hq] at hz0; simp at hz0
        | some z' => exact ⟨z', rfl⟩
      have hzz : z' = z := by
        have := hz1 w
        simp [zeroValue, typeInfo, hi, hz5] at this
        exact this
      subst hzz
      have p1 := bifN hr
      have hsz := p1.1
      have hr1 := p1.2
      clear hr p1
      have core : ∀ n : Nat, l' = (n : Int) → c' = (n : Int) → (n : Int) ≤ 9223372036854775807 → (i.bytes : Int) * (n : Int) ≤ 281474976710656 →
          r.v = .slice (some ⟨nm, 0, none⟩) n n → r.us = [(nm, some (.cells (repl zs n) e))] → o.wp P a w K Q := by
        intro n e1 e2 h1 h2 hv hus
        have hm : Nat.ble mark n = false := by
          cases hbl : Nat.ble mark n with
          | false => rfl
          | true =>
            have := Nat.le_of_ble_eq_true hbl
            unfold mark at this
            omega
        refine wp_new hH hnB (repl_in0 hz4 n) (fun g' => .slice (some ⟨g'.blk nm, 0, none⟩) n n) hus (fun g' h0 => ?_) (fun B' hB => ?_) (fun g' hg' => ?_) hK
        · rw [hv]
          simp [ren_slice, renA_none, h0, capOf_small hm]
        · rw [hv]
          intro g1 g2 ag
          simp only [ren_slice, renA_none, capOf, (ag nm hB).1, (ag nm hB).2.1, (ag nm hB).2.2]
        · have hrun := run_make (P := P) w t e i z' hu hi hz5 k1 k2 n n (by omega) (Int.le_refl _) h2 h1
          have hrep : (repl zs n).map (ren0 g) = repl zs n := by
            induction n with
            | zero => rfl
            | succ n ih =>
              simp only [repl, List.map_append, hz3]
              have : ∀ m, (repl zs m).map (ren0 g) = repl zs m := fun m => by
                induction m with
                | zero => rfl
                | succ m ih => simp only [repl, List.map_append, hz3, ih]
              rw [this]
          rw [hrep, hg']
          simp only [execOp, ho, hl1, hc1, e1, e2, ren_int, Sem.run_bind, hrun, Result.andThen_ok, Sem.run_pure, Int.toNat_natCast, hz2, ← hsz, made_repl]
      split at hr1
      · rename_i cs hcs
        simp only [Option.some.injEq] at hr1
        subst hr1
        obtain ⟨e1, h0, h1, h2, e2⟩ := hob _ (List.mem_singleton.2 rfl)
        have hn : l' = (l'.toNat : Int) := by omega
        exact core l'.toNat hn (by rw [← e1]; exact hn) (by omega) (by rw [← hn]; exact h2) rfl (by rw [e2])
      · cases l' with
        | negSucc n => simp at hr1
        | ofNat n =>
          cases c' with
          | negSucc m => simp at hr1
          | ofNat m =>
            simp only at hr1
            have p2 := bifN hr1
            have p3 := bifL p2.2
            have p4 := bifL p3.2
            have hr2 := p4.2
            rw [forceL_eq] at hr2
            simp only [Option.some.injEq] at hr2
            have e3 := p2.1
            subst e3
            have h3 := p3.1
            have h4 := p4.1
            subst hr2
            refine core n rfl rfl (by omega) ?_ rfl rfl
            have : ((i.bytes * n : Nat) : Int) ≤ 281474976710656 := by omega
            rwa [Int.natCast_mul] at this
    · simp at hr
  · simp at hr
theorem build_case (hH : HC M w0 g B H w) (hnB : ¬ B nm) (hρ : Stands g B ρ a.eval) {t : TypeId} {len : Nat} {ps : Array (Nat × Operand)} (ho : o.op = .buildSlice t len ps) (hr : buildSliceOp P t len (partsL ρ ps) nm = some r)
    (hK : ∀ g' w', Agree B g g' → HC M w0 g' (Plus B nm) (apU r.us H) w' → InB (Plus B nm) r.v → K (a.put o.dst (ren g' r.v)) w') : o.wp P a w K Q := by
  unfold buildSliceOp at hr
  split at hr
  · rename_i e hu
    split at hr
    · rename_i s zs hs hz
      obtain ⟨⟨z, hz1, hz2⟩, hz3, hz4⟩ := zeroCells_ok (g := g) (B := B) hz
      cases hb1 : Nat.beq zs.length (s + 1) <;> simp only [hb1, cond_true, cond_false, reduceCtorEq] at hr
      cases hb2 : Nat.ble (len * (s + 1)) 16777216 <;> simp only [hb2, cond_true, cond_false, reduceCtorEq] at hr
      have hl1 : zs.length = s + 1 := Nat.eq_of_beq_eq_true hb1
      have hl2 : len * (s + 1) ≤ 16777216 := Nat.le_of_ble_eq_true hb2
      split at hr
      · rename_i cs hcs
        rw [forceL_eq] at hr
        simp at hr; subst hr
        obtain ⟨h1, h2⟩ := fillL_ok hρ (place' := fun i => some (i * (s + 1), s + 1)) (fun i x hx => hx) hcs
        have hrep : ∀ n, (repl zs n).map (ren0 g) = repl zs n := fun n => by
          induction n with
          | zero => rfl
          | succ n ih => simp [repl, hz3, ih]
        have hrin : ∀ n, ∀ c ∈ repl zs n, In0 B c := fun n => by
          induction n with
          | zero => simp [repl]
          | succ n ih =>
            intro c hc
            simp only [repl, List.mem_append] at hc
            rcases hc with hc | hc
            · exact hz4 c hc
            · exact ih c hc
        have hget : ∀ n i, i < n * (s + 1) → (repl zs n)[i]? = some (zs[i % (s + 1)]!) := fun n => by
          induction n with
          | zero => intro i hi; omega
          | succ n ih =>
            intro i hi
            simp only [repl, List.getElem?_append, hl1]
            by_cases hlt : i < s + 1
            · rw [if_pos hlt, Nat.mod_eq_of_lt hlt]
              rw [List.getElem?_eq_getElem (by omega)]
              simp [hl1, hlt]
            · rw [if_neg hlt, ih (i - (s + 1)) (by rw [Nat.succ_mul] at hi; omega)]
              rw [← Nat.mod_eq_sub_mod (by omega)]
        have hlen : ∀ n, (repl zs n).length = n * (s + 1) := fun n => by
          induction n with
          | zero => simp [repl]
          | succ n ih => simp [repl, ih, hl1, Nat.succ_mul]; omega
        have hzero : ((Array.range (len * (s + 1))).map (zs.toArray[· % zs.toArray.size]!)) = (repl zs len).toArray := by
          apply Array.ext
          · simp [hlen]
          · intro i hi1 hi2
            have hi : i < len * (s + 1) := by simpa using hi1
            have h5 := hget len i hi
            rw [List.getElem?_eq_getElem (by rw [hlen]; exact hi)] at h5
            simp only [Option.some.injEq] at h5
            simp [h5, hl1]
        refine wp_new hH hnB (h2 (hrin len)) (fun g' => .slice (some ⟨g'.blk nm, 0, none⟩) len len) rfl (fun g' h0 => ?_) (fun B' hB g1 g2 ag => ?_) (fun g' hg' => ?_) hK
        · have hm : Nat.ble mark len = false := by
            cases hbl : Nat.ble mark len with
            | false => rfl
            | true =>
              have := Nat.le_of_ble_eq_true hbl
              have h6 : len ≤ 16777216 := Nat.le_trans (Nat.le_mul_of_pos_right _ (by omega)) hl2
              unfold mark at this
              omega
          simp [ren_slice, renA_none, h0, capOf_small hm]
        · simp only [ren_slice, renA_none, capOf, (ag nm hB).1, (ag nm hB).2.1, (ag nm hB).2.2]
        · rw [hrep] at h1
          have hps : (ps.map fun (i, x) => (i, a.eval x)).toList = ps.toList.map fun (i, x) => (i, a.eval x) := by simp
          have hne : ¬ len * (s + 1) > 2 ^ 24 := by omega
          simp only [execOp, ho, Instr.buildSlice, Sem.run_bind, run_underlying hu, sizeOfT_spec hs, Result.andThen_ok]
          rw [if_neg hne]
          simp only [Sem.run_bind, Sem.run_pure, Result.andThen_ok]
          by_cases h0 : len * (s + 1) = 0
          · have hlen0 : repl zs len = [] := List.eq_nil_of_length_eq_zero (by rw [hlen, h0])
            rw [if_pos h0]
            rw [hlen0] at h1
            have h7 : Array.range 0 = #[] := by simp [Array.range]
            simp [h0, hps, newRow, run_newObj, h1, hg', h7]
          · rw [if_neg h0]
            simp only [Sem.run_bind, hz1, Result.andThen_ok, Sem.run_pure, hz2, hps, hzero, h1]
            simp only [newRow, Sem.run_bind, run_newObj, Result.andThen_ok, Sem.run_pure, hg']
            rfl
      · simp at hr
    · simp at hr
  · simp at hr
theorem hc_promote (hH : HC M w0 g B H w) (hnB : ¬ B nm) {g' : Nm} {w' : World} (hag : Agree B g g') {cs : List Value} {e : TypeId} {n size : Nat} (hc : HC M w0 g' (Plus B nm) (upd H nm (some (.cells cs e))) w') (hl : cs.length = n * size) (hn : n ≤ 16777216) (hpl : allB leafG cs = true) :
    Agree B g { g' with cap := upd g'.cap nm n } ∧ HC M w0 { g' with cap := upd g'.cap nm n } (Plus B nm) (upd H nm (some (.vec cs e size))) w' := by
  have hne : ∀ k, B k → k ≠ nm := fun k hk e => hnB (e ▸ hk)
  have hag2 : Agree B g' { g' with cap := upd g'.cap nm n } := fun k hk => ⟨rfl, rfl, by simp [upd_ne _ _ (hne k hk)]⟩
  have hag3 : Agree B g { g' with cap := upd g'.cap nm n } := fun k hk => by
    obtain ⟨h1, h2, h3⟩ := hag k hk
    obtain ⟨h4, h5, h6⟩ := hag2 k hk
    exact ⟨h1.trans h4, h2.trans h5, h3.trans h6⟩
  have hcell : upd H nm (some (.cells cs e)) nm = some (.cells cs e) := upd_self _ _ _
  refine ⟨hag3, ⟨hc.below, fun k b hk => ?_, fun k b hk => ?_, fun k b hk => ?_, fun k b hk hw => ?_, fun k l b c hk hl' hw he => ?_⟩⟩
  · by_cases e1 : k = nm
    · subst e1; exact Or.inr (fresh_self _)
    · rw [upd_ne _ _ e1] at hk
      exact Or.inl (hH.dom k b hk)
  · by_cases e1 : k = nm
    · subst e1
      rw [upd_self] at hk; simp at hk; subst hk
      exact fun v hv => In0.leafG (allB_iff.1 hpl v hv)
    · rw [upd_ne _ _ e1] at hk
      exact (hH.scope k b hk).mono plus_mono
  · by_cases e1 : k = nm
    · subst e1
      rw [upd_self] at hk; simp at hk; subst hk
      obtain ⟨h0, ho⟩ := hc.holds k _ hcell
      refine ⟨h0, [], ?_, ?_, ?_⟩
      · rw [ho, map_ren0_id g' hpl, map_ren0_id _ hpl, List.append_nil]
      · simp [upd_self, hl]
      · simp [upd_self]; unfold maxLen; omega
    · have hk' := hk
      rw [upd_ne _ _ e1] at hk'
      have h1 := hc.holds k b (by rw [upd_ne _ _ e1]; exact hk')
      exact h1.congr hag2 (hH.dom k b hk') (hH.scope k b hk')
  · by_cases e1 : k = nm
    · subst e1
      exact hc.own k _ hcell rfl
    · rw [upd_ne _ _ e1] at hk
      exact hc.own k b (by rw [upd_ne _ _ e1]; exact hk) hw
  · have up : ∀ j d, upd H nm (some (.vec cs e size)) j = some d → ∃ d', upd H nm (some (.cells cs e)) j = some d' ∧ d'.wr = d.wr := fun j d hj => by
      by_cases e1 : j = nm
      · subst e1
        rw [upd_self] at hj; simp at hj; subst hj
        exact ⟨_, hcell, rfl⟩
      · rw [upd_ne _ _ e1] at hj
        exact ⟨d, by rw [upd_ne _ _ e1]; exact hj, rfl⟩
    obtain ⟨b', hb', hbw⟩ := up k b hk
    obtain ⟨c', hc', _⟩ := up l c hl'
    exact hc.inj k l b' c' hb' hc' (by rw [hbw]; exact hw) he
theorem vec_case (hH : HC M w0 g B H w) (hnB : ¬ B nm) {t : TypeId} {r1 : Option Res} (hr : buildVecOp P t nm r1 = some r) {G : Prop}
    (go : ∀ r0, r1 = some r0 → (∀ g' w', Agree B g g' → HC M w0 g' (Plus B nm) (apU r0.us H) w' → InB (Plus B nm) r0.v → K (a.put o.dst (ren g' r0.v)) w') → G)
    (hK : ∀ g' w', Agree B g g' → HC M w0 g' (Plus B nm) (apU r.us H) w' → InB (Plus B nm) r.v → K (a.put o.dst (ren g' r.v)) w') : G := by
  unfold buildVecOp at hr
  split at hr
  · split at hr
    · rename_i size hs
      unfold vecOf at hr
      split at hr
      · rename_i k n c j cs e
        have p1 := bifN hr
        have p2 := bifN p1.2
        have p3 := bifN p2.2
        have p4 := bifN p3.2
        have p5 := bifL p4.2
        have p6 := bifB p5.2
        have e1 := p1.1
        have e2 := p2.1
        have e3 := p3.1
        subst e1
        subst e2
        subst e3
        have h6 := p6.2
        simp only [Option.some.injEq] at h6
        subst h6
        refine go _ rfl fun g' w' hag hc hin => ?_
        obtain ⟨ha, hc'⟩ := hc_promote (size := size) hH hnB hag hc p4.1 p5.1 p6.1
        have hm : Nat.ble mark n = false := by
          cases hbl : Nat.ble mark n with
          | false => rfl
          | true =>
            have := Nat.le_of_ble_eq_true hbl
            have := p5.1
            unfold mark at *
            omega
        have := hK _ w' ha hc' (fun g1 g2 ag => by
          have hq := ag _ (Or.inr (fresh_self _))
          simp only [ren_slice, renA_none, capOf, hq.1, hq.2.1, hq.2.2])
        have e4 : ren g' (.slice (some ⟨j, 0, none⟩) n n) = ren { g' with cap := upd g'.cap j n } (.slice (some ⟨j, 0, none⟩) n mark) := by
          simp only [ren_slice, renA_none, capOf, hm, ble_self, cond_true, cond_false, upd_self, Nat.sub_self, Nat.sub_zero]
        rw [e4]
        exact this
      · simp at hr
    · simp at hr
  · simp at hr
theorem eff_wp (hS : SumsOK P sums) (hH : HC M w0 g B H w) (hρ : Stands g B ρ a.eval) (hn : ∀ k, B k → ¬ Fresh nm k) (hr : eff P sums h o ρ H nm = some r) (hob : ∀ p ∈ r.ob, p)
    (hK : ∀ g' w', Agree B g g' → HC M w0 g' (Plus B nm) (apU r.us H) w' → InB (Plus B nm) r.v → K (a.put o.dst (ren g' r.v)) w') : o.wp P a w K Q := by
  have hnB : ¬ B nm := fun hb => hn nm hb (fresh_self nm)
  unfold eff at hr
  split at hr
  · rename_i x ho
    split at hr
    · rename_i v hv
      obtain ⟨e1, e2, _, _⟩ := val_v hr
      obtain ⟨h1, h2⟩ := hρ x v hv
      exact wp_val hH e2 (e1 ▸ h2) (by simp [execOp, ho, h1, e1]) hK
    · simp at hr
  · rename_i x ho
    split at hr
    · rename_i v hv
      obtain ⟨e1, e2, _, _⟩ := val_v hr
      obtain ⟨h1, h2⟩ := hρ x v hv
      exact wp_val hH e2 (e1 ▸ h2) (by simp [execOp, ho, h1, e1]) hK
    · simp at hr
  · rename_i c x y ho
    split at hr
    · rename_i t v u hc hv hu
      obtain ⟨h1, h2⟩ := hρ c _ hc
      obtain ⟨h3, h4⟩ := hρ x _ hv
      obtain ⟨h5, h6⟩ := hρ y _ hu
      have hrun : (execOp a.eval o).run P w = .ok (.value (ren g (cond t v u))) w := by
        have hb : ren g (.bool t) = .bool t := rfl
        cases t <;> simp [execOp, ho, h1, h3, h5, asBool, hb]
      split at hr
      · rename_i d hd
        simp at hr; subst hr
        have ht : t = d := hob _ (List.mem_singleton.2 rfl)
        subst ht
        exact wp_val hH rfl (by cases t <;> assumption) hrun hK
      · split at hr
        · obtain ⟨e1, e2, _, _⟩ := val_v hr
          exact wp_val hH e2 (e1 ▸ h4) (by rw [hrun, e1]; rfl) hK
        · obtain ⟨e1, e2, _, _⟩ := val_v hr
          exact wp_val hH e2 (e1 ▸ h6) (by rw [hrun, e1]; rfl) hK
    · simp at hr
  · rename_i ty ho
    unfold allocOp at hr
    split at hr
    · rename_i i hi
      split at hr
      · rename_i z hzz
        cases hg : gnd1 z <;> simp only [hg, cond_true, cond_false, reduceCtorEq] at hr
        split at hr
        · rename_i cs hcs
          simp at hr; subst hr
          obtain ⟨⟨z', hz1, hz2⟩, hz3, hz4⟩ := zeroCells_ok (P := P) (g := g) (B := B) (t := ty) (zs := cs) (by simp only [zeroCells, hi, hzz, hg, cond_true, hcs])
          refine wp_new hH hnB hz4 (fun g' => .pointer (some ⟨g'.blk nm, 0, none⟩)) rfl (fun g' h0 => by simp [ptr, ren_ptr, renA_none, h0]) (fun B' hB => in_ptr_self hB) (fun g' hg' => ?_) hK
          simp only [execOp, ho, Instr.alloc, newVar, newRow, Sem.run_bind, hz1, Result.andThen_ok, hz2, run_newObj, Sem.run_pure, hg', hz3]
          rfl
        · simp at hr
      · simp at hr
    · simp at hr
  · rename_i ty x ho
    unfold boxOp at hr
    split at hr
    · rename_i v hv
      obtain ⟨h1, h2⟩ := hρ x v hv
      split at hr
      · rename_i cs hcs
        simp at hr; subst hr
        refine wp_new hH hnB (cellsOf_in hcs h2) (fun g' => .pointer (some ⟨g'.blk nm, 0, none⟩)) rfl (fun g' h0 => by simp [ptr, ren_ptr, renA_none, h0]) (fun B' hB => in_ptr_self hB) (fun g' hg' => ?_) hK
        simp only [execOp, ho, Instr.box, newVar, newRow, Sem.run_bind, h1, cellsOf_spec g hcs, Result.andThen_ok, run_newObj, Sem.run_pure, hg']
        rfl
      · simp at hr
    · simp at hr
  · rename_i ty x ho
    exact wp_vok hH (loadOp_ok hH (fun v hv => (hρ x v hv).1) hr hob) (by unfold execOp; rw [ho]) hK
  · rename_i ty x y ho
    unfold storeOp at hr
    split at hr
    · rename_i k off v hx hy
      obtain ⟨h1, h2⟩ := hρ x _ hx
      obtain ⟨h3, h4⟩ := hρ y _ hy
      split at hr
      · rename_i b vs n hb hvs hsz
        cases hbq : Nat.beq vs.length n <;> simp only [hbq, cond_true, cond_false, reduceCtorEq] at hr
        cases hlf : allB leaf vs <;> simp only [hlf, cond_true, cond_false, reduceCtorEq] at hr
        have hlen : vs.length = n := Nat.eq_of_beq_eq_true hbq
        subst hlen
        have fin : ∀ cs cs' b', b.row = some cs → b.put cs' = some b' → lset cs off vs = some cs' → r.v = undef → r.us = [(k, some b')] → o.wp P a w K Q := by
          intro cs cs' b' hrow hput hset e1 e2
          obtain ⟨w1, hw1, hc⟩ := run_store hH hb hrow hput hset hlf hsz _ (cellsOf_spec g hvs) (cellsOf_in hvs h4)
          unfold Oper.wp
          have : (execOp a.eval o).run P w = .ok .skip w1 := by
            simp only [execOp, ho, Instr.storeAt, h1, h3, ren_ptr, renA_none, Instr.sureAddr, Sem.run_bind, Sem.run_pure, Result.andThen_ok, hw1]
          rw [this, Oper.upon_skip]
          have hk := hK g w1 (Agree.refl _ _) (by rw [e2]; exact hc.mono plus_mono) (by rw [e1]; exact InB.gnd rfl)
          rw [e1, ren_gnd g (v := undef) rfl] at hk
          exact hk
        split at hr
        · rename_i cs hrow
          split at hr
          · rename_i cs' hcs'
            split at hr
            · rename_i b' hput
              simp at hr; subst hr
              exact fin cs cs' b' hrow hput (hob _ (List.mem_singleton.2 rfl)) rfl rfl
            · simp at hr
          · split at hr
            · rename_i l hl
              rw [forceL_eq] at hr
              split at hr
              · rename_i b' hput
                simp at hr; subst hr
                exact fin cs l b' hrow hput hl rfl rfl
              · simp at hr
            · simp at hr
        · simp at hr
      · simp at hr
    · simp at hr
  · rename_i x ho
    split at hr
    · rename_i p hx
      obtain ⟨e1, e2, _, _⟩ := val_v hr
      obtain ⟨h1, h2⟩ := hρ x _ hx
      exact wp_val hH e2 (e1 ▸ h2) (by simp [execOp, ho, h1, ren_ptr, e1]) hK
    · simp at hr
  · rename_i s x f ho
    exact wp_vok hH (fieldAddrOp_ok (fun v hv => hρ x v hv) hr) (by unfold execOp; rw [ho]) hK
  · rename_i t x ix ho
    exact wp_vok hH (indexAddrOp_ok (fun v hv => hρ x v hv) (fun v hv => (hρ ix v hv).1) hr hob) (by unfold execOp; rw [ho]) hK
  · rename_i s x f ho
    exact wp_vok hH (fieldOp_ok (fun v hv => hρ x v hv) hr) (by unfold execOp; rw [ho]) hK
  · rename_i t x ix ho
    exact wp_vok hH (indexOp_ok (fun v hv => hρ x v hv) (fun v hv => (hρ ix v hv).1) hr hob) (by unfold execOp; rw [ho]) hK
  · rename_i x i ho
    exact wp_vok hH (extractOp_ok (fun v hv => hρ x v hv) hr) (by unfold execOp; rw [ho]) hK
  · rename_i t ps ho
    exact wp_vok hH (buildOp_ok hρ hr) (by unfold execOp; rw [ho]) hK
  · rename_i t len ps ho
    split at hr
    · exact vec_case hH hnB hr (fun r0 hr0 hK0 => build_case hH hnB hρ ho hr0 hK0) hK
    · exact build_case hH hnB hρ ho hr hK
  · rename_i fn x c ho
    exact wp_vok hH (makeFuncOp_ok hρ hr) (by unfold execOp; rw [ho]) hK
  · rename_i op t x y yt ho
    have pure : pureOp P h o ρ = some r → o.wp P a w K Q := fun hp => by
      obtain ⟨h1, h2, h3⟩ := pureOp_ok (P := P) (w := w) hρ hp hob
      exact wp_val hH h1 h2 h3 hK
    have eqs : ∀ (neg : Bool) (cs : Array Value), op = (if neg then .neq else .eql) → ρ x = some (.agg cs) → eqOp P neg t (ρ x) (ρ y) = some r → o.wp P a w K Q := by
      intro neg cs hop hx he
      unfold eqOp at he
      rw [hx] at he
      cases hy : ρ y with
      | none => simp [hy] at he
      | some v =>
        simp only [hy] at he
        cases f1 : flatV P t (.agg cs) <;> simp only [f1, cond_true, cond_false, reduceCtorEq] at he
        cases f2 : flatV P t v <;> simp only [f2, cond_true, cond_false, reduceCtorEq] at he
        cases f3 : P.eqGuardType P.depth t <;> simp only [f3, cond_true, cond_false, reduceCtorEq] at he
        replace he : val (.bool (bif neg then !keyEq (.agg cs) v else keyEq (.agg cs) v)) = some r := by cases neg <;> exact he
        obtain ⟨e1, e2, _, _⟩ := val_v he
        obtain ⟨h1, h2⟩ := hρ x _ hx
        obtain ⟨h3, h4⟩ := hρ y _ hy
        rw [ren_gnd g (flat_gnd f1)] at h1
        rw [ren_gnd g (flat_gnd f2)] at h3
        obtain ⟨ds, rfl⟩ : ∃ ds, v = .agg ds := by
          obtain ⟨l1, c1, l2, c2, s1, _⟩ := flatV_spec f1
          obtain ⟨l3, c3, l4, c4, s2, _⟩ := flatV_spec f2
          rcases s1 with ⟨ha, _⟩ | ⟨ha, hx'⟩
          · rcases s2 with ⟨_, rfl⟩ | ⟨hb, _⟩
            · exact ⟨_, rfl⟩
            · rw [ha] at hb; simp at hb
          · rw [hx'] at c2
            cases l1 with
            | nil => simp [fitsC] at c2
            | cons a l => cases a <;> simp [fitsC] at c2
        have heq := flat_equal f1 f2 w
        refine wp_val hH e2 (e1 ▸ InB.gnd rfl) ?_ hK
        unfold execOp
        rw [ho]
        simp only [h1, h3, Sem.run_bind, run_eqGuard_agg w op t x y cs ds f3, Result.andThen_ok]
        rw [Op.equal] at heq
        cases neg with
        | false =>
          simp only [Bool.false_eq_true, if_false] at hop
          subst hop
          rw [run_eql_struct w t cs ds]
          rw [show Op.equalIn 10000 = Op.equalIn Op.maxDepth from rfl, heq, e1]
          rfl
        | true =>
          simp only [if_true] at hop
          subst hop
          rw [run_neq_struct w t cs ds]
          rw [show Op.equalIn 10000 = Op.equalIn Op.maxDepth from rfl, heq, e1]
          rfl
    unfold binA at hr
    split at hr
    · rename_i cs hx; exact eqs false cs rfl hx hr
    · rename_i cs hx; exact eqs true cs rfl hx hr
    · rename_i k m hx
      split at hr
      · rename_i k' b hp hy
        have q := bifB hr
        have hk : k = k' := intKindEq_spec q.1
        have hr1 := q.2
        subst hk
        simp only [Option.some.injEq] at hr1
        subst hr1
        have hb : b ≠ 0 := hob _ (List.mem_singleton.2 rfl)
        obtain ⟨h1, _⟩ := hρ x _ hx
        obtain ⟨h3, _⟩ := hρ y _ hy
        refine wp_val hH rfl (InB.gnd rfl) ?_ hK
        unfold execOp
        rw [ho]
        simp [h1, h3, ren_int, eqGuard, binOp, Op.intDiv, hb]
      · exact pure hr
    · exact pure hr
  · rename_i t x key ok ho
    unfold lookupOp at hr
    split at hr
    · rename_i k key' hx hkey
      obtain ⟨h1, h2⟩ := hρ x _ hx
      obtain ⟨h3, h4⟩ := hρ key _ hkey
      split at hr
      · rename_i b hb
        split at hr
        · rename_i v hv
          unfold lookVal at hv
          split at hv
          · rename_i lay agg ek es c
            cases t1 : mapTypeIs P t lay agg ek <;> simp only [t1, cond_true, cond_false, reduceCtorEq] at hv
            cases t2 : keyFits lay agg key' <;> simp only [t2, cond_true, cond_false, reduceCtorEq, Option.some.injEq] at hv
            obtain ⟨kt, et, hu, hl, ha, hz⟩ := mapTypeIs_spec t1
            rw [ren_gnd g (flat_gnd (keyFits_flat hl ha t2))] at h3
            have hrun := lookup_run (P := P) (t := t) (key := key') (hH.holds k _ hb) t1 t2 (hH.scope k _ hb)
            have hg : gnd v = true := by rw [← hv]; cases ek <;> rfl
            split at hr
            · obtain ⟨e1, e2, _, _⟩ := val_v hr
              refine wp_val hH e2 (e1 ▸ InB.gnd hg) ?_ hK
              unfold execOp
              rw [ho]
              simp only [h1, h3, Sem.run_bind]
              rw [show ren g (.map (some k)) = .map (some (g.blk k)) from rfl, hrun false, e1, ren_gnd g hg, hv]
              rfl
            · rename_i l2 a2 k2 es2 c2 heq
              obtain ⟨rfl, rfl, rfl, rfl, rfl⟩ := Blk.map.inj heq
              simp at hr; subst hr
              have hg2 : gnd (.tuple ⟨[v, .bool (mhas key' es)]⟩) = true := by rw [← hv]; cases ek <;> rfl
              refine wp_val hH rfl (InB.gnd hg2) ?_ hK
              unfold execOp
              rw [ho]
              simp only [h1, h3, Sem.run_bind]
              rw [show ren g (.map (some k)) = .map (some (g.blk k)) from rfl, hrun true, ren_gnd g hg2, hv]
              rfl
            · rename_i hne
              exact (hne _ _ _ _ _ rfl).elim
          · simp at hv
        · simp at hr
      · simp at hr
    · simp at hr
  · rename_i t rsv ho
    unfold makeMapOp at hr
    split at hr
    · rename_i kt et hu
      split at hr
      · rename_i l ag ek _ _ _
        simp at hr; subst hr
        obtain ⟨g', hag, hblk, hbase, _, _, hc⟩ := hH.new (nm := nm) hnB (.map l ag ek [] 0) rfl (.map #[] 0) (B' := Plus B nm) plus_mono (Or.inr (fresh_self nm))
          ⟨by simp, by simp, by simp, by simp⟩ 0 (fun g' hag h0 _ => rfl)
        unfold Oper.wp
        have : (execOp a.eval o).run P w = .ok (.value (.map (some (g'.blk nm)))) (w.alloc (.map #[] 0)) := by
          unfold execOp
          rw [ho]
          simp only [Option.map_none, Instr.makeMap, Sem.run_bind, run_newObj, Result.andThen_ok, Sem.run_pure, hblk]
          rfl
        rw [this, Oper.upon_value]
        refine hK g' _ hag hc ?_
        intro g1 g2 ag
        show Value.map (some (g1.blk nm)) = Value.map (some (g2.blk nm))
        rw [(ag nm (Or.inr (fresh_self nm))).1]
      · simp at hr
    · simp at hr
  · rename_i t x key v ho
    exact upd_case hH hρ hr hob (by unfold execOp; rw [ho]) hK
  · rename_i t x key v ho
    exact upd_case hH hρ hr hob (by unfold execOp; rw [ho]) hK
  · rename_i t x key ho
    unfold mapEntryOp at hr
    split at hr
    · rename_i k key' hx hkey
      obtain ⟨h1, h2⟩ := hρ x _ hx
      obtain ⟨h3, h4⟩ := hρ key _ hkey
      split at hr
      · rename_i lay agg ek es c hb
        cases t1 : mapTypeIs P t lay agg ek <;> simp only [t1, cond_true, cond_false, reduceCtorEq] at hr
        cases t2 : keyFits lay agg key' <;> simp only [t2, cond_true, cond_false, reduceCtorEq, Option.some.injEq] at hr
        subst hr
        obtain ⟨kt, et, hu, hl, ha, hz⟩ := mapTypeIs_spec t1
        rw [ren_gnd g (flat_gnd (keyFits_flat hl ha t2))] at h3
        have hrun := entry_run (P := P) (t := t) (key := key') (hH.holds k _ hb) t1 t2 (hH.scope k _ hb)
        have hg : gnd (.tuple ⟨[scal ek key' es, .int .i64 (mstamp key' c es : Nat)]⟩) = true := by cases ek <;> rfl
        unfold Oper.wp
        have : (execOp a.eval o).run P w = .ok (.value (.tuple ⟨[scal ek key' es, .int .i64 (mstamp key' c es : Nat)]⟩)) { w with heap := w.heap.setIfInBounds (g.blk k) (.map (objMap (mens key' (zeroOf ek) c es)) (bif mhas key' es then c else c + 1)) } := by
          unfold execOp
          rw [ho]
          simp only [h1, h3, Sem.run_bind]
          rw [show ren g (.map (some k)) = .map (some (g.blk k)) from rfl, hrun]
          rfl
        rw [this, Oper.upon_value]
        have hk := hK g _ (Agree.refl _ _) ((set_map hH hb (mens_eq t2 (hH.scope k _ hb))).mono plus_mono) (InB.gnd hg)
        rw [ren_gnd g hg] at hk
        exact hk
      · simp at hr
    · simp at hr
  · rename_i t x stamp v ho
    unfold entryStoreOp at hr
    split at hr
    · rename_i k n v' hx hst hv
      obtain ⟨h1, h2⟩ := hρ x _ hx
      obtain ⟨h3, h4⟩ := hρ stamp _ hst
      obtain ⟨h5, h6⟩ := hρ v _ hv
      split at hr
      · rename_i lay agg ek es c hb
        cases t1 : fitsC [ek] [v'] <;> simp only [t1, cond_true, cond_false, reduceCtorEq] at hr
        have hgv : gnd v' = true := by rcases fits1 t1 with ⟨_, b, rfl⟩ | ⟨_, _, _, rfl⟩ <;> rfl
        rw [ren_gnd g hgv] at h5
        have fin : ∀ es', mborn n es = true → mset n v' es = es' → r.v = undef → r.us = [(k, some (.map lay agg ek es' c))] → o.wp P a w K Q := by
          intro es' hbn hes e1 e2
          subst hes
          have hrun := store_run (P := P) (t := t) (v := v') (hH.holds k _ hb) hbn
          unfold Oper.wp
          have : (execOp a.eval o).run P w = .ok .skip { w with heap := w.heap.setIfInBounds (g.blk k) (.map (objMap (mset n v' es)) c) } := by
            unfold execOp
            rw [ho]
            simp only [h1, h3, h5, Sem.run_bind]
            rw [show ren g (.map (some k)) = .map (some (g.blk k)) from rfl, ren_int, hrun]
            rfl
          rw [this, Oper.upon_skip]
          have hk := hK g _ (Agree.refl _ _) (by rw [e2]; exact (set_map hH hb (MapOK.set (hH.scope k _ hb) hbn t1)).mono plus_mono) (by rw [e1]; exact InB.gnd rfl)
          rw [e1, ren_gnd g (v := undef) rfl] at hk
          exact hk
        split at hr
        · rename_i es' he
          simp at hr; subst hr
          exact fin es' (hob _ (by simp)) (hob _ (by simp)) rfl rfl
        · split at hr
          · rename_i hbn
            simp at hr; subst hr
            exact fin _ hbn rfl rfl rfl
          · simp at hr
      · simp at hr
    · simp at hr
  · rename_i f as ts ho
    unfold callOp at hr
    split at hr
    · rename_i fid x c vs hf has
      obtain ⟨h1, h2⟩ := hρ f _ hf
      obtain ⟨x1, x2, -⟩ := evs_spec hρ has
      split at hr
      · rename_i s hs
        cases hl1 : allB leaf x <;> rw [hl1] at hr
        · exact absurd hr (by simp)
        cases hl2 : allB leaf c <;> rw [hl2] at hr
        · exact absurd hr (by simp)
        simp only [cond_true] at hr
        obtain ⟨he, hc, _⟩ := hS fid s hs
        have l1 : ∀ g', x.map (ren g') = x.map (ren0 g') := fun g' => List.map_congr_left fun v hv => ren_leaf g' (allB_iff.1 hl1 v hv)
        have l2 : ∀ g', c.map (ren g') = c.map (ren0 g') := fun g' => List.map_congr_left fun v hv => ren_leaf g' (allB_iff.1 hl2 v hv)
        have hxc : (∀ v ∈ x, InB B v) ∧ (∀ v ∈ c, InB B v) := by
          refine ⟨fun v hv g1 g2 ag => ?_, fun v hv g1 g2 ag => ?_⟩ <;> have := h2 g1 g2 ag <;> simp only [ren, ren1, Value.func.injEq, true_and, List.map_toArray, Array.mk.injEq] at this
          · rw [ren_leaf _ (allB_iff.1 hl1 v hv), ren_leaf _ (allB_iff.1 hl1 v hv)]; exact List.map_inj_left.1 this.1 v hv
          · rw [ren_leaf _ (allB_iff.1 hl2 v hv), ren_leaf _ (allB_iff.1 hl2 v hv)]; exact List.map_inj_left.1 this.2 v hv
        have hargs : (execOp a.eval o).run P w = .ok (.enter fid ((x ++ (vs ++ c)).map (ren g)).toArray) w := by
          have ha : as.map a.eval = (vs.map (ren g)).toArray := Array.ext' (by rw [Array.toList_map, x1])
          have hfe : a.eval f = .func (.func fid) (x.map (ren0 g)).toArray (c.map (ren0 g)).toArray := by rw [h1]; simp [ren, ren1]
          simp only [execOp, ho, resolve, ha, hfe, Deferred.ofValue, Sem.run_bind, Sem.run_pure, Result.andThen_ok, invoke, he.run]
          simp [l1, l2]
        unfold Oper.wp
        rw [hargs, Oper.upon_enter]
        refine (hc _ H nm r hr hob M w0 g B w hH (fun v hv => ?_) hn).mono ?_
        · simp only [List.mem_append] at hv
          rcases hv with hv | hv | hv
          · exact hxc.1 v hv
          · exact x2 v hv
          · exact hxc.2 v hv
        · rintro e w' ⟨g', h3, h4, h5, rfl⟩
          exact hK g' w' h3 h4 h5
      · simp at hr
    · simp at hr
  · rename_i b as ts ho
    have plain : builtinOp P b ts (evs ρ as.toList) = some r → o.wp P a w K Q := fun hr => by
      obtain ⟨h1, h2, h3⟩ := builtinOp_ok (P := P) (w := w) (g := g) hρ o.type (as.map fun | .const _ => true | _ => false) hr
      refine wp_val hH h1 h2 ?_ hK
      rw [← h3]
      simp only [execOp, ho, resolve, Sem.run_bind, Sem.run_pure, Result.andThen_ok, invoke]
      congr 2
      exact Array.ext' (by rw [Array.toList_map])
    split at hr
    · rename_i x has
      split at hr
      · rename_i k hx
        obtain ⟨h1, h2⟩ := hρ x _ hx
        split at hr
        · rename_i t tl lay agg ek es c hts hb
          split at hr
          · rename_i kt et hu
            simp at hr; subst hr
            have ht : ts[0]? = some t := by rw [← Array.getElem?_toList, hts]; rfl
            have has' : as.map a.eval = #[.map (some (g.blk k))] := by
              apply Array.ext'
              rw [Array.toList_map, has]
              simp [h1, ren, ren1, ren0]
            refine wp_val hH rfl (InB.gnd rfl) ?_ hK
            simp only [execOp, ho, resolve, Sem.run_bind, Sem.run_pure, Result.andThen_ok, invoke, has', builtin, Builtin.len_]
            simp [ht, run_underlying hu, run_getObj (P := P) (hH.holds k _ hb), goInt, goLen, ren_int, objMap]
          · simp at hr
        · simp at hr
      · exact plain hr
    · rename_i x y has
      split at hr
      · exact zero_case hH hρ ho has hr hob hK
      · split at hr
        · exact append_case hH hnB hρ ho has (appendS_eq hr hob) hK
        · exact append_case hH hnB hρ ho has hr hK
    · rename_i x y has
      split at hr
      · exact copy_case hH hρ ho has hr hob hK
      · simp at hr
    · exact plain hr
  · rename_i t x lo hi ho
    split at hr
    · obtain ⟨r0, h1, h2, h3⟩ := sliceS_eq hr hob
      have hv := slice_case hH hρ h1
      exact wp_vok hH ⟨h3, h2 ▸ hv.inb, h2 ▸ hv.run⟩ (by unfold execOp; rw [ho]; rfl) hK
    · split at hr
      · exact end_case hH hnB hρ ho hr hob hK
      · exact wp_vok hH (slice_case hH hρ hr) (by unfold execOp; rw [ho]; rfl) hK
  · rename_i t l c ho
    exact make_case hH hnB hρ ho hr hob hK
  · obtain ⟨h1, h2, h3⟩ := pureOp_ok (P := P) (w := w) hρ hr hob
    exact wp_val hH h1 h2 h3 hK
end

/-! ### What an operation looks at -/
section
variable {P : Program} {sums : Sums} {h : Hint} {o : Oper} {ρ ρ' : Operand → Option Value} {H H' : Heap} {nm : Nat} {r : Res}
theorem evs_congr : ∀ {xs : List Operand}, (∀ x ∈ xs, ρ' x = ρ x) → evs ρ' xs = evs ρ xs
  | [], _ => rfl
  | x :: xs, hh => by simp only [evs, hh x (by simp), evs_congr (xs := xs) (fun y hy => hh y (by simp [hy]))]
theorem partsL_congr {ps : Array (Nat × Operand)} (hh : ∀ x ∈ ps.toList.map (·.2), ρ' x = ρ x) : partsL ρ' ps = partsL ρ ps := by
  unfold partsL
  refine List.map_congr_left fun p hp => ?_
  obtain ⟨i, x⟩ := p
  simp only [hh x (List.mem_map.2 ⟨(i, x), hp, rfl⟩)]
theorem pure_congr (hr : pureOp P h o ρ = some r) (hops : ∀ x ∈ o.op.operands, ρ' x = ρ x) : pureOp P h o ρ' = some r := by
  unfold pureOp at hr ⊢
  cases hsel : isSel o.op <;> rw [hsel] at hr
  · simp only [cond_false] at hr ⊢
    have hc : execOp (fun x => (ρ' x).getD undef) o = execOp (fun x => (ρ x).getD undef) o :=
      execOp_congr o (fun cs b hc => by rw [hc] at hsel; simp [isSel] at hsel) fun x hx => by simp only [hops x hx]
    rw [evs_congr (ρ := ρ) (fun x hx => hops x (by simpa using hx)), hc]
    exact hr
  · exact absurd hr (by simp)
theorem upd_congr {x key v : Option Value} {t : TypeId} (hr : mapUpdateOp P h t x key v H = some r) (hH : ∀ k ∈ r.rs, H' k = H k) : mapUpdateOp P h t x key v H' = some r := by
  unfold mapUpdateOp at hr ⊢
  split at hr
  · rename_i k key' v'
    have hk : H' k = H k := by
      refine hH k ?_
      split at hr
      · rename_i lay agg ek es c hb
        cases t1 : mapTypeIs P t lay agg ek <;> simp only [t1, cond_true, cond_false, reduceCtorEq] at hr
        cases t2 : keyFits lay agg key' <;> simp only [t2, cond_true, cond_false, reduceCtorEq] at hr
        cases t3 : fitsC [ek] [v'] <;> simp only [t3, cond_true, cond_false, reduceCtorEq] at hr
        split at hr <;> simp at hr <;> subst hr <;> simp
      · simp at hr
    simp only [hk]; exact hr
  · simp at hr
theorem ownOf_congr {size n : Nat} {e : TypeId} {s : Value} {xs : List Value} {ko : Option Nat} (h : ownOf size e H s = some (n, xs, ko)) (hH : ∀ k ∈ readsOf ko, H' k = H k) : ownOf size e H' s = some (n, xs, ko) := by
  unfold ownOf at h ⊢
  split at h
  · exact h
  · rename_i k n' c
    have hk : H' k = H k := by
      refine hH k ?_
      split at h
      · have h1 := bifN h
        have h2 := bifN h1.2
        have h3 := bifN h2.2
        have h4 := bifL h3.2
        have h5 := h4.2
        simp only [Option.some.injEq, Prod.mk.injEq] at h5
        rw [← h5.2.2]; simp [readsOf]
      · have h1 := bifN h
        have h2 := bifN h1.2
        have h3 := bifL h2.2
        have h4 := bifL h3.2
        have h5 := h4.2
        simp only [Option.some.injEq, Prod.mk.injEq] at h5
        rw [← h5.2.2]; simp [readsOf]
      · simp at h
    simp only [hk]
    exact h
  · simp at h
theorem srcOf_congr {size m : Nat} {x : Value} {vs : List Value} {kx : Nat} (h : srcOf size H x = some (m, vs, kx)) (hH : H' kx = H kx) : srcOf size H' x = some (m, vs, kx) := by
  unfold srcOf at h ⊢
  split at h
  · rename_i k off m' c
    have hk : H' k = H k := by
      split at h
      · split at h
        · split at h
          · simp only [Option.some.injEq, Prod.mk.injEq] at h
            rw [h.2.2]; exact hH
          · simp at h
        · simp at h
      · simp at h
    simp only [hk]
    exact h
  · simp at h
theorem appendOp_congr {ts : List TypeId} {s x : Option Value} (hr : appendOp P ts s x H nm = some r) (hH : ∀ k ∈ r.rs, H' k = H k) : appendOp P ts s x H' nm = some r := by
  unfold appendOp at hr ⊢
  split at hr
  · rename_i t t' s u
    have q1 := bifN hr
    simp only [q1.1, Nat.beq_refl, cond_true] at hr ⊢
    split at hr
    · split at hr
      · split at hr
        · rename_i z hz
          have q2 := bifN hr
          have q3 := bifL q2.2
          rw [q2.2] at hr
          rw [show Nat.beq z.cells.size _ = true from by rw [q2.1]; exact Nat.beq_refl _]
          simp only [cond_true]
          rw [Nat.ble_eq_true_of_le q3.1]
          simp only [cond_true]
          have h3 := q3.2
          split at h3
          · rename_i n xs ko m vs kx ho hs
            have q4 := bifB h3
            have q5 := bifL q4.2
            have q6 := bifL q5.2
            have q7 := bifL q6.2
            have q8 := q7.2
            rw [forceL_eq] at q8
            simp only [Option.some.injEq] at q8
            rw [ownOf_congr ho (fun k hk => hH k (by rw [← q8]; exact List.mem_cons_of_mem _ hk)), srcOf_congr hs (hH _ (by rw [← q8]; simp))]
            exact h3
          · simp at h3
        · simp at hr
      · simp at hr
    · simp at hr
  · simp at hr
theorem copyS_congr {cs' : List Value} {ts : List TypeId} {s x : Option Value} (hr : copyS P cs' ts s x H = some r) (hH : ∀ k ∈ r.rs, H' k = H k) : copyS P cs' ts s x H' = some r := by
  unfold copyS at hr ⊢
  split at hr
  · rename_i t t' k off n c kx offx m cx
    split at hr
    · split at hr
      · split at hr
        · rename_i b bx hb hbx
          split at hr
          · rename_i cs csx hrow hrowx
            split at hr
            · rename_i b' hput
              simp only [Option.some.injEq] at hr
              have h1 := hH k (by rw [← hr]; simp)
              have h2 := hH kx (by rw [← hr]; simp)
              simp only [h1, h2, hb, hbx, hrow, hrowx, hput]
              rw [← hr]
            · simp at hr
          · simp at hr
        · simp at hr
      · simp at hr
    · simp at hr
  · simp at hr
theorem appendS_congr {cs' : List Value} {ts : List TypeId} {s x : Option Value} (hr : appendS P cs' ts s x H nm = some r) (hH : ∀ k ∈ r.rs, H' k = H k) : appendS P cs' ts s x H' nm = some r := by
  unfold appendS at hr ⊢
  split at hr
  · rename_i t t' s kx offx m cx
    have p1 := bifN hr
    have q := p1.1
    have hr1 := p1.2
    clear hr p1
    subst q
    simp only [Nat.beq_refl, cond_true]
    split at hr1
    · rename_i e hu
      split at hr1
      · rename_i i hi
        split at hr1
        · rename_i z hz
          have p2 := bifN hr1
          have p3 := bifL p2.2
          have hzs := p2.1
          have hsz := p3.1
          have hr2 := p3.2
          clear hr1 p2 p3
          have hb2 : Nat.beq z.cells.size i.size = true := by rw [hzs]; exact Nat.beq_refl _
          simp only [hu, hi, hz, hb2, Nat.ble_eq_true_of_le hsz, cond_true]
          split at hr2
          · rename_i bx hbx
            split at hr2
            · rename_i csx hcsx
              split at hr2
              · simp only [Option.some.injEq] at hr2
                have hk := hH kx (by rw [← hr2]; simp)
                simp only [hk, hbx, hcsx]
                rw [hr2]
              · rename_i k n c
                split at hr2
                · rename_i cs ty sz hb
                  have p4 := bifN hr2
                  have p5 := bifN p4.2
                  have hr3 := p5.2
                  simp only [Option.some.injEq] at hr3
                  have hk := hH kx (by rw [← hr3]; simp)
                  have hk' := hH k (by rw [← hr3]; simp)
                  simp only [hk, hk', hbx, hcsx, hb]
                  exact hr2
                · rename_i cs ty hb
                  have p4 := bifN hr2
                  have hr3 := p4.2
                  simp only [Option.some.injEq] at hr3
                  have hk := hH kx (by rw [← hr3]; simp)
                  have hk' := hH k (by rw [← hr3]; simp)
                  simp only [hk, hk', hbx, hcsx, hb]
                  exact hr2
                · simp at hr2
              · simp at hr2
            · simp at hr2
          · simp at hr2
        · simp at hr1
      · simp at hr1
    · simp at hr1
  · simp at hr
theorem eff_congr (hS : SumsOK P sums) (hr : eff P sums h o ρ H nm = some r) (hρ : ∀ x ∈ o.op.operands, ρ' x = ρ x) (hH : ∀ k ∈ r.rs, H' k = H k) (hL : ∀ k f v, lrOf P o ρ H = some (k, f, v) → ∃ b, H' k = some b ∧ f b = some v) : eff P sums h o ρ' H' nm = some r := by
  unfold eff at hr ⊢
  split at hr <;> rename_i ho
  all_goals (try simp only [ho, Op.operands] at hρ)
  case h_1 => rw [hρ _ (by simp)]; exact hr
  case h_2 => rw [hρ _ (by simp)]; exact hr
  case h_3 => rw [hρ _ (by simp), hρ _ (by simp), hρ _ (by simp)]; exact hr
  case h_4 => exact hr
  case h_5 => rw [hρ _ (by simp)]; exact hr
  case h_6 =>
    rw [hρ _ (by simp)]
    unfold loadOp at hr ⊢
    split at hr
    · rename_i k off hx
      have hk : H' k = H k := by
        refine hH k ?_
        split at hr
        · split at hr
          · split at hr
            · rename_i v hv
              cases hn : notTuple v <;> simp only [hn, cond_true, cond_false, reduceCtorEq, Option.some.injEq] at hr
              subst hr; simp
            · split at hr
              · simp at hr; subst hr; simp
              · simp at hr
          · simp at hr
        · simp at hr
      simp only [hk]
      exact hr
    · simp at hr
  case h_7 =>
    rw [hρ _ (by simp), hρ _ (by simp)]
    unfold storeOp at hr ⊢
    split at hr
    · rename_i k off y hx hy
      have hk : H' k = H k := by
        refine hH k ?_
        split at hr
        · rename_i b vs n hb hvs hsz
          cases hbq : Nat.beq vs.length n <;> simp only [hbq, cond_true, cond_false, reduceCtorEq] at hr
          cases hlf : allB leaf vs <;> simp only [hlf, cond_true, cond_false, reduceCtorEq] at hr
          split at hr
          · split at hr
            · split at hr
              · simp at hr; subst hr; simp
              · simp at hr
            · split at hr
              · rw [forceL_eq] at hr
                split at hr
                · simp at hr; subst hr; simp
                · simp at hr
              · simp at hr
          · simp at hr
        · simp at hr
      simp only [hk]
      exact hr
    · simp at hr
  case h_8 => rw [hρ _ (by simp)]; exact hr
  case h_9 => rw [hρ _ (by simp)]; exact hr
  case h_10 => rw [hρ _ (by simp), hρ _ (by simp)]; exact hr
  case h_11 => rw [hρ _ (by simp)]; exact hr
  case h_12 => rw [hρ _ (by simp), hρ _ (by simp)]; exact hr
  case h_13 => rw [hρ _ (by simp)]; exact hr
  case h_14 => rw [partsL_congr (ρ := ρ) (fun x hx => hρ x (by simpa using hx))]; exact hr
  case h_15 => rw [partsL_congr (ρ := ρ) (fun x hx => hρ x (by simpa using hx))]; exact hr
  case h_16 => rw [evs_congr (ρ := ρ) (fun x hx => hρ x (by simp at hx; simp [hx])), evs_congr (ρ := ρ) (fun x hx => hρ x (by simp at hx; simp [hx]))]; exact hr
  case h_17 =>
    rename_i op t x y yt
    have hops : ∀ x ∈ o.op.operands, ρ' x = ρ x := by rw [ho]; simpa only [Op.operands] using hρ
    rw [hρ _ (by simp), hρ _ (by simp)]
    unfold binA at hr ⊢
    split at hr
    · exact hr
    · exact hr
    · split at hr
      · exact hr
      · exact pure_congr hr hops
    · exact pure_congr hr hops
  case h_18 =>
    rename_i t x key ok
    rw [hρ _ (by simp), hρ _ (by simp)]
    unfold lookupOp at hr ⊢
    split at hr
    · rename_i k key' hx hkey
      split at hr
      · rename_i b hb
        split at hr
        · rename_i v hv
          split at hr
          · have hl : lrOf P o ρ H = some (k, lookVal P t key', v) := by
              unfold lrOf
              rw [ho]
              simp only [hx, hkey, hb, hv]
            obtain ⟨b', hb', hf⟩ := hL _ _ _ hl
            simp only [hb', hf]
            exact hr
          · rename_i es c
            have hk : H' k = H k := hH k (by simp at hr; subst hr; simp)
            simp only [hk, hb, hv]
            exact hr
          · simp at hr
        · simp at hr
      · simp at hr
    · simp at hr
  case h_19 => exact hr
  case h_20 => rw [hρ _ (by simp), hρ _ (by simp), hρ _ (by simp)]; exact upd_congr hr hH
  case h_21 => rw [hρ _ (by simp), hρ _ (by simp), hρ _ (by simp)]; exact upd_congr hr hH
  case h_22 =>
    rename_i t x key
    rw [hρ _ (by simp), hρ _ (by simp)]
    unfold mapEntryOp at hr ⊢
    split at hr
    · rename_i k key' hx hkey
      have hk : H' k = H k := by
        refine hH k ?_
        split at hr
        · rename_i lay agg ek es c hb
          cases t1 : mapTypeIs P t lay agg ek <;> simp only [t1, cond_true, cond_false, reduceCtorEq] at hr
          cases t2 : keyFits lay agg key' <;> simp only [t2, cond_true, cond_false, reduceCtorEq, Option.some.injEq] at hr
          subst hr; simp
        · simp at hr
      simp only [hk]; exact hr
    · simp at hr
  case h_23 =>
    rw [hρ _ (by simp), hρ _ (by simp), hρ _ (by simp)]
    unfold entryStoreOp at hr ⊢
    split at hr
    · rename_i k n v' hx hst hv
      have hk : H' k = H k := by
        refine hH k ?_
        split at hr
        · rename_i lay agg ek es c hb
          cases t1 : fitsC [ek] [v'] <;> simp only [t1, cond_true, cond_false, reduceCtorEq] at hr
          split at hr
          · simp at hr; subst hr; simp
          · split at hr
            · simp at hr; subst hr; simp
            · simp at hr
        · simp at hr
      simp only [hk]; exact hr
    · simp at hr
  case h_24 =>
    rw [hρ _ (by simp [Call.operands]), evs_congr (ρ := ρ) (fun x hx => hρ x (by simp at hx; simp [Call.operands, hx]))]
    unfold callOp at hr ⊢
    split at hr
    · rename_i fid x c vs hf has
      split at hr
      · rename_i s hs
        cases hl1 : allB leaf x <;> rw [hl1] at hr
        · exact absurd hr (by simp)
        cases hl2 : allB leaf c <;> rw [hl2] at hr
        · exact absurd hr (by simp)
        simp only [cond_true] at hr ⊢
        exact (hS fid s hs).2.2 _ H nm r hr H' hH
      · simp at hr
    · simp at hr
  case h_25 =>
    rename_i b as ts
    have hev : evs ρ' as.toList = evs ρ as.toList := evs_congr (ρ := ρ) (fun x hx => hρ x (by simp at hx; simp [Call.operands, hx]))
    rw [hev]
    split at hr
    · rename_i x has
      have hx' : ρ' x = ρ x := hρ x (by have : x ∈ as.toList := by rw [has]; simp
                                        simp [Call.operands]; simpa using this)
      rw [hx']
      split at hr
      · rename_i k hx
        split at hr
        · rename_i t tl lay agg ek es c hts hb
          split at hr
          · rename_i kt et hu
            have hk : H' k = H k := hH k (by simp at hr; subst hr; simp)
            simp only [hts, hk, hb, hu]
            exact hr
          · simp at hr
        · simp at hr
      · exact hr
    · rename_i x y has
      have hx' : ρ' x = ρ x := hρ x (by have : x ∈ as.toList := by rw [has]; simp
                                        simp [Call.operands]; simpa using this)
      have hy' : ρ' y = ρ y := hρ y (by have : y ∈ as.toList := by rw [has]; simp
                                        simp [Call.operands]; simpa using this)
      rw [hx', hy']
      split at hr
      · unfold appendZ at hr ⊢
        split at hr
        · have p1 := bifN hr
          have q := p1.1
          have hr1 := p1.2
          clear hr p1
          subst q
          simp only [Nat.beq_refl, cond_true]
          split at hr1
          · split at hr1
            · split at hr1
              · exact hr1
              · have hk := hH _ (by simp only [Option.some.injEq] at hr1; rw [← hr1]; exact List.mem_singleton.2 rfl)
                rw [hk]
                exact hr1
              · simp at hr1
            · simp at hr1
          · simp at hr1
        · simp at hr
      · split at hr
        · exact appendS_congr hr hH
        · exact appendOp_congr hr hH
    · rename_i x y has
      have hx' : ρ' x = ρ x := hρ x (by have : x ∈ as.toList := by rw [has]; simp
                                        simp [Call.operands]; simpa using this)
      have hy' : ρ' y = ρ y := hρ y (by have : y ∈ as.toList := by rw [has]; simp
                                        simp [Call.operands]; simpa using this)
      rw [hx', hy']
      split at hr
      · exact copyS_congr hr hH
      · simp at hr
    · exact hr
  case h_26 =>
    rename_i t x lo hi
    have hlo : lo.map ρ' = lo.map ρ := by
      cases lo with
      | none => rfl
      | some y => simp only [Option.map_some]; rw [hρ y (by simp)]
    have hhi : hi.map ρ' = hi.map ρ := by
      cases hi with
      | none => rfl
      | some y => simp only [Option.map_some]; rw [hρ y (by simp)]
    rw [hρ x (by simp), hlo, hhi]
    split at hr
    · rename_i u hu0
      unfold sliceS at hr ⊢
      split at hr
      · split at hr
        · have hk := hH _ (by simp only [Option.some.injEq] at hr; rw [← hr]; exact List.mem_singleton.2 rfl)
          rw [hk]
          exact hr
        · simp at hr
      · simp at hr
    split at hr
    · unfold sliceE at hr ⊢
      split at hr
      · split at hr
        · have hk := hH _ (by simp only [Option.some.injEq] at hr; rw [← hr]; exact List.mem_singleton.2 rfl)
          rw [hk]
          exact hr
        · simp at hr
      · simp at hr
    unfold sliceOp at hr ⊢
    split at hr
    · split at hr
      · have p1 := bifL hr
        have p2 := bifL p1.2
        have hr1 := p2.2
        rw [Nat.ble_eq_true_of_le p1.1]
        rw [Nat.ble_eq_true_of_le p2.1]
        simp only [cond_true]
        split at hr1
        · rename_i k _ _ _ _ _ _ _ _ _ _ _ hmk
          split at hr1
          · rename_i cs ty s hb
            have p3 := bifN hr1
            have p4 := bifL p3.2
            have p5 := bifL p4.2
            have p6 := bifB p5.2
            have hr2 := p6.2
            simp only [Option.some.injEq] at hr2
            have hk := hH _ (by rw [← hr2]; exact List.mem_singleton.2 rfl)
            rw [hk, hb]
            exact hr1
          · simp at hr1
        · exact hr1
      · simp at hr
    · exact hr
    · simp at hr
  case h_27 =>
    rw [hρ _ (by simp), hρ _ (by simp)]
    exact hr
  case h_28 =>
    have hops : ∀ x ∈ o.op.operands, ρ' x = ρ x := by simpa only [Op.operands] using hρ
    exact pure_congr hr hops
end
end Go.Proofs.Ytmgkmekknhggbaa.Ev

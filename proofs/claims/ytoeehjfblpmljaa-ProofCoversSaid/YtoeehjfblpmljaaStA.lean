/-
  What a cutting comes to; the frames of its loop. No condition.
-/
import Derived.Test.YtoeehjfblpmljaaPrG
set_option linter.unusedVariables false
set_option linter.unusedSimpArgs false
set_option maxRecDepth 100000
namespace Go.Proofs.Ytoeehjfblpmljaa.PrA
open Go Go.RowKit Go.Proofs.Ytoeehjfblpmljaa.Ev Go.Proofs.Ytoeehjfblpmljaa.PickE Go.Proofs.Ytoeehjfblpmljaa.BoxF Go.Proofs.Ytoeehjfblpmljaa.Within Go.Proofs.Ytoeehjfblpmljaa.PrA
/-- Which place a cutting names. -/
def cutK (pl : List Int) (l : Nat) : Int := withinS (pickI pl l) 0 5
def cutA (al : List Int) (x : Bx) (k : Int) (l : Nat) : Int := withinS (pickI al l) (x.lo k) (x.hi k - 1)
/-- Does a box stay as it is? -/
def stays (pl : List Int) (x : Bx) (k : Int) (cuts : Nat) : Prop := k = 5 ∨ 20 ≤ cuts ∨ pl.length = 0 ∨ x.hi k ≤ x.lo k
instance (pl : List Int) (x : Bx) (k : Int) (cuts : Nat) : Decidable (stays pl x k cuts) := by unfold stays; infer_instance
def stepsGo (pl al : List Int) : Nat → List Bx → List Bx → List Stp → Nat → List Bx × List Stp
  | 0, _, out, st, _ => (out, st)
  | _ + 1, [], out, st, _ => (out, st)
  | f + 1, x :: stk, out, st, cuts =>
    if stays pl x (cutK pl st.length) cuts then stepsGo pl al f stk (out ++ [x]) (st ++ [⟨true, 0, 0⟩]) cuts
    else stepsGo pl al f (x.setHi (cutK pl st.length) (cutA al x (cutK pl st.length) st.length) :: x.setLo (cutK pl st.length) (cutA al x (cutK pl st.length) st.length + 1) :: stk) out (st ++ [⟨false, cutK pl st.length, cutA al x (cutK pl st.length) st.length⟩]) (cuts + 1)
/-- The boxes that a cutting of a box comes to, and its steps. -/
def stepsI (pl al : List Int) (b : Bx) : List Bx × List Stp := stepsGo pl al 41 [b] [] [] 0
def _root_.Go.Proofs.Ytoeehjfblpmljaa.Ev.Bx.Small (x : Bx) : Prop := ∀ k, 0 ≤ k → k < 5 → -1152921504606846976 ≤ x.lo k ∧ x.lo k ≤ 1152921504606846976 ∧ -1152921504606846976 ≤ x.hi k ∧ x.hi k ≤ 1152921504606846976
structure TF where
  stk : List Bx
  junk : List Bx
  out : List Bx
  st : List Stp
  cuts : Nat
  f : Nat

def stS (cs : List Value) (o n c : Nat) (ds : List Value) (p m d : Nat) (b : Bx) : LoopF TF where
  ts _ := [2, 6, 7, 8, 9]
  hs z := match z with | 0 => [0, 1, 10, 11] | 1 => [0, 1, 10, 11, 13] | _ => [0, 1, 10, 11, 12, 13]
  tv z := fun ⟨stk, junk, out, st, cuts, f⟩ => [.pointer (some ⟨10, 0, none⟩), (match z with | 0 => .slice none 0 0 | 1 => .slice none 0 0 | _ => .slice (some ⟨12, 0, none⟩) out.length mk), (match z with | 0 => .slice none 0 0 | _ => .slice (some ⟨13, 0, none⟩) st.length mk), .slice (some ⟨11, 0, none⟩) stk.length mk, .int .i64 (cuts : Int)]
  hv z := fun ⟨stk, junk, out, st, cuts, f⟩ => match z with
    | 0 => [.ro cs, .ro ds, .cells [.slice (some ⟨0, o, none⟩) n c, .slice (some ⟨1, p, none⟩) m d] 38, .vec (eBox.row (stk.reverse ++ junk)) 31 10]
    | 1 => [.ro cs, .ro ds, .cells [.slice (some ⟨0, o, none⟩) n c, .slice (some ⟨1, p, none⟩) m d] 38, .vec (eBox.row (stk.reverse ++ junk)) 31 10, .vec (eStp.row st) 23 3]
    | _ => [.ro cs, .ro ds, .cells [.slice (some ⟨0, o, none⟩) n c, .slice (some ⟨1, p, none⟩) m d] 38, .vec (eBox.row (stk.reverse ++ junk)) 31 10, .vec (eBox.row out) 31 10, .vec (eStp.row st) 23 3]
  inv z := fun ⟨stk, junk, out, st, cuts, f⟩ => cuts ≤ 20 ∧ 2 * (20 - cuts) + stk.length ≤ f ∧ st.length + f ≤ 41 ∧ out.length ≤ st.length ∧ (∀ x ∈ stk, x.Small) ∧ stepsGo (intsOf cs o n) (intsOf ds p m) f stk out st cuts = stepsI (intsOf cs o n) (intsOf ds p m) b ∧
    (match z with | 0 => out = [] ∧ st = [] ∧ stk ≠ [] | 1 => out = [] ∧ st ≠ [] ∧ stk ≠ [] | _ => out ≠ [] ∧ st ≠ [])
  mu _ := fun ⟨stk, junk, out, st, cuts, f⟩ => f
  nx := 14
theorem stS_ok (cs : List Value) (o n c : Nat) (ds : List Value) (p m d : Nat) (b : Bx) (h1 : ∀ x ∈ cs, leafG x = true) (h2 : ∀ x ∈ ds, leafG x = true) : (stS cs o n c ds p m d b).OK 2 := by
  have hbx : ∀ l : List Bx, (Blk.vec (eBox.row l) 31 10).namesLt 14 := fun l => Blk.plain.namesLt (b := .vec _ _ _) (Elt.row_pl l) _
  have hst : ∀ l : List Stp, (Blk.vec (eStp.row l) 23 3).namesLt 14 := fun l => Blk.plain.namesLt (b := .vec _ _ _) (Elt.row_pl l) _
  have hce : (Blk.cells [.slice (some ⟨0, o, none⟩) n c, .slice (some ⟨1, p, none⟩) m d] 38).namesLt 14 := by
    intro x hx k hk
    simp at hx
    rcases hx with rfl | rfl <;> simp [nm0] at hk <;> omega
  refine ⟨(by decide : 2 ≤ 14), fun z i h k hk => ?_, fun z i h v hv k hk => ?_, fun z i h x hx => ?_⟩
  · show k < 14
    match z with
    | 0 => simp [stS] at hk; omega
    | 1 => simp [stS] at hk; omega
    | z + 2 => simp [stS] at hk; omega
  · show k < 14
    match z with
    | 0 =>
      simp [stS] at hv
      rcases hv with rfl | rfl | rfl | rfl <;> simp [nms, nm1, nm0] at hk <;> omega
    | 1 =>
      simp [stS] at hv
      rcases hv with rfl | rfl | rfl | rfl | rfl <;> simp [nms, nm1, nm0] at hk <;> omega
    | z + 2 =>
      simp [stS] at hv
      rcases hv with rfl | rfl | rfl | rfl | rfl <;> simp [nms, nm1, nm0] at hk <;> omega
  · have e1 := Blk.plain.namesLt (b := .ro cs) h1 14
    have e2 := Blk.plain.namesLt (b := .ro ds) h2 14
    match z with
    | 0 =>
      simp [stS] at hx
      rcases hx with rfl | rfl | rfl | rfl <;> first | exact e1 | exact e2 | exact hce | exact hbx _
    | 1 =>
      simp [stS] at hx
      rcases hx with rfl | rfl | rfl | rfl | rfl <;> first | exact e1 | exact e2 | exact hce | exact hbx _ | exact hst _
    | z + 2 =>
      simp [stS] at hx
      rcases hx with rfl | rfl | rfl | rfl | rfl | rfl <;> first | exact e1 | exact e2 | exact hce | exact hbx _ | exact hst _

def stN (cs : List Value) (o n c : Nat) (b : Bx) : LoopF TF where
  ts _ := [2, 6, 7, 8, 9]
  hs z := match z with | 0 => [0, 10, 11] | 1 => [0, 10, 11, 13] | _ => [0, 10, 11, 12, 13]
  tv z := fun ⟨stk, junk, out, st, cuts, f⟩ => [.pointer (some ⟨10, 0, none⟩), (match z with | 0 => .slice none 0 0 | 1 => .slice none 0 0 | _ => .slice (some ⟨12, 0, none⟩) out.length mk), (match z with | 0 => .slice none 0 0 | _ => .slice (some ⟨13, 0, none⟩) st.length mk), .slice (some ⟨11, 0, none⟩) stk.length mk, .int .i64 (cuts : Int)]
  hv z := fun ⟨stk, junk, out, st, cuts, f⟩ => match z with
    | 0 => [.ro cs, .cells [.slice (some ⟨0, o, none⟩) n c, .slice none 0 0] 38, .vec (eBox.row (stk.reverse ++ junk)) 31 10]
    | 1 => [.ro cs, .cells [.slice (some ⟨0, o, none⟩) n c, .slice none 0 0] 38, .vec (eBox.row (stk.reverse ++ junk)) 31 10, .vec (eStp.row st) 23 3]
    | _ => [.ro cs, .cells [.slice (some ⟨0, o, none⟩) n c, .slice none 0 0] 38, .vec (eBox.row (stk.reverse ++ junk)) 31 10, .vec (eBox.row out) 31 10, .vec (eStp.row st) 23 3]
  inv z := fun ⟨stk, junk, out, st, cuts, f⟩ => cuts ≤ 20 ∧ 2 * (20 - cuts) + stk.length ≤ f ∧ st.length + f ≤ 41 ∧ out.length ≤ st.length ∧ (∀ x ∈ stk, x.Small) ∧ stepsGo (intsOf cs o n) [] f stk out st cuts = stepsI (intsOf cs o n) [] b ∧
    (match z with | 0 => out = [] ∧ st = [] ∧ stk ≠ [] | 1 => out = [] ∧ st ≠ [] ∧ stk ≠ [] | _ => out ≠ [] ∧ st ≠ [])
  mu _ := fun ⟨stk, junk, out, st, cuts, f⟩ => f
  nx := 14
theorem stN_ok (cs : List Value) (o n c : Nat) (b : Bx) (h1 : ∀ x ∈ cs, leafG x = true)  : (stN cs o n c b).OK 1 := by
  have hbx : ∀ l : List Bx, (Blk.vec (eBox.row l) 31 10).namesLt 14 := fun l => Blk.plain.namesLt (b := .vec _ _ _) (Elt.row_pl l) _
  have hst : ∀ l : List Stp, (Blk.vec (eStp.row l) 23 3).namesLt 14 := fun l => Blk.plain.namesLt (b := .vec _ _ _) (Elt.row_pl l) _
  have hce : (Blk.cells [.slice (some ⟨0, o, none⟩) n c, .slice none 0 0] 38).namesLt 14 := by
    intro x hx k hk
    simp at hx
    rcases hx with rfl | rfl <;> simp [nm0] at hk <;> omega
  refine ⟨(by decide : 1 ≤ 14), fun z i h k hk => ?_, fun z i h v hv k hk => ?_, fun z i h x hx => ?_⟩
  · show k < 14
    match z with
    | 0 => simp [stN] at hk; omega
    | 1 => simp [stN] at hk; omega
    | z + 2 => simp [stN] at hk; omega
  · show k < 14
    match z with
    | 0 =>
      simp [stN] at hv
      rcases hv with rfl | rfl | rfl | rfl <;> simp [nms, nm1, nm0] at hk <;> omega
    | 1 =>
      simp [stN] at hv
      rcases hv with rfl | rfl | rfl | rfl | rfl <;> simp [nms, nm1, nm0] at hk <;> omega
    | z + 2 =>
      simp [stN] at hv
      rcases hv with rfl | rfl | rfl | rfl | rfl <;> simp [nms, nm1, nm0] at hk <;> omega
  · have e1 := Blk.plain.namesLt (b := .ro cs) h1 14
    
    match z with
    | 0 =>
      simp [stN] at hx
      rcases hx with rfl | rfl | rfl <;> first | exact e1 | exact hce | exact hbx _
    | 1 =>
      simp [stN] at hx
      rcases hx with rfl | rfl | rfl | rfl <;> first | exact e1 | exact hce | exact hbx _ | exact hst _
    | z + 2 =>
      simp [stN] at hx
      rcases hx with rfl | rfl | rfl | rfl | rfl <;> first | exact e1 | exact hce | exact hbx _ | exact hst _

end Go.Proofs.Ytoeehjfblpmljaa.PrA


/-
  Slices that come in, as rows that the evaluator tells: addresses, cells, what the cells are. No condition.
-/
import Derived.Test.YtmgkmekknhggbaaElt
import Derived.Test.YtmgkmekknhggbaaRows
import Derived.WalkKit
import Derived.ProofKit
import Derived.OpenShut
import Derived.Deep.Slices
set_option linter.unusedVariables false
set_option linter.unusedSimpArgs false
namespace Go.Proofs.Ytmgkmekknhggbaa.Ev
open Go Go.RowKit Go.Deep
/-- A slice whose elements are such. -/
def Opened {α : Type} (W : World) (e : Elt α) (good : α → Prop) (v : Value) : Prop :=
  v = .slice none 0 0 ∨ ∃ (b off cap : Nat) (l : List α), v = .slice (some ⟨b, off, none⟩) l.length cap ∧ l.length ≤ cap ∧ cap ≤ maxLen ∧ (∀ x ∈ l, good x) ∧ ∃ c ty fz, W.heap[b]? = some (.cells c ty fz) ∧ ∀ i u, (e.row l)[i]? = some u → c[off + i]? = some u
theorem row_get {α : Type} (e : Elt α) : ∀ (l : List α) (i : Nat) (u : Value), (e.row l)[i]? = some u → ∃ (j r : Nat) (x : α), l[j]? = some x ∧ (e.cells x)[r]? = some u ∧ i = j * e.s + r ∧ r < e.s
  | [], i, u, h => by simp [Elt.row] at h
  | x :: l, i, u, h => by
    rw [Elt.row_cons] at h
    by_cases hi : i < e.s
    · rw [List.getElem?_append_left (by rw [e.len]; exact hi)] at h
      exact ⟨0, i, x, rfl, h, by omega, hi⟩
    · rw [List.getElem?_append_right (by rw [e.len]; omega), e.len] at h
      obtain ⟨j, r, y, h1, h2, h3, h4⟩ := row_get e l _ u h
      exact ⟨j + 1, r, y, by simpa using h1, h2, by rw [Nat.succ_mul]; omega, h4⟩
theorem choose_list {α : Type} (p : Nat → α → Prop) : ∀ n, (∀ i, i < n → ∃ x, p i x) → ∃ l : List α, l.length = n ∧ ∀ i x, l[i]? = some x → p i x
  | 0, _ => ⟨[], rfl, by simp⟩
  | n + 1, h => by
    obtain ⟨l, h1, h2⟩ := choose_list p n (fun i hi => h i (by omega))
    obtain ⟨x, hx⟩ := h n (by omega)
    refine ⟨l ++ [x], by simp [h1], fun i y hy => ?_⟩
    by_cases hi : i < l.length
    · rw [List.getElem?_append_left hi] at hy; exact h2 i y hy
    · rw [List.getElem?_append_right (by omega)] at hy
      have : i - l.length = 0 := by
        rcases Nat.eq_zero_or_pos (i - l.length) with h0 | h0
        · exact h0
        · rw [List.getElem?_eq_none (by simp; omega)] at hy; simp at hy
      rw [this] at hy
      simp at hy
      subst hy
      have : i = n := by omega
      subst this
      exact hx
section
variable {H : Type} {enc : TypeId × Value → H} {P : Program} {W : World} {base : Nat} {spare : Nat → Bool} {held : Bool} {r : Reach} {b0 : Nat}
theorem open_row {α : Type} {e : Elt α} {good : α → Prop} {t et : TypeId} {fuel : Nat} {v : Value} {y : DataW H × List MemPlace} (ht : P.underlying t = some (.slice et)) (hc : P.cellsOf et = e.s)
    (elem : ∀ n cs z, DataW.trod enc P W base spare held n et cs = some z → ∃ x, cs = e.cells x ∧ good x) (hv : Cell.okWide P W r b0 t v) (h : DataW.trod enc P W base spare held fuel t [v] = some y) : Opened W e good v := by
  rcases open_slice ht h with ⟨h0, _⟩ | ⟨a, len, cap, m, n, D, Pl, hcs, _, hl, hm, hmm, _, hx⟩
  · left; simpa using h0
  right
  have hcs : v = .slice (some a) len cap := by simpa using hcs
  subst hcs
  have hok : W.has P r b0 a et cap := by
    simp only [Cell.okWide, ht, Cell.ok] at hv
    exact hv.2.2
  obtain ⟨_, hsp, row, cells, hsh, _⟩ := hok
  obtain ⟨blk, off, spot⟩ := a
  simp only at hsp hsh
  subst hsp
  have hlm : len ≤ m := by rw [hmm]; split <;> omega
  obtain ⟨c, ty, fz, hblk⟩ : ∃ c ty fz, W.heap[blk]? = some (.cells c ty fz) := by
    unfold World.shape? at hsh
    split at hsh
    · rename_i c ty fz hb; exact ⟨c, ty, fz, hb⟩
    · simp at hsh
  obtain ⟨l, hl1, hl2⟩ := choose_list (fun i x => good x ∧ ∀ j u, (e.cells x)[j]? = some u → c[off + (i * e.s + j)]? = some u) len (fun i hi => by
    obtain ⟨cs', h1, h2⟩ := hx i (by omega)
    obtain ⟨x, rfl, hg⟩ := elem _ _ _ h2
    obtain ⟨_, hlen, hcell⟩ := World.cells?_some h1
    refine ⟨x, hg, fun j u hj => ?_⟩
    have hjl : j < P.cellsOf et := by
      have := (List.getElem?_eq_some_iff.1 hj).1
      omega
    have := hcell j hjl
    rw [add_add, hj, plain_add, hc] at this
    simpa [World.cell?, hblk] using this)
  refine ⟨blk, off, cap, l, by rw [hl1], by rw [hl1]; exact hl, hm, fun x hx' => ?_, c, ty, fz, hblk, fun i u hu => ?_⟩
  · obtain ⟨j, hj⟩ := List.getElem?_of_mem hx'
    exact (hl2 j x hj).1
  · obtain ⟨j, q, x, h1, h2, h3, _⟩ := row_get e l i u hu
    rw [h3]
    exact (hl2 j x h1).2 q u h2
theorem elem_int {k : IntKind} {t : TypeId} (ht : P.underlying t = some (.int k)) (n : Nat) (cs : List Value) (z : DataW H × List MemPlace) (h : DataW.trod enc P W base spare held n t cs = some z) : ∃ x : Int, cs = [.int k x] ∧ (Lit.int k x).wf = true := by
  obtain ⟨m, h1, _, h2⟩ := DataW.trod_int ht h
  exact ⟨m, h1, h2⟩
theorem wf64 {n : Int} (h : (Lit.int .i64 n).wf = true) : I64 n := by
  simp [Lit.wf, IntKind.has, IntKind.min, IntKind.max, IntKind.signed, IntKind.bits] at h
  exact ⟨by omega, by omega⟩
end
/-- Names stand for these addresses. -/
def Nm.at (l : List (Nat × Nat)) : Nm := ⟨fun k => match l[k]? with | some p => p.1 | none => 0, fun k => match l[k]? with | some p => p.2 | none => 0, fun _ => 0⟩
/-- What a call does that only reads, where its arguments lie there. -/
theorem calls_ro {P : Program} {f : FuncId} {args : List Value} {H0 : Heap} {nx : Nat} {v : Value} (hs : CallSpec P f args H0 nx v (assocN [] [])) (hv : gnd v = true) (hro : ∀ j b, H0 j = some b → j < nx ∧ ∃ cs, b = .ro cs ∧ ∀ c ∈ cs, leafG c = true)
    (hnm : ∀ u ∈ args, ∀ j ∈ nms u, j < nx) {W : World} {l : List (Nat × Nat)} (hat : ∀ j cs, H0 j = some (.ro cs) → (Blk.ro cs).Holds (Nm.at l) j W.heap[(Nm.at l).blk j]?) :
    Calls P f (args.map (ren (Nm.at l))).toArray W fun e w' => e = .returned v ∧ Below W.heap.size W w' := by
  have hwr : ∀ j b, H0 j = some b → b.wr = false := fun j b hb => by obtain ⟨_, cs, rfl, _⟩ := hro j b hb; rfl
  have hH : HC (fun _ => False) W (Nm.at l) (· < nx) H0 W := by
    refine ⟨BelowBut.refl _ _, fun j b hb => (hro j b hb).1, fun j b hb => ?_, fun j b hb => ?_, fun j b hb hw => by rw [hwr j b hb] at hw; simp at hw, fun i j b c hb hc hw he => by rw [hwr i b hb] at hw; simp at hw⟩
    · obtain ⟨_, cs, rfl, hp⟩ := hro j b hb
      exact fun c hc => In0.leafG (hp c hc)
    · obtain ⟨_, cs, rfl, _⟩ := hro j b hb
      exact hat j cs hb
  refine (ro_own hs hwr (fun _ h => h) hH (fun u hu => inB_lt (hnm u hu))).mono ?_
  rintro e w' ⟨g', B', _, hc, rfl⟩
  exact ⟨by rw [ren_gnd g' hv], hc.below.below⟩
end Go.Proofs.Ytmgkmekknhggbaa.Ev


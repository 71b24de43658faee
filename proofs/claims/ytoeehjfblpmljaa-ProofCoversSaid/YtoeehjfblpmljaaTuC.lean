/-
  ProofTurned behind its cutting: whatever is turned, no proof is left. No condition.
-/
import Derived.Test.YtoeehjfblpmljaaTlC
import Derived.Test.YtoeehjfblpmljaaLset
import Derived.Test.YtoeehjfblpmljaaTuB
set_option linter.unusedVariables false
set_option linter.unusedSimpArgs false
set_option maxRecDepth 100000
namespace Go.Proofs.Ytoeehjfblpmljaa.Ev
open Go Go.RowKit
section
variable {α : Type} {e : Elt α}
theorem appG {L M : List α} {ty : TypeId} {own : Option Blk} {n m c size bytes o : Nat} {res : List Value} (hown : (own = some (.vec (e.row L) ty size) ∧ c = mk) ∨ (own = some (.cells [] ty) ∧ n = 0 ∧ c = 0)) (hs : size = e.s) {k : Nat} (ho : o = k * e.s) (hk : k + m ≤ M.length) (hn : n ≤ L.length) (hres : res = e.row (L.take n ++ (M.drop k).take m))
    (h1 : 1 ≤ m) (hb : n + m ≤ 16777216) (hby : (n + m) * bytes ≤ 140737488355328) : AppOK own n c size bytes m (e.row M) o res := by
  subst hs
  subst hres
  subst ho
  have hkm : k * e.s + m * e.s ≤ M.length * e.s := by rw [← Nat.add_mul]; exact Nat.mul_le_mul_right _ hk
  refine ⟨e.row (L.take n), e.row ((M.drop k).take m), ?_, ?_, h1, hb, hby, Elt.row_app _ _, ?_⟩
  · rw [sub_of (by rw [Elt.row_len]; exact hkm), Elt.row_drop, Elt.row_take]
  · exact allB_iff.2 fun c hc => leaf_of_leafG (Elt.row_pl _ c hc)
  · rcases hown with ⟨rfl, rfl⟩ | ⟨rfl, rfl, rfl⟩
    · refine ⟨rfl, ?_, (Elt.row_take L n).symm⟩
      rw [Elt.row_len]; exact Nat.mul_le_mul_right _ hn
    · refine ⟨by simp, by omega, by omega, ?_⟩
      simp [Elt.row]
theorem rowN {L : List α} {n : Nat} (h : n = L.length) : e.Row (e.row L) 0 n := by subst h; exact (Elt.canon0 L).1
theorem rowM {L : List α} {n : Nat} (h : n ≤ L.length) : e.Row (e.row L) 0 n := ((Elt.canon0 L).1.take h).1
theorem listM {L : List α} {n : Nat} (h : n ≤ L.length) : e.list (e.row L) 0 n = L.take n := by rw [((Elt.canon0 L).1.take h).2, (Elt.canon0 L).2]
theorem plain1 {cs : List Value} (h : ∀ x ∈ cs, leafG x = true) : plainR [cs] := by
  intro x hx
  simp at hx
  subst hx
  exact h
end
end Go.Proofs.Ytoeehjfblpmljaa.Ev
namespace Go.Proofs.Ytoeehjfblpmljaa.PrA
open Go Go.RowKit Go.Proofs.Ytoeehjfblpmljaa.Ev Go.Proofs.Ytoeehjfblpmljaa.PickE Go.Proofs.Ytoeehjfblpmljaa.BoxF Go.Proofs.Ytoeehjfblpmljaa.Within
theorem sumN {b : Bx} {L M : List Stp} {n : Nat} (h : net L ≠ -1 ∨ ∃ s ∈ L, rightS s = false) (hn : n ≤ M.length ∧ M.take n = L) : sumsI b (eStp.list (eStp.row M) 0 n) = none := by
  rw [listM hn.1, hn.2]; exact sums_none' _ (deepI_zero h)
theorem net_set {st : List Stp} {k : Nat} {x y : Stp} (h : st[k]? = some y) : net (st.set k x) = net st - net [y] + net [x] := by
  induction st generalizing k with
  | nil => simp at h
  | cons s st ih =>
    cases k with
    | zero => simp at h; subst h; simp [net]; omega
    | succ k =>
      simp at h
      have := ih h
      simp only [List.set_cons_succ, net] at this ⊢
      omega
theorem net_one (x : Stp) : net [x] = 1 ∨ net [x] = -1 := by
  simp only [net]
  split
  · right; rfl
  · left; rfl
theorem lsetE {α : Type} {e : Elt α} {l : List α} {k f o : Nat} {x y : α} {vs : List Value} (hk : l[k]? = some y) (h : lset (e.cells y) f vs = some (e.cells x)) (ho : o = k * e.s + f) : lset (e.row l) o vs = some (e.row (l.set k x)) := by
  subst ho; exact lset_row hk h
/-- The rest of a row. -/
theorem slK {i : Int} {n h m c : Nat} {L : List Stp} {ty : TypeId} {nm o : Nat} (hi : i = (h : Int)) (hh : h + 1 ≤ n) (hm : m = n - h) (hc : c = mk + h) (ho : o = 0 + h * 3) (hl : n ≤ L.length := by omega) : SlOK 3 nm 0 n mk (some i) none (some (.vec (eStp.row L) ty 3)) (.slice (some ⟨nm, o, none⟩) m c) := by
  subst hm
  subst hc
  subst ho
  refine ⟨h, n, hi, rfl, by omega, Nat.le_refl _, Or.inl ⟨Nat.le_refl _, ⟨_, ty, rfl, by decide, ?_⟩, Or.inr hh, rfl⟩⟩
  rw [Elt.row_len, Nat.sub_self, Nat.zero_add]
  exact Nat.mul_le_mul_right _ hl
/-- Behind the cutting. -/
theorem tu_fin {w a : Int} (iw : I64 w) (ia : I64 a) {st : List Stp} (h41 : st.length ≤ 41) (hne : st ≠ []) (hn1 : net st = -1) (hd : 0 < deepI st) {E : Env} (hE : EnvOK E Try.prog Try.f5 3 3 (.bool true) [] []) :
    Sat E (fromR Try.f5 3) ((tuL w a st).st 0 ()) := by
  have hlen : 0 < st.length := by cases st with | nil => exact absurd rfl hne | cons => simp
  have hpos : (0 : Int) ≤ Int.ofNat st.length - 1 := by show (0 : Int) ≤ (st.length : Int) - 1; omega
  have hsmall : Int.ofNat st.length - 1 ≤ (2305843009213693952 : Int) := by show (st.length : Int) - 1 ≤ _; omega
  have hpred : Value.int .i64 (IntKind.i64.wrap (Int.ofNat st.length - 1)) = .int .i64 (Int.ofNat st.length - 1) := i64_id rfl (by show _ ≤ (st.length : Int) - 1; omega) (by show (st.length : Int) - 1 ≤ _; omega)
  have hpred0 : Value.int .i64 (IntKind.i64.wrap (Int.ofNat (0 + st.length) - 1)) = .int .i64 (Int.ofNat (st.length - 1)) := i64_id (by show ((0 + st.length : Nat) : Int) - 1 = ((st.length - 1 : Nat) : Int); omega) (by show _ ≤ ((st.length - 1 : Nat) : Int); omega) (by show ((st.length - 1 : Nat) : Int) ≤ _; omega)
  obtain ⟨k, hk⟩ : ∃ k : Nat, withinS a 0 (Int.ofNat st.length - 1) = (k : Int) := ⟨(withinS a 0 (Int.ofNat st.length - 1)).toNat, (Int.toNat_of_nonneg (within_range a hpos).1).symm⟩
  have hkl : k < st.length := by
    have := (within_range a hpos).2
    rw [hk] at this
    have e : Int.ofNat st.length = (st.length : Int) := rfl
    omega
  have ha : Value.int .i64 (withinS a 0 (Int.ofNat st.length - 1)) = .int .i64 (k : Int) := congrArg _ hk
  have hin : (0 : Int) ≤ (k : Int) ∧ (k : Int) < Int.ofNat (0 + st.length) := ⟨Int.natCast_nonneg _, by show (k : Int) < ((0 + st.length : Nat) : Int); omega⟩
  have hdeep : Value.bool (decide (deepI (eStp.list (eStp.row st) 0 st.length) > 0)) = .bool true := by
    rw [(Elt.canon0 st).2]; exact congrArg _ (decide_eq_true hd)
  have happ0 : AppOK (some (Blk.cells [] 23)) 0 0 3 24 st.length (eStp.row st) 0 (eStp.row st) := appG (L := []) (M := st) (Or.inr ⟨rfl, rfl, rfl⟩) rfl (k := 0) rfl (by omega) (by simp) (by simp) (by omega) (by omega) (by omega)
  have hbx : (Bx.mk bxW.a0 bxW.b0 bxW.a1 bxW.b1 bxW.a2 bxW.b2 bxW.a3 bxW.b3 bxW.a4 bxW.b4).I64s := by
    refine ⟨?_, ?_, ?_, ?_, ?_, ?_, ?_, ?_, ?_, ?_⟩ <;> exact ⟨by decide, by decide⟩
  obtain ⟨y, hy⟩ : ∃ y, st[k]? = some y := ⟨st[k], List.getElem?_eq_getElem hkl⟩
  have hset : ∀ x : Stp, x ∈ st.set k x := fun x => List.mem_iff_getElem?.2 ⟨k, by rw [List.getElem?_set_self hkl]⟩
  have hwr := within_range w (show (0 : Int) ≤ 5 by decide)
  have hwc : withinS w 0 5 = 0 ∨ withinS w 0 5 = 1 ∨ withinS w 0 5 = 2 ∨ withinS w 0 5 = 3 ∨ withinS w 0 5 = 4 ∨ withinS w 0 5 = 5 := by omega
  rcases hwc with h | h | h | h | h | h
  all_goals have hw : Value.int .i64 (withinS w 0 5) = .int .i64 _ := congrArg _ h

  · have hnet : net (st ++ [⟨true, 0, 0⟩]) ≠ -1 ∨ ∃ s ∈ st ++ [⟨true, 0, 0⟩], rightS s = false := by left; rw [net_app]; simp [net]; omega
    exact tu0 w a st k hE ⟨⟨rfl, rfl⟩, hdeep, (plain1 (Elt.row_pl _)), (rowN rfl), (plain1 (Elt.row_pl _)), (rowN (by simp)), hbx, (sumN hnet ⟨by simp, List.take_of_length_le (by simp)⟩), (appG (M := [⟨true, 0, 0⟩]) (L := st) (Or.inl ⟨rfl, rfl⟩) rfl (k := 0) rfl (by simp) (by omega) (by simp) (by decide) (by omega) (by omega)), hw, iw, (by decide), (by decide), (by decide), happ0, ha, ia, (by decide), hpos, hsmall, hpred, trivial⟩
  · obtain ⟨z, hz⟩ : ∃ z, st = st.take (st.length - 1) ++ [z] := ⟨st[st.length - 1]'(by omega), by
      have := List.take_append_drop (st.length - 1) st
      rw [List.drop_eq_getElem_cons (by omega), List.drop_of_length_le (by omega)] at this
      exact this.symm⟩
    have hnet : net (st.take (st.length - 1)) ≠ -1 ∨ ∃ s ∈ st.take (st.length - 1), rightS s = false := by
      left
      have := congrArg net hz
      rw [net_app] at this
      rcases net_one z with h | h <;> omega
    exact tu1 w a st k hE ⟨⟨rfl, rfl⟩, hdeep, (plain1 (Elt.row_pl _)), (rowN rfl), (plain1 (Elt.row_pl _)), (rowM (Nat.sub_le _ _)), hbx, (sumN hnet ⟨Nat.sub_le _ _, rfl⟩), (slOK_pre rfl (by omega) (by decide) (by rw [Elt.row_len]; simp [eStp])), hpred0, hw, iw, (by decide), (by decide), (by decide), happ0, ha, ia, (by decide), hpos, hsmall, hpred, trivial⟩
  · have hnet : net (st.set k ⟨false, 5, 0⟩) ≠ -1 ∨ ∃ s ∈ st.set k ⟨false, 5, 0⟩, rightS s = false := Or.inr ⟨_, hset _, by decide⟩
    exact tu2 w a st k hE ⟨⟨rfl, rfl⟩, hdeep, (plain1 (Elt.row_pl _)), (rowN rfl), (plain1 (Elt.row_pl _)), (rowN (by simp)), hbx, (sumN hnet ⟨by simp, List.take_of_length_le (by simp)⟩), (lsetE (e := eStp) (f := 0) hy rfl (by simp [eStp])), hin, hw, iw, (by decide), (by decide), (by decide), happ0, ha, ia, (by decide), hpos, hsmall, hpred, trivial⟩
  · have hnet : net (st.set k ⟨true, 0, 1⟩) ≠ -1 ∨ ∃ s ∈ st.set k ⟨true, 0, 1⟩, rightS s = false := Or.inr ⟨_, hset _, by decide⟩
    exact tu3 w a st k hE ⟨⟨rfl, rfl⟩, hdeep, (plain1 (Elt.row_pl _)), (rowN rfl), (plain1 (Elt.row_pl _)), (rowN (by simp)), hbx, (sumN hnet ⟨by simp, List.take_of_length_le (by simp)⟩), (lsetE (e := eStp) (f := 0) hy rfl (by simp [eStp])), hin, hw, iw, (by decide), (by decide), (by decide), happ0, ha, ia, (by decide), hpos, hsmall, hpred, trivial⟩
  · obtain ⟨s, p, c⟩ := y
    have hnet : net (st.set k ⟨!s, 0, 0⟩) ≠ -1 ∨ ∃ t ∈ st.set k ⟨!s, 0, 0⟩, rightS t = false := by
      left
      rw [net_set hy, hn1]
      cases s <;> simp [net]
    have hrd : readPart Try.prog 4 (eStp.row st) (0 + ((k : Int)).toNat * 3 + 0) = some (.bool s) := by
      have h1 : sub (eStp.row st) (0 + ((k : Int)).toNat * 3 + 0) 1 = some [.bool s] := by
        have e : 0 + ((k : Int)).toNat * 3 + 0 = k * eStp.s := by simp [eStp]
        rw [e, sub_of (by rw [Elt.row_len]; have := Nat.mul_le_mul_right eStp.s (show k + 1 ≤ st.length from hkl); simp [eStp] at this ⊢; omega), Elt.row_drop, List.drop_eq_getElem_cons hkl, Elt.row_cons]
        rw [List.getElem?_eq_getElem hkl] at hy
        injection hy with hy
        rw [hy]
        rfl
      simp only [readPart, show aggT Try.prog 4 = some false from by kernel_rfl, h1]
      rfl
    have g1 : (st.set k ⟨!s, p, c⟩)[k]? = some ⟨!s, p, c⟩ := List.getElem?_set_self hkl
    have g2 : (st.set k ⟨!s, 0, c⟩)[k]? = some ⟨!s, 0, c⟩ := List.getElem?_set_self hkl
    have l1 := lsetE (e := eStp) (y := ⟨s, p, c⟩) (x := ⟨!s, p, c⟩) (f := 0) (vs := [.bool !s]) hy rfl (o := 0 + ((k : Int)).toNat * 3 + 0) (by simp [eStp])
    have l2 := lsetE (e := eStp) (y := ⟨!s, p, c⟩) (x := ⟨!s, 0, c⟩) (f := 1) (vs := [.int .i64 0]) g1 rfl (o := 0 + ((k : Int)).toNat * 3 + 1) (by simp [eStp])
    have l3 := lsetE (e := eStp) (y := ⟨!s, 0, c⟩) (x := ⟨!s, 0, 0⟩) (f := 2) (vs := [.int .i64 0]) g2 rfl (o := 0 + ((k : Int)).toNat * 3 + 2) (by simp [eStp])
    rw [List.set_set] at l2 l3
    exact tu4 w a st k s p c hE ⟨⟨rfl, rfl⟩, hdeep, (plain1 (Elt.row_pl _)), (rowN rfl), (plain1 (Elt.row_pl _)), (rowN (by simp)), hbx, (sumN hnet ⟨by simp, List.take_of_length_le (by simp)⟩), l3, hin, l2, hin, l1, hin, hrd, hin, hw, iw, (by decide), (by decide), (by decide), happ0, ha, ia, (by decide), hpos, hsmall, hpred, trivial⟩
  · by_cases hk0 : k = 0
    · subst hk0
      have hnet : net ([⟨false, 2, 0⟩] ++ st) ≠ -1 ∨ ∃ s ∈ [⟨false, 2, 0⟩] ++ st, rightS s = false := by left; rw [net_app]; simp [net]; omega
      exact tu6 w a st 0 (eStp.row [⟨false, 2, 0⟩]) (eStp.row ([⟨false, 2, 0⟩] ++ st)) hE ⟨⟨rfl, rfl⟩, hdeep, (plain1 (Elt.row_pl _)), (rowN rfl), (plain1 (Elt.row_pl _)), (rowN (by simp; omega)), hbx, (sumN hnet ⟨by simp; omega, List.take_of_length_le (by simp; omega)⟩), (appG (L := [⟨false, 2, 0⟩]) (M := st) (Or.inl ⟨rfl, rfl⟩) rfl (k := 0) rfl (by omega) (by simp) (by simp) (by omega) (by omega) (by omega)), (slK (h := 0) rfl (by omega) (by simp) rfl (by simp)), (appG (e := eStp) (M := [⟨false, 2, 0⟩]) (L := []) (Or.inr ⟨rfl, rfl, rfl⟩) rfl (k := 0) rfl (by simp) (by simp) (by simp) (by decide) (by decide) (by decide)), ⟨rfl, Nat.le_refl _, by decide⟩, (slOK_pre rfl (by omega) (by decide) (by rw [Elt.row_len]; simp [eStp])), hw, iw, (by decide), (by decide), (by decide), happ0, ha, ia, (by decide), hpos, hsmall, hpred, trivial⟩
    · have hnet : net (st.take k ++ [⟨false, 2, 0⟩] ++ st.drop k) ≠ -1 ∨ ∃ s ∈ st.take k ++ [⟨false, 2, 0⟩] ++ st.drop k, rightS s = false := by
        left
        have := congrArg net (List.take_append_drop k st)
        rw [net_app] at this
        rw [net_app, net_app]
        simp [net]
        omega
      have hlt : (st.take k).length = k := by rw [List.length_take]; omega
      have e1 : (st.take k ++ [Stp.mk false 2 0]).take (0 + k + 1) = st.take k ++ [Stp.mk false 2 0] := List.take_of_length_le (by rw [List.length_append, hlt]; show k + 1 ≤ 0 + k + 1; omega)
      have e2 : (st.drop k).take (st.length - k) = st.drop k := List.take_of_length_le (by simp)
      have e3 : (st.take k).take (0 + k) = st.take k := List.take_of_length_le (by omega)
      exact tu5 w a st k (st.length - k) (mk + k) (k * eStp.s) (eStp.row (st.take k)) (eStp.row (st.take k ++ [⟨false, 2, 0⟩])) (eStp.row (st.take k ++ [⟨false, 2, 0⟩] ++ st.drop k)) hE ⟨⟨rfl, rfl⟩, hdeep, (plain1 (Elt.row_pl _)), (rowN rfl), (plain1 (Elt.row_pl _)), (rowN (by simp [hlt]; omega)), hbx, (sumN hnet ⟨by simp [hlt]; omega, List.take_of_length_le (by simp [hlt]; omega)⟩), (appG (L := st.take k ++ [⟨false, 2, 0⟩]) (M := st) (Or.inl ⟨rfl, rfl⟩) rfl (k := k) rfl (by omega) (by simp; omega) (congrArg eStp.row (by rw [e1, e2])) (by omega) (by omega) (by omega)), (slK (h := k) rfl (by omega) (by omega) rfl (by simp [eStp])), (appG (M := [⟨false, 2, 0⟩]) (L := st.take k) (Or.inl ⟨rfl, rfl⟩) rfl (k := 0) rfl (by simp) (by omega) (congrArg eStp.row (by rw [e3]; rfl)) (by decide) (by omega) (by omega)), (appG (M := st) (L := []) (Or.inr ⟨rfl, rfl, rfl⟩) rfl (k := 0) rfl (by omega) (by simp) (by simp) (by omega) (by omega) (by omega)), (slOK_pre rfl (by omega) (by decide) (by rw [Elt.row_len]; simp [eStp])), hw, iw, (by decide), (by decide), (by decide), happ0, ha, ia, (by decide), hpos, hsmall, hpred, trivial⟩
end Go.Proofs.Ytoeehjfblpmljaa.PrA


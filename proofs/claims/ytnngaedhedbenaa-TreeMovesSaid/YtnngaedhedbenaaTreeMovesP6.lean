/-
  The row of the law copselaw7.TreeMoves: for every input the call returns true, and each argument reads afterwards as it read before. No condition beside the form's own.
-/
import Derived.Test.YtnngaedhedbenaaRows
import Derived.WalkKit
import Derived.ProofKit
import Derived.KernelRfl
import Derived.Lib.SmallJoins
import Derived.OpenShut
import Derived.ShutString
import Derived.ChangeOld
import Derived.Below
import Derived.SizedLaws
import Derived.Test.YtnngaedhedbenaaTreeMovesP5
set_option linter.unusedVariables false
set_option linter.unusedSimpArgs false
set_option maxRecDepth 100000
namespace Go.Proofs.Ytnngaedhedbenaa.WkTreeMoves
open Go Go.RowKit Go.Proofs.Ytnngaedhedbenaa.Ev Go.Proofs.Ytnngaedhedbenaa.NodeE Go.Proofs.Ytnngaedhedbenaa.Within Go.Proofs.Ytnngaedhedbenaa.PickE Go.Proofs.Ytnngaedhedbenaa.Tn Go.Proofs.Ytnngaedhedbenaa.Tr Go.Proofs.Ytnngaedhedbenaa.BitLib

def askedB (ws : List Int) (z : Int) : Bool := ws.any fun w => !lfB w && uF w == z
def sameB (p q : Pt) (ws : List Int) : Bool := ws.all fun w => lfB w || (decide (p.at (uF w) ≤ low32 w) == decide (q.at (uF w) ≤ low32 w))
def mix (p q : Pt) (m : Int → Bool) (b : Nat) : Pt := ⟨bif decide (0 < b) && m 0 then p.p0 else q.p0, bif decide (1 < b) && m 1 then p.p1 else q.p1, bif decide (2 < b) && m 2 then p.p2 else q.p2, bif decide (3 < b) && m 3 then p.p3 else q.p3⟩
theorem mix_at {p q : Pt} {m : Int → Bool} {f : Int} (hf : 0 ≤ f ∧ f < 4) (h : m f = true) : (mix p q m 4).at f = p.at f := by
  have hc : f = 0 ∨ f = 1 ∨ f = 2 ∨ f = 3 := by omega
  rcases hc with rfl | rfl | rfl | rfl <;> simp [mix, Pt.at, h]
theorem asked_mem {ws : List Int} {w : Int} (h : w ∈ ws) (hl : lfB w = false) : askedB ws (uF w) = true := by
  unfold askedB
  rw [List.any_eq_true]
  exact ⟨w, h, by simp [hl]⟩
theorem same_mem {p q : Pt} {ws : List Int} (h : sameB p q ws = true) : ∀ w ∈ ws, lfB w = false → decide (p.at (uF w) ≤ low32 w) = decide (q.at (uF w) ≤ low32 w) := fun w hw hl => by
  unfold sameB at h
  have := List.all_eq_true.1 h w hw
  rw [hl] at this
  simpa using this
theorem plainL (ls : List (List Int)) : plainR (ls.map eInt.row) := by
  intro x hx
  obtain ⟨l, _, rfl⟩ := List.mem_map.1 hx
  exact Elt.row_pl l
def TMQ (n : Nat) (ws : List Int) (p q : Pt) : TM → Prop := fun s => s.i ≤ n ∧ keysI s.es ∧ (∀ z, mgetB (kI z) s.es = askedB (ws.take s.i) z) ∧ s.sm = sameB p q (ws.take s.i)
theorem TMQ0 (n : Nat) (ws : List Int) (p q : Pt) : TMQ n ws p q ⟨0, true, [], 0⟩ := ⟨Nat.zero_le _, keysI_nil, fun z => rfl, rfl⟩
theorem law {E : Env} (NI : List Int → List Int → List Int → List Int → Int → List Nd) {n : Nat} {ws : List Int} {p q : Pt} {d : Int} (hNI : NI = nodesI) (hE : EnvOK E Try.prog Try.f12 4 4 (.bool true) [] []) (hn : ws.length = n) (hR : rightI ws d = true) (hU : ∀ w ∈ ws, U64 w) (h15 : n ≤ 15) (zz : TM) (hz : TMQ n ws p q zz) : Sat E (atLp (lp Try.f12 0)) ((tmL n ws p q (TMQ n ws p q)).st 0 zz) := by
  generalize hQ : TMQ n ws p q = Q at hz ⊢
  have okL := tmL_ok n ws p q Q
  have rnw : ∀ (f : Nat → Nat), Blk.rnB f (.vec (eWord.row ws) 26 1) = .vec (eWord.row ws) 26 1 := fun f => Blk.plain.rnB (b := .vec (eWord.row ws) 26 1) (Elt.row_pl _) f
  have rnp : ∀ (f : Nat → Nat) (p : Pt), Blk.rnB f (.cells p.cs 41) = .cells [.int .i64 p.p0, .int .i64 p.p1, .int .i64 p.p2, .int .i64 p.p3] 41 := fun f p => rfl
  have rnm : ∀ (f : Nat → Nat) (es : List Ent) (c : Nat), Blk.rnB f (.map [some .i64] false none es c) = .map [some .i64] false none es c := fun f es c => rfl
  refine by_loop (tmL n ws p q Q) (lp Try.f12 0) ?_ 0 zz hz
  rintro b ⟨i, sm, es, c⟩ hinv J hJ
  have hinv : Q ⟨i, sm, es, c⟩ := hinv
  rw [← hQ] at hinv
  obtain ⟨k1, k2, k3, k4⟩ := hinv
  have k1 : i ≤ n := k1
  have k2 : keysI es := k2
  have k3 : ∀ z, mgetB (kI z) es = askedB (ws.take i) z := k3
  have k4 : sm = sameB p q (ws.take i) := k4
  show Sat E (inLp (lp Try.f12 0) J) ((tmL n ws p q Q).st 0 ⟨i, sm, es, c⟩)
  have hJ' : ∀ zz, (tmL n ws p q Q).inv 0 zz → ltO ((tmL n ws p q Q).mu 0 zz) (some (n - i)) → Sat E (mkLp (lp Try.f12 0) J) ((tmL n ws p q Q).st 0 zz) := fun zz h1 h2 => hJ 0 zz h1 h2
  by_cases hin : i < n
  · have hlt : decide ((i : Int) < (n : Int)) = true := decide_eq_true (by omega)
    obtain ⟨w, hw⟩ : ∃ w, ws[i]? = some w := ⟨_, List.getElem?_eq_getElem (by rw [hn]; omega)⟩
    have hrd : readPart Try.prog 26 (eWord.row ws) (0 + ((i : Nat) : Int).toNat * 1) = some (.int .u64 w) := by
      rw [Int.toNat_natCast, Nat.mul_one]
      exact (Elt.canon0 (e := eWord) ws).1.read1 (P := Try.prog) (ty := 26) (by kernel_rfl) rfl (i := i) (x := w) (by rw [(Elt.canon0 ws).2]; exact hw) rfl rfl
    have htk : ws.take (i + 1) = ws.take i ++ [w] := by rw [List.take_add_one, hw]; rfl
    have ho := right_ok hR w (List.mem_of_getElem? hw)
    cases hl : lfB w
    · have hf := (inner_bounds ho hl).1
      have hk3 : ∀ z, mgetB (kI z) (mput (kI (uF w)) (.bool true) c es) = askedB (ws.take (i + 1)) z := fun z => by
        rw [mgetB_put k2, htk, k3]
        simp only [askedB, List.any_append, List.any_cons, List.any_nil, hl, Bool.not_false, Bool.true_and, Bool.or_false]
        by_cases e : z = uF w
        · subst e; simp
        · have e1 : (z == uF w) = false := by simpa using e
          have e2 : (uF w == z) = false := by simpa using fun h => e h.symm
          rw [e1, e2]; simp
      have hk4 : sameB p q (ws.take (i + 1)) = (sm && (decide (p.at (uF w) ≤ low32 w) == decide (q.at (uF w) ≤ low32 w))) := by
        rw [htk, k4]
        simp only [sameB, List.all_append, List.all_cons, List.all_nil, hl, Bool.false_or, Bool.and_true]
      cases sm
      · exact tmGf NI n ws p q Q i c (bif mhas (kI (uF w)) es then c else c + 1) false es _ w (uF w) (low32 w) (uX w) (uY w) 0 0 J hE okL
          ⟨rfl, ⟨⟨i + 1, false, _, (bif mhas (kI (uF w)) es then c else c + 1)⟩, (by show Q _; rw [← hQ]; exact ⟨hin, keysI_put k2 _ _ _, hk3, by rw [hk4]; rfl⟩), (by show n - (i + 1) < n - i; omega), rfl, by simp only [tmL, List.map_cons, List.map_nil, rnw, rnp, rnm]⟩, i64_succ (by omega), rfl, unp_inner ho hl, hU w (List.mem_of_getElem? hw), hrd, ⟨Int.natCast_nonneg _, Int.ofNat_lt.2 hin⟩, hlt, trivial⟩ hJ'
      · exact tmGt NI n ws p q Q i c (bif mhas (kI (uF w)) es then c else c + 1) (decide (p.at (uF w) ≤ low32 w) == decide (q.at (uF w) ≤ low32 w)) es _ w (uF w) (low32 w) (uX w) (uY w) (p.at (uF w)) (q.at (uF w)) J hE okL
          ⟨rfl, ⟨⟨i + 1, (decide (p.at (uF w) ≤ low32 w) == decide (q.at (uF w) ≤ low32 w)), _, (bif mhas (kI (uF w)) es then c else c + 1)⟩, (by show Q _; rw [← hQ]; exact ⟨hin, keysI_put k2 _ _ _, hk3, by rw [hk4]; rfl⟩), (by show n - (i + 1) < n - i; omega), rfl, by simp only [tmL, List.map_cons, List.map_nil, rnw, rnp, rnm]⟩, i64_succ (by omega), rfl, rfl, pt_read hf, hf, pt_read hf, hf, unp_inner ho hl, hU w (List.mem_of_getElem? hw), hrd, ⟨Int.natCast_nonneg _, Int.ofNat_lt.2 hin⟩, hlt, trivial⟩ hJ'
    · exact tmF NI n ws p q Q i c sm es w (low32 w) J hE okL
        ⟨rfl, ⟨⟨i + 1, sm, es, c⟩, (by
            show Q _; rw [← hQ]
            refine ⟨hin, k2, fun z => ?_, ?_⟩
            · rw [k3 z, htk]; simp [askedB, List.any_append, hl]
            · rw [k4, htk]; simp [sameB, List.all_append, hl]), (by show n - (i + 1) < n - i; omega), rfl, by simp only [tmL, List.map_cons, List.map_nil, rnw, rnp, rnm]⟩, i64_succ (by omega), unp_leaf ho hl, hU w (List.mem_of_getElem? hw), hrd, ⟨Int.natCast_nonneg _, Int.ofNat_lt.2 hin⟩, hlt, trivial⟩ hJ'
  · have hlt : decide ((i : Int) < (n : Int)) = false := decide_eq_false (by omega)
    have htk : ws.take i = ws := List.take_of_length_le (by omega)
    rw [htk] at k3 k4
    let Q2 : Nat → Pt → Prop := fun b r => b ≤ 4 ∧ r = mix p q (askedB ws) b
    refine tmZ NI n ws p q Q Q2 i c sm es J hE (tm2L_ok n ws p q sm es c Q2) ⟨rfl, ⟨q, ⟨by omega, rfl⟩, trivial, rfl, by simp only [tm2L, List.map_cons, List.map_nil, rnw, rnp, rnm]⟩, hlt, trivial⟩ fun zz hz _ => by_loop (tm2L n ws p q sm es c Q2) (lp Try.f12 1) ?_ 0 zz hz
    rintro b r hinv J hJ
    have hinv : b ≤ 4 ∧ r = mix p q (askedB ws) b := hinv
    obtain ⟨m1, m2⟩ := hinv
    have hJ' : ∀ b' zz, (tm2L n ws p q sm es c Q2).inv b' zz → ltO ((tm2L n ws p q sm es c Q2).mu b' zz) (some (4 - b)) → Sat E (mkLp (lp Try.f12 1) J) ((tm2L n ws p q sm es c Q2).st b' zz) := fun b' zz h1 h2 => hJ b' zz h1 h2
    have h5 : b = 0 ∨ b = 1 ∨ b = 2 ∨ b = 3 ∨ b = 4 := by omega
    rcases h5 with rfl | rfl | rfl | rfl | rfl
    · cases ha : askedB ws 0
      · exact tr0f NI n ws p q r Q2 c sm es J hE (tm2L_ok n ws p q sm es c Q2) ⟨rfl, ⟨r, ⟨by omega, by rw [m2]; simp [mix, ha]⟩, (by show 4 - 1 < 4 - 0; omega), rfl, by simp only [tm2L, List.map_cons, List.map_nil, rnw, rnp, rnm]⟩, (k3 0).trans ha, trivial⟩ (hJ' 1)
      · exact tr0t NI n ws p q r Q2 c sm es J hE (tm2L_ok n ws p q sm es c Q2) ⟨rfl, ⟨⟨p.p0, r.p1, r.p2, r.p3⟩, ⟨by omega, by rw [m2]; simp [mix, ha]⟩, (by show 4 - 1 < 4 - 0; omega), rfl, by simp only [tm2L, List.map_cons, List.map_nil, rnw, rnp, rnm]⟩, (k3 0).trans ha, trivial⟩ (hJ' 1)
    · cases ha : askedB ws 1
      · exact tr1f NI n ws p q r Q2 c sm es J hE (tm2L_ok n ws p q sm es c Q2) ⟨rfl, ⟨r, ⟨by omega, by rw [m2]; simp [mix, ha]⟩, (by show 4 - 2 < 4 - 1; omega), rfl, by simp only [tm2L, List.map_cons, List.map_nil, rnw, rnp, rnm]⟩, (k3 1).trans ha, trivial⟩ (hJ' 2)
      · exact tr1t NI n ws p q r Q2 c sm es J hE (tm2L_ok n ws p q sm es c Q2) ⟨rfl, ⟨⟨r.p0, p.p1, r.p2, r.p3⟩, ⟨by omega, by rw [m2]; simp [mix, ha]⟩, (by show 4 - 2 < 4 - 1; omega), rfl, by simp only [tm2L, List.map_cons, List.map_nil, rnw, rnp, rnm]⟩, (k3 1).trans ha, trivial⟩ (hJ' 2)
    · cases ha : askedB ws 2
      · exact tr2f NI n ws p q r Q2 c sm es J hE (tm2L_ok n ws p q sm es c Q2) ⟨rfl, ⟨r, ⟨by omega, by rw [m2]; simp [mix, ha]⟩, (by show 4 - 3 < 4 - 2; omega), rfl, by simp only [tm2L, List.map_cons, List.map_nil, rnw, rnp, rnm]⟩, (k3 2).trans ha, trivial⟩ (hJ' 3)
      · exact tr2t NI n ws p q r Q2 c sm es J hE (tm2L_ok n ws p q sm es c Q2) ⟨rfl, ⟨⟨r.p0, r.p1, p.p2, r.p3⟩, ⟨by omega, by rw [m2]; simp [mix, ha]⟩, (by show 4 - 3 < 4 - 2; omega), rfl, by simp only [tm2L, List.map_cons, List.map_nil, rnw, rnp, rnm]⟩, (k3 2).trans ha, trivial⟩ (hJ' 3)
    · cases ha : askedB ws 3
      · exact tr3f NI n ws p q r Q2 c sm es J hE (tm2L_ok n ws p q sm es c Q2) ⟨rfl, ⟨r, ⟨by omega, by rw [m2]; simp [mix, ha]⟩, (by show 4 - 4 < 4 - 3; omega), rfl, by simp only [tm2L, List.map_cons, List.map_nil, rnw, rnp, rnm]⟩, (k3 3).trans ha, trivial⟩ (hJ' 4)
      · exact tr3t NI n ws p q r Q2 c sm es J hE (tm2L_ok n ws p q sm es c Q2) ⟨rfl, ⟨⟨r.p0, r.p1, r.p2, p.p3⟩, ⟨by omega, by rw [m2]; simp [mix, ha]⟩, (by show 4 - 4 < 4 - 3; omega), rfl, by simp only [tm2L, List.map_cons, List.map_nil, rnw, rnp, rnm]⟩, (k3 3).trans ha, trivial⟩ (hJ' 4)
    · have hrow : eWord.Row (eWord.row ws) 0 n := rowN hn.symm
      have hli : eWord.list (eWord.row ws) 0 n = ws := by rw [listM (by omega), List.take_of_length_le (by omega)]
      have hUl : ∀ w ∈ eWord.list (eWord.row ws) 0 n, U64 w := by rw [hli]; exact hU
      have hrp : walkI ws r = walkI ws p := walk_same fun w hw hl => by
        rw [m2, mix_at (inner_bounds (right_ok hR w hw) hl).1 (asked_mem hw hl)]
      have wp : Value.int .i64 (walkI (eWord.list (eWord.row ws) 0 n) p) = .int .i64 (walkI ws p) := by rw [hli]
      have wq : Value.int .i64 (walkI (eWord.list (eWord.row ws) 0 n) q) = .int .i64 (walkI ws q) := by rw [hli]
      have wr : Value.int .i64 (walkI (eWord.list (eWord.row ws) 0 n) r) = .int .i64 (walkI ws r) := by rw [hli]
      have e0 : Value.bool (decide (walkI ws p ≥ 0)) = .bool true := congrArg _ (decide_eq_true (walk_nn hR p))
      have e1 : Value.bool (walkI ws r == walkI ws p) = .bool true := congrArg _ (beq_iff_eq.2 hrp)
      cases sm
      · exact tmEf NI n ws p q r Q2 c es (walkI ws p) 0 (walkI ws r) J hE ⟨⟨rfl, rfl⟩, e0, wp, (plain1 (Elt.row_pl _)), hrow, hUl, (by omega), e1, wp, (plain1 (Elt.row_pl _)), hrow, hUl, (by omega), wr, (plain1 (Elt.row_pl _)), hrow, hUl, (by omega), trivial⟩
      · have hpq : walkI ws p = walkI ws q := walk_same (same_mem k4.symm)
        have e2 : Value.bool (walkI ws p == walkI ws q) = .bool true := congrArg _ (beq_iff_eq.2 hpq)
        exact tmEt NI n ws p q r Q2 c es (walkI ws p) (walkI ws q) (walkI ws r) J hE ⟨⟨rfl, rfl⟩, e0, wp, (plain1 (Elt.row_pl _)), hrow, hUl, (by omega), e1, wp, (plain1 (Elt.row_pl _)), hrow, hUl, (by omega), wr, (plain1 (Elt.row_pl _)), hrow, hUl, (by omega), e2, wq, (plain1 (Elt.row_pl _)), hrow, hUl, (by omega), wp, (plain1 (Elt.row_pl _)), hrow, hUl, (by omega), trivial⟩
theorem spec {cl dm : Int} {p q : Pt} {u0 u1 u2 u3 : Value} {r0 r1 r2 r3 : Option (List Value)} (hd : I64 dm) (c0 : CanAt eInt I64 0 u0 r0) (c1 : CanAt eInt I64 1 u1 r1) (c2 : CanAt eInt I64 2 u2 r2) (c3 : CanAt eInt I64 3 u3 r3) :
    CallSpec Try.prog 12 [.agg ⟨[.int .i64 cl, u0, u1, u2, u3]⟩, .int .i64 dm, .agg ⟨p.cs⟩, .agg ⟨q.cs⟩] (rowsL [r0, r1, r2, r3]) 4 (.bool true) (assocN [] []) := by
  refine spec_of_sat Try.func12 rfl fun E hE => ?_
  have hw := within_range dm (show (1 : Int) ≤ 4 by decide)
  generalize hdd : withinS dm 1 4 = d at hw
  have hd4 : (1 : Int) ≤ d ∧ d ≤ 1000 := ⟨hw.1, by omega⟩
  obtain ⟨NI, hNI⟩ : ∃ NI : List Int → List Int → List Int → List Int → Int → List Nd, NI = nodesI := ⟨_, rfl⟩
  have fin : ∀ (pl bl al vl : List Int) (zz : TM), TMQ (NI pl bl al vl d).length ((NI pl bl al vl d).map packN) p q zz →
      Sat E (atLp (lp Try.f12 0)) ((tmL (NI pl bl al vl d).length ((NI pl bl al vl d).map packN) p q (TMQ (NI pl bl al vl d).length ((NI pl bl al vl d).map packN) p q)).st 0 zz) := fun pl bl al vl zz hz => by
    obtain ⟨x1, x2, x3⟩ := nodes_right pl bl al vl (dim := d) hw
    simp only [wordsI, ← hNI] at x1 x2 x3
    exact law NI hNI hE (by simp) x1 x2 (by simpa using x3) zz hz
  have rnw : ∀ (ws : List Int) (f : Nat → Nat), Blk.rnB f (.vec (eWord.row ws) 26 1) = .vec (eWord.row ws) 26 1 := fun ws f => Blk.plain.rnB (b := .vec (eWord.row ws) 26 1) (Elt.row_pl _) f
  have rnp : ∀ (f : Nat → Nat) (p : Pt), Blk.rnB f (.cells p.cs 41) = .cells [.int .i64 p.p0, .int .i64 p.p1, .int .i64 p.p2, .int .i64 p.p3] 41 := fun f p => rfl
  have rnm : ∀ (f : Nat → Nat) (es : List Ent) (c : Nat), Blk.rnB f (.map [some .i64] false none es c) = .map [some .i64] false none es c := fun f es c => rfl
  rcases c0 with ⟨rfl, rfl⟩ | ⟨l0, k0, rfl, rfl, ha0, hb0, hg0⟩
  · rcases c1 with ⟨rfl, rfl⟩ | ⟨l1, k1, rfl, rfl, ha1, hb1, hg1⟩
    · rcases c2 with ⟨rfl, rfl⟩ | ⟨l2, k2, rfl, rfl, ha2, hb2, hg2⟩
      · rcases c3 with ⟨rfl, rfl⟩ | ⟨l3, k3, rfl, rfl, ha3, hb3, hg3⟩
        · exact tmiNNNN NI cl dm d (NI [] [] [] [] d).length ((NI [] [] [] [] d).map packN) p q (TMQ (NI [] [] [] [] d).length ((NI [] [] [] [] d).map packN) p q)  hE (tmL_ok _ _ _ _ _) ⟨rfl, ⟨⟨0, true, [], 0⟩, TMQ0 _ _ _ _, trivial, rfl, by simp only [tmL, List.map_cons, List.map_nil, rnw, rnp, rnm]⟩, (plainL []), hNI, hd4, (congrArg _ hdd), hd, (by decide), (by decide), (by decide), trivial⟩ fun zz hz _ => fin _ _ _ _ zz hz
        · exact tmiNNNS NI cl dm d (NI [] [] [] (intsOf (eInt.row l3) 0 l3.length) d).length ((NI [] [] [] (intsOf (eInt.row l3) 0 l3.length) d).map packN) p q (TMQ (NI [] [] [] (intsOf (eInt.row l3) 0 l3.length) d).length ((NI [] [] [] (intsOf (eInt.row l3) 0 l3.length) d).map packN) p q) (eInt.row l3) l3.length k3 hE (tmL_ok _ _ _ _ _) ⟨rfl, ⟨⟨0, true, [], 0⟩, TMQ0 _ _ _ _, trivial, rfl, by simp only [tmL, List.map_cons, List.map_nil, rnw, rnp, rnm]⟩, (plainL [l3]), hNI, hd4, (int_row hg3).1, (int_row hg3).2, (congrArg _ hdd), hd, (by decide), (by decide), (by decide), trivial⟩ fun zz hz _ => fin _ _ _ _ zz hz
      · rcases c3 with ⟨rfl, rfl⟩ | ⟨l3, k3, rfl, rfl, ha3, hb3, hg3⟩
        · exact tmiNNSN NI cl dm d (NI [] [] (intsOf (eInt.row l2) 0 l2.length) [] d).length ((NI [] [] (intsOf (eInt.row l2) 0 l2.length) [] d).map packN) p q (TMQ (NI [] [] (intsOf (eInt.row l2) 0 l2.length) [] d).length ((NI [] [] (intsOf (eInt.row l2) 0 l2.length) [] d).map packN) p q) (eInt.row l2) l2.length k2 hE (tmL_ok _ _ _ _ _) ⟨rfl, ⟨⟨0, true, [], 0⟩, TMQ0 _ _ _ _, trivial, rfl, by simp only [tmL, List.map_cons, List.map_nil, rnw, rnp, rnm]⟩, (plainL [l2]), hNI, hd4, (int_row hg2).1, (int_row hg2).2, (congrArg _ hdd), hd, (by decide), (by decide), (by decide), trivial⟩ fun zz hz _ => fin _ _ _ _ zz hz
        · exact tmiNNSS NI cl dm d (NI [] [] (intsOf (eInt.row l2) 0 l2.length) (intsOf (eInt.row l3) 0 l3.length) d).length ((NI [] [] (intsOf (eInt.row l2) 0 l2.length) (intsOf (eInt.row l3) 0 l3.length) d).map packN) p q (TMQ (NI [] [] (intsOf (eInt.row l2) 0 l2.length) (intsOf (eInt.row l3) 0 l3.length) d).length ((NI [] [] (intsOf (eInt.row l2) 0 l2.length) (intsOf (eInt.row l3) 0 l3.length) d).map packN) p q) (eInt.row l2) l2.length k2 (eInt.row l3) l3.length k3 hE (tmL_ok _ _ _ _ _) ⟨rfl, ⟨⟨0, true, [], 0⟩, TMQ0 _ _ _ _, trivial, rfl, by simp only [tmL, List.map_cons, List.map_nil, rnw, rnp, rnm]⟩, (plainL [l2, l3]), hNI, hd4, (int_row hg2).1, (int_row hg2).2, (int_row hg3).1, (int_row hg3).2, (congrArg _ hdd), hd, (by decide), (by decide), (by decide), trivial⟩ fun zz hz _ => fin _ _ _ _ zz hz
    · rcases c2 with ⟨rfl, rfl⟩ | ⟨l2, k2, rfl, rfl, ha2, hb2, hg2⟩
      · rcases c3 with ⟨rfl, rfl⟩ | ⟨l3, k3, rfl, rfl, ha3, hb3, hg3⟩
        · exact tmiNSNN NI cl dm d (NI [] (intsOf (eInt.row l1) 0 l1.length) [] [] d).length ((NI [] (intsOf (eInt.row l1) 0 l1.length) [] [] d).map packN) p q (TMQ (NI [] (intsOf (eInt.row l1) 0 l1.length) [] [] d).length ((NI [] (intsOf (eInt.row l1) 0 l1.length) [] [] d).map packN) p q) (eInt.row l1) l1.length k1 hE (tmL_ok _ _ _ _ _) ⟨rfl, ⟨⟨0, true, [], 0⟩, TMQ0 _ _ _ _, trivial, rfl, by simp only [tmL, List.map_cons, List.map_nil, rnw, rnp, rnm]⟩, (plainL [l1]), hNI, hd4, (int_row hg1).1, (int_row hg1).2, (congrArg _ hdd), hd, (by decide), (by decide), (by decide), trivial⟩ fun zz hz _ => fin _ _ _ _ zz hz
        · exact tmiNSNS NI cl dm d (NI [] (intsOf (eInt.row l1) 0 l1.length) [] (intsOf (eInt.row l3) 0 l3.length) d).length ((NI [] (intsOf (eInt.row l1) 0 l1.length) [] (intsOf (eInt.row l3) 0 l3.length) d).map packN) p q (TMQ (NI [] (intsOf (eInt.row l1) 0 l1.length) [] (intsOf (eInt.row l3) 0 l3.length) d).length ((NI [] (intsOf (eInt.row l1) 0 l1.length) [] (intsOf (eInt.row l3) 0 l3.length) d).map packN) p q) (eInt.row l1) l1.length k1 (eInt.row l3) l3.length k3 hE (tmL_ok _ _ _ _ _) ⟨rfl, ⟨⟨0, true, [], 0⟩, TMQ0 _ _ _ _, trivial, rfl, by simp only [tmL, List.map_cons, List.map_nil, rnw, rnp, rnm]⟩, (plainL [l1, l3]), hNI, hd4, (int_row hg1).1, (int_row hg1).2, (int_row hg3).1, (int_row hg3).2, (congrArg _ hdd), hd, (by decide), (by decide), (by decide), trivial⟩ fun zz hz _ => fin _ _ _ _ zz hz
      · rcases c3 with ⟨rfl, rfl⟩ | ⟨l3, k3, rfl, rfl, ha3, hb3, hg3⟩
        · exact tmiNSSN NI cl dm d (NI [] (intsOf (eInt.row l1) 0 l1.length) (intsOf (eInt.row l2) 0 l2.length) [] d).length ((NI [] (intsOf (eInt.row l1) 0 l1.length) (intsOf (eInt.row l2) 0 l2.length) [] d).map packN) p q (TMQ (NI [] (intsOf (eInt.row l1) 0 l1.length) (intsOf (eInt.row l2) 0 l2.length) [] d).length ((NI [] (intsOf (eInt.row l1) 0 l1.length) (intsOf (eInt.row l2) 0 l2.length) [] d).map packN) p q) (eInt.row l1) l1.length k1 (eInt.row l2) l2.length k2 hE (tmL_ok _ _ _ _ _) ⟨rfl, ⟨⟨0, true, [], 0⟩, TMQ0 _ _ _ _, trivial, rfl, by simp only [tmL, List.map_cons, List.map_nil, rnw, rnp, rnm]⟩, (plainL [l1, l2]), hNI, hd4, (int_row hg1).1, (int_row hg1).2, (int_row hg2).1, (int_row hg2).2, (congrArg _ hdd), hd, (by decide), (by decide), (by decide), trivial⟩ fun zz hz _ => fin _ _ _ _ zz hz
        · exact tmiNSSS NI cl dm d (NI [] (intsOf (eInt.row l1) 0 l1.length) (intsOf (eInt.row l2) 0 l2.length) (intsOf (eInt.row l3) 0 l3.length) d).length ((NI [] (intsOf (eInt.row l1) 0 l1.length) (intsOf (eInt.row l2) 0 l2.length) (intsOf (eInt.row l3) 0 l3.length) d).map packN) p q (TMQ (NI [] (intsOf (eInt.row l1) 0 l1.length) (intsOf (eInt.row l2) 0 l2.length) (intsOf (eInt.row l3) 0 l3.length) d).length ((NI [] (intsOf (eInt.row l1) 0 l1.length) (intsOf (eInt.row l2) 0 l2.length) (intsOf (eInt.row l3) 0 l3.length) d).map packN) p q) (eInt.row l1) l1.length k1 (eInt.row l2) l2.length k2 (eInt.row l3) l3.length k3 hE (tmL_ok _ _ _ _ _) ⟨rfl, ⟨⟨0, true, [], 0⟩, TMQ0 _ _ _ _, trivial, rfl, by simp only [tmL, List.map_cons, List.map_nil, rnw, rnp, rnm]⟩, (plainL [l1, l2, l3]), hNI, hd4, (int_row hg1).1, (int_row hg1).2, (int_row hg2).1, (int_row hg2).2, (int_row hg3).1, (int_row hg3).2, (congrArg _ hdd), hd, (by decide), (by decide), (by decide), trivial⟩ fun zz hz _ => fin _ _ _ _ zz hz
  · rcases c1 with ⟨rfl, rfl⟩ | ⟨l1, k1, rfl, rfl, ha1, hb1, hg1⟩
    · rcases c2 with ⟨rfl, rfl⟩ | ⟨l2, k2, rfl, rfl, ha2, hb2, hg2⟩
      · rcases c3 with ⟨rfl, rfl⟩ | ⟨l3, k3, rfl, rfl, ha3, hb3, hg3⟩
        · exact tmiSNNN NI cl dm d (NI (intsOf (eInt.row l0) 0 l0.length) [] [] [] d).length ((NI (intsOf (eInt.row l0) 0 l0.length) [] [] [] d).map packN) p q (TMQ (NI (intsOf (eInt.row l0) 0 l0.length) [] [] [] d).length ((NI (intsOf (eInt.row l0) 0 l0.length) [] [] [] d).map packN) p q) (eInt.row l0) l0.length k0 hE (tmL_ok _ _ _ _ _) ⟨rfl, ⟨⟨0, true, [], 0⟩, TMQ0 _ _ _ _, trivial, rfl, by simp only [tmL, List.map_cons, List.map_nil, rnw, rnp, rnm]⟩, (plainL [l0]), hNI, hd4, (int_row hg0).1, (int_row hg0).2, (congrArg _ hdd), hd, (by decide), (by decide), (by decide), trivial⟩ fun zz hz _ => fin _ _ _ _ zz hz
        · exact tmiSNNS NI cl dm d (NI (intsOf (eInt.row l0) 0 l0.length) [] [] (intsOf (eInt.row l3) 0 l3.length) d).length ((NI (intsOf (eInt.row l0) 0 l0.length) [] [] (intsOf (eInt.row l3) 0 l3.length) d).map packN) p q (TMQ (NI (intsOf (eInt.row l0) 0 l0.length) [] [] (intsOf (eInt.row l3) 0 l3.length) d).length ((NI (intsOf (eInt.row l0) 0 l0.length) [] [] (intsOf (eInt.row l3) 0 l3.length) d).map packN) p q) (eInt.row l0) l0.length k0 (eInt.row l3) l3.length k3 hE (tmL_ok _ _ _ _ _) ⟨rfl, ⟨⟨0, true, [], 0⟩, TMQ0 _ _ _ _, trivial, rfl, by simp only [tmL, List.map_cons, List.map_nil, rnw, rnp, rnm]⟩, (plainL [l0, l3]), hNI, hd4, (int_row hg0).1, (int_row hg0).2, (int_row hg3).1, (int_row hg3).2, (congrArg _ hdd), hd, (by decide), (by decide), (by decide), trivial⟩ fun zz hz _ => fin _ _ _ _ zz hz
      · rcases c3 with ⟨rfl, rfl⟩ | ⟨l3, k3, rfl, rfl, ha3, hb3, hg3⟩
        · exact tmiSNSN NI cl dm d (NI (intsOf (eInt.row l0) 0 l0.length) [] (intsOf (eInt.row l2) 0 l2.length) [] d).length ((NI (intsOf (eInt.row l0) 0 l0.length) [] (intsOf (eInt.row l2) 0 l2.length) [] d).map packN) p q (TMQ (NI (intsOf (eInt.row l0) 0 l0.length) [] (intsOf (eInt.row l2) 0 l2.length) [] d).length ((NI (intsOf (eInt.row l0) 0 l0.length) [] (intsOf (eInt.row l2) 0 l2.length) [] d).map packN) p q) (eInt.row l0) l0.length k0 (eInt.row l2) l2.length k2 hE (tmL_ok _ _ _ _ _) ⟨rfl, ⟨⟨0, true, [], 0⟩, TMQ0 _ _ _ _, trivial, rfl, by simp only [tmL, List.map_cons, List.map_nil, rnw, rnp, rnm]⟩, (plainL [l0, l2]), hNI, hd4, (int_row hg0).1, (int_row hg0).2, (int_row hg2).1, (int_row hg2).2, (congrArg _ hdd), hd, (by decide), (by decide), (by decide), trivial⟩ fun zz hz _ => fin _ _ _ _ zz hz
        · exact tmiSNSS NI cl dm d (NI (intsOf (eInt.row l0) 0 l0.length) [] (intsOf (eInt.row l2) 0 l2.length) (intsOf (eInt.row l3) 0 l3.length) d).length ((NI (intsOf (eInt.row l0) 0 l0.length) [] (intsOf (eInt.row l2) 0 l2.length) (intsOf (eInt.row l3) 0 l3.length) d).map packN) p q (TMQ (NI (intsOf (eInt.row l0) 0 l0.length) [] (intsOf (eInt.row l2) 0 l2.length) (intsOf (eInt.row l3) 0 l3.length) d).length ((NI (intsOf (eInt.row l0) 0 l0.length) [] (intsOf (eInt.row l2) 0 l2.length) (intsOf (eInt.row l3) 0 l3.length) d).map packN) p q) (eInt.row l0) l0.length k0 (eInt.row l2) l2.length k2 (eInt.row l3) l3.length k3 hE (tmL_ok _ _ _ _ _) ⟨rfl, ⟨⟨0, true, [], 0⟩, TMQ0 _ _ _ _, trivial, rfl, by simp only [tmL, List.map_cons, List.map_nil, rnw, rnp, rnm]⟩, (plainL [l0, l2, l3]), hNI, hd4, (int_row hg0).1, (int_row hg0).2, (int_row hg2).1, (int_row hg2).2, (int_row hg3).1, (int_row hg3).2, (congrArg _ hdd), hd, (by decide), (by decide), (by decide), trivial⟩ fun zz hz _ => fin _ _ _ _ zz hz
    · rcases c2 with ⟨rfl, rfl⟩ | ⟨l2, k2, rfl, rfl, ha2, hb2, hg2⟩
      · rcases c3 with ⟨rfl, rfl⟩ | ⟨l3, k3, rfl, rfl, ha3, hb3, hg3⟩
        · exact tmiSSNN NI cl dm d (NI (intsOf (eInt.row l0) 0 l0.length) (intsOf (eInt.row l1) 0 l1.length) [] [] d).length ((NI (intsOf (eInt.row l0) 0 l0.length) (intsOf (eInt.row l1) 0 l1.length) [] [] d).map packN) p q (TMQ (NI (intsOf (eInt.row l0) 0 l0.length) (intsOf (eInt.row l1) 0 l1.length) [] [] d).length ((NI (intsOf (eInt.row l0) 0 l0.length) (intsOf (eInt.row l1) 0 l1.length) [] [] d).map packN) p q) (eInt.row l0) l0.length k0 (eInt.row l1) l1.length k1 hE (tmL_ok _ _ _ _ _) ⟨rfl, ⟨⟨0, true, [], 0⟩, TMQ0 _ _ _ _, trivial, rfl, by simp only [tmL, List.map_cons, List.map_nil, rnw, rnp, rnm]⟩, (plainL [l0, l1]), hNI, hd4, (int_row hg0).1, (int_row hg0).2, (int_row hg1).1, (int_row hg1).2, (congrArg _ hdd), hd, (by decide), (by decide), (by decide), trivial⟩ fun zz hz _ => fin _ _ _ _ zz hz
        · exact tmiSSNS NI cl dm d (NI (intsOf (eInt.row l0) 0 l0.length) (intsOf (eInt.row l1) 0 l1.length) [] (intsOf (eInt.row l3) 0 l3.length) d).length ((NI (intsOf (eInt.row l0) 0 l0.length) (intsOf (eInt.row l1) 0 l1.length) [] (intsOf (eInt.row l3) 0 l3.length) d).map packN) p q (TMQ (NI (intsOf (eInt.row l0) 0 l0.length) (intsOf (eInt.row l1) 0 l1.length) [] (intsOf (eInt.row l3) 0 l3.length) d).length ((NI (intsOf (eInt.row l0) 0 l0.length) (intsOf (eInt.row l1) 0 l1.length) [] (intsOf (eInt.row l3) 0 l3.length) d).map packN) p q) (eInt.row l0) l0.length k0 (eInt.row l1) l1.length k1 (eInt.row l3) l3.length k3 hE (tmL_ok _ _ _ _ _) ⟨rfl, ⟨⟨0, true, [], 0⟩, TMQ0 _ _ _ _, trivial, rfl, by simp only [tmL, List.map_cons, List.map_nil, rnw, rnp, rnm]⟩, (plainL [l0, l1, l3]), hNI, hd4, (int_row hg0).1, (int_row hg0).2, (int_row hg1).1, (int_row hg1).2, (int_row hg3).1, (int_row hg3).2, (congrArg _ hdd), hd, (by decide), (by decide), (by decide), trivial⟩ fun zz hz _ => fin _ _ _ _ zz hz
      · rcases c3 with ⟨rfl, rfl⟩ | ⟨l3, k3, rfl, rfl, ha3, hb3, hg3⟩
        · exact tmiSSSN NI cl dm d (NI (intsOf (eInt.row l0) 0 l0.length) (intsOf (eInt.row l1) 0 l1.length) (intsOf (eInt.row l2) 0 l2.length) [] d).length ((NI (intsOf (eInt.row l0) 0 l0.length) (intsOf (eInt.row l1) 0 l1.length) (intsOf (eInt.row l2) 0 l2.length) [] d).map packN) p q (TMQ (NI (intsOf (eInt.row l0) 0 l0.length) (intsOf (eInt.row l1) 0 l1.length) (intsOf (eInt.row l2) 0 l2.length) [] d).length ((NI (intsOf (eInt.row l0) 0 l0.length) (intsOf (eInt.row l1) 0 l1.length) (intsOf (eInt.row l2) 0 l2.length) [] d).map packN) p q) (eInt.row l0) l0.length k0 (eInt.row l1) l1.length k1 (eInt.row l2) l2.length k2 hE (tmL_ok _ _ _ _ _) ⟨rfl, ⟨⟨0, true, [], 0⟩, TMQ0 _ _ _ _, trivial, rfl, by simp only [tmL, List.map_cons, List.map_nil, rnw, rnp, rnm]⟩, (plainL [l0, l1, l2]), hNI, hd4, (int_row hg0).1, (int_row hg0).2, (int_row hg1).1, (int_row hg1).2, (int_row hg2).1, (int_row hg2).2, (congrArg _ hdd), hd, (by decide), (by decide), (by decide), trivial⟩ fun zz hz _ => fin _ _ _ _ zz hz
        · exact tmiSSSS NI cl dm d (NI (intsOf (eInt.row l0) 0 l0.length) (intsOf (eInt.row l1) 0 l1.length) (intsOf (eInt.row l2) 0 l2.length) (intsOf (eInt.row l3) 0 l3.length) d).length ((NI (intsOf (eInt.row l0) 0 l0.length) (intsOf (eInt.row l1) 0 l1.length) (intsOf (eInt.row l2) 0 l2.length) (intsOf (eInt.row l3) 0 l3.length) d).map packN) p q (TMQ (NI (intsOf (eInt.row l0) 0 l0.length) (intsOf (eInt.row l1) 0 l1.length) (intsOf (eInt.row l2) 0 l2.length) (intsOf (eInt.row l3) 0 l3.length) d).length ((NI (intsOf (eInt.row l0) 0 l0.length) (intsOf (eInt.row l1) 0 l1.length) (intsOf (eInt.row l2) 0 l2.length) (intsOf (eInt.row l3) 0 l3.length) d).map packN) p q) (eInt.row l0) l0.length k0 (eInt.row l1) l1.length k1 (eInt.row l2) l2.length k2 (eInt.row l3) l3.length k3 hE (tmL_ok _ _ _ _ _) ⟨rfl, ⟨⟨0, true, [], 0⟩, TMQ0 _ _ _ _, trivial, rfl, by simp only [tmL, List.map_cons, List.map_nil, rnw, rnp, rnm]⟩, (plainL [l0, l1, l2, l3]), hNI, hd4, (int_row hg0).1, (int_row hg0).2, (int_row hg1).1, (int_row hg1).2, (int_row hg2).1, (int_row hg2).2, (int_row hg3).1, (int_row hg3).2, (congrArg _ hdd), hd, (by decide), (by decide), (by decide), trivial⟩ fun zz hz _ => fin _ _ _ _ zz hz
theorem walk (W : World) (cl : Int) (v0 v1 v2 v3 : Value) (o0 : Opened W eInt I64 v0) (o1 : Opened W eInt I64 v1) (o2 : Opened W eInt I64 v2) (o3 : Opened W eInt I64 v3) (dm : Int) (w1 : (Lit.int .i64 dm).wf = true) (p0 p1 p2 p3 : Int) (w2 : (-9223372036854775808 ≤ p0 ∧ p0 ≤ 9223372036854775807) ∧ (-9223372036854775808 ≤ p1 ∧ p1 ≤ 9223372036854775807) ∧ (-9223372036854775808 ≤ p2 ∧ p2 ≤ 9223372036854775807) ∧ (-9223372036854775808 ≤ p3 ∧ p3 ≤ 9223372036854775807)) (q0 q1 q2 q3 : Int) (w3 : (-9223372036854775808 ≤ q0 ∧ q0 ≤ 9223372036854775807) ∧ (-9223372036854775808 ≤ q1 ∧ q1 ≤ 9223372036854775807) ∧ (-9223372036854775808 ≤ q2 ∧ q2 ≤ 9223372036854775807) ∧ (-9223372036854775808 ≤ q3 ∧ q3 ≤ 9223372036854775807)) :
    Calls Try.prog 12 #[.agg #[.int .i64 cl, v0, v1, v2, v3], .int .i64 dm, .agg #[.int .i64 p0, .int .i64 p1, .int .i64 p2, .int .i64 p3], .agg #[.int .i64 q0, .int .i64 q1, .int .i64 q2, .int .i64 q3]] W fun e w' => e = .returned (.bool true) ∧ Below W.heap.size W w' := by
  obtain ⟨u0, r0, ad0, c0, e0, n0, g0⟩ := o0.can 0
  obtain ⟨u1, r1, ad1, c1, e1, n1, g1⟩ := o1.can 1
  obtain ⟨u2, r2, ad2, c2, e2, n2, g2⟩ := o2.can 2
  obtain ⟨u3, r3, ad3, c3, e3, n3, g3⟩ := o3.can 3
  have hspec := spec (cl := cl) (p := ⟨p0, p1, p2, p3⟩) (q := ⟨q0, q1, q2, q3⟩) (wf_i64 w1) c0 c1 c2 c3
  have := calls_rows hspec rfl (Nat.le_refl 4)
    (fun u hu j hj => by
      simp at hu
      rcases hu with rfl | rfl | rfl | rfl
      · simp [nms, nm1, nmL, nm0] at hj
        rcases hj with hj | hj | hj | hj
        · have := c0.nm0 j hj; omega
        · have := c1.nm0 j hj; omega
        · have := c2.nm0 j hj; omega
        · have := c3.nm0 j hj; omega
      · simp [nms, nm1, nm0] at hj
      · simp [nms, nm1, nm0, nmL, Pt.cs] at hj
      · simp [nms, nm1, nm0, nmL, Pt.cs] at hj)
    (W := W) (l := [ad0, ad1, ad2, ad3]) (fun j r ad hr ha => by
      match j with
      | 0 => simp at hr ha; subst hr; subst ha; exact g0
      | 1 => simp at hr ha; subst hr; subst ha; exact g1
      | 2 => simp at hr ha; subst hr; subst ha; exact g2
      | 3 => simp at hr ha; subst hr; subst ha; exact g3
      | j + 4 => simp at hr) (Nat.le_refl 4)
  have hmap : ([.agg ⟨[.int .i64 cl, u0, u1, u2, u3]⟩, .int .i64 dm, .agg ⟨Pt.cs ⟨p0, p1, p2, p3⟩⟩, .agg ⟨Pt.cs ⟨q0, q1, q2, q3⟩⟩].map (ren (Nm.at [ad0, ad1, ad2, ad3]))).toArray = #[.agg #[.int .i64 cl, v0, v1, v2, v3], .int .i64 dm, .agg #[.int .i64 p0, .int .i64 p1, .int .i64 p2, .int .i64 p3], .agg #[.int .i64 q0, .int .i64 q1, .int .i64 q2, .int .i64 q3]] := by
    have g0 := e0 [ad0, ad1, ad2, ad3] rfl
    have g1 := e1 [ad0, ad1, ad2, ad3] rfl
    have g2 := e2 [ad0, ad1, ad2, ad3] rfl
    have g3 := e3 [ad0, ad1, ad2, ad3] rfl
    simp only [List.map_cons, List.map_nil]
    simp only [ren_agg, List.map_toArray, List.map_cons, List.map_nil, g0, g1, g2, g3]
    rfl
  rw [hmap] at this
  exact this
end Go.Proofs.Ytnngaedhedbenaa.WkTreeMoves


set_option linter.unusedVariables false
set_option linter.unusedSimpArgs false
namespace Go.Proofs.Ytnngaedhedbenaa.OpenPt
open Go Go.RowKit Go.ChangeShapes Go.WideShapes

theorem cell_int {w : World} {r : Reach} {b : Nat} {v : Value} (h : Cell.okWide Try.prog w r b 3 v) : ∃ n : Int, v = .int .i64 n ∧ (-9223372036854775808 ≤ n ∧ n ≤ 9223372036854775807) := by
  simp only [Cell.okWide, Try.underlying3] at h
  simp only [Cell.ok, Try.underlying3] at h
  split at h <;> first | (rename_i e; cases e; done) | skip
  all_goals first | exact h.elim | skip
  all_goals first
    | (rename_i e1; injection e1 with e1; injection e1 with e1; subst e1; obtain ⟨rfl, hh⟩ := h; exact ⟨_, rfl, by simpa [IntKind.has, IntKind.min, IntKind.max, IntKind.signed, IntKind.bits] using hh⟩)
    | (rename_i e1; cases e1)
/-- The cells of a value whose cells are all numbers. -/
theorem cells_int {t : TypeId} {n : Nat} {w : World} {r : Reach} {b : Nat} {cs : Array Value} (hct : Try.prog.cellTypes Try.prog.depth t = some (List.replicate n 3)) (hn : 0 < n) (h : Row.okWide Try.prog w r b t cs) :
    ∀ (i : Nat) (v : Value), cs[i]? = some v → ∃ m : Int, v = .int .i64 m ∧ (-9223372036854775808 ≤ m ∧ m ≤ 9223372036854775807) := by
  obtain ⟨ts, h1, _, h2⟩ := h
  rw [hct] at h1
  injection h1 with h1
  subst h1
  intro i v hv
  obtain ⟨u, hu, hc⟩ := h2 i v hv
  rw [List.length_replicate, List.getElem?_replicate] at hu
  rw [if_pos (Nat.mod_lt _ hn)] at hu
  injection hu with hu
  subst hu
  exact cell_int hc
theorem open_point {w : World} {b : Nat} {v : Value} (hv : Value.okWide Try.prog w .any b 41 v) :
    ∃ x0 x1 x2 x3 : Int, v = .agg #[.int .i64 x0, .int .i64 x1, .int .i64 x2, .int .i64 x3] ∧ (-9223372036854775808 ≤ x0 ∧ x0 ≤ 9223372036854775807) ∧ (-9223372036854775808 ≤ x1 ∧ x1 ≤ 9223372036854775807) ∧ (-9223372036854775808 ≤ x2 ∧ x2 ≤ 9223372036854775807) ∧ (-9223372036854775808 ≤ x3 ∧ x3 ≤ 9223372036854775807) := by
  simp only [Value.okWide, Try.underlying41] at hv
  obtain ⟨cs, rfl, hs, hr⟩ := hv
  have hC : Try.prog.cellsOf 41 = 4 := by kernel_rfl
  have hc := cells_int (n := 4) (t := 41) (by kernel_rfl) (by decide) hr
  rw [hC] at hs
  obtain ⟨l⟩ := cs
  have hl : l.length = 4 := by simpa using hs
  obtain ⟨x0, e0, r0⟩ := hc 0 (l[0]'(by omega)) (by simp)
  obtain ⟨x1, e1, r1⟩ := hc 1 (l[1]'(by omega)) (by simp)
  obtain ⟨x2, e2, r2⟩ := hc 2 (l[2]'(by omega)) (by simp)
  obtain ⟨x3, e3, r3⟩ := hc 3 (l[3]'(by omega)) (by simp)
  refine ⟨x0, x1, x2, x3, ?_, r0, r1, r2, r3⟩
  congr 1
  apply Array.ext'
  apply List.ext_getElem (by simpa using hl)
  intro i h1 h2
  have h3 : i < 4 := by simpa [hl] using h1
  by_cases c0 : i = 0
  · subst c0; simpa using e0
  by_cases c1 : i = 1
  · subst c1; simpa using e1
  by_cases c2 : i = 2
  · subst c2; simpa using e2
  by_cases c3 : i = 3
  · subst c3; simpa using e3
  omega
end Go.Proofs.Ytnngaedhedbenaa.OpenPt


set_option linter.unusedVariables false
set_option linter.unusedSimpArgs false
set_option maxRecDepth 100000
namespace Go.Proofs.Ytnngaedhedbenaa.Ev
open Go Go.RowKit Go.ChangeShapes Go.WideShapes
theorem elem_i64 {H : Type} {enc : TypeId × Value → H} {W : World} {base : Nat} {spare : Nat → Bool} {held : Bool} (n : Nat) (cs : List Value) (z : DataW H × List MemPlace) (h : DataW.trod enc Try.prog W base spare held n 3 cs = some z) : ∃ x : Int, cs = eInt.cells x ∧ I64 x := by
  obtain ⟨x, h1, h2⟩ := elem_int (P := Try.prog) (k := .i64) (by kernel_rfl) n cs z h
  exact ⟨x, h1, wf64 h2⟩
theorem open_ints64 {H : Type} {enc : TypeId × Value → H} {W : World} {base : Nat} {spare : Nat → Bool} {held : Bool} {r : Reach} {b0 : Nat} {v : Value} {d : DataW H} {ps : List MemPlace} (hv : Value.okWide Try.prog W r b0 43 v) (h : DataW.Trod enc Try.prog W base spare held 43 v d ps) : Opened W eInt I64 v := by
  have hu : Try.prog.underlying 43 = some (.slice 3) := by kernel_rfl
  obtain ⟨fuel, hf⟩ := h
  simp only [Value.okWide, hu] at hv
  have hcs : v.cells.toList = [v] := by
    obtain ⟨a, l, c, rfl⟩ : ∃ a l c, v = .slice a l c := by
      simp only [Cell.okWide, hu, Cell.ok] at hv
      cases v <;> simp_all
    rfl
  rw [hcs] at hf
  exact open_row hu (by kernel_rfl) elem_i64 hv hf
end Go.Proofs.Ytnngaedhedbenaa.Ev


set_option linter.unusedVariables false
set_option linter.unusedSimpArgs false
set_option maxRecDepth 100000
namespace Go.Proofs.Ytnngaedhedbenaa.Ev
open Go Go.RowKit Go.ChangeShapes Go.WideShapes
def fieldsOf (P : Program) (t : TypeId) : Array Field := match P.underlying t with
  | some (.struct fs) => fs
  | _ => #[]
section
variable {H : Type} {enc : TypeId × Value → H} {P : Program} {W : World} {base : Nat} {spare : Nat → Bool} {held : Bool}
theorem field_of {fs : Array Field} {i o c : Nat} {d : TypeDesc} (h : (fs[i]?).map (fun f => (f.offset, P.cellsOf f.type)) = some (o, c)) (hd : (fs[i]?).bind (fun f => P.underlying f.type) = some d) :
    ∃ f, fs[i]? = some f ∧ f.offset = o ∧ P.cellsOf f.type = c ∧ P.underlying f.type = some d := by
  cases hf : fs[i]? with
  | none => rw [hf] at h; simp at h
  | some f =>
    rw [hf] at h hd
    simp at h hd
    exact ⟨f, rfl, h.1, h.2, hd⟩
theorem xs_get {α : Type} {xs : List α} {i : Nat} (h : i < xs.length) : ∃ y, xs[i]? = some y := ⟨xs[i], List.getElem?_eq_getElem h⟩
end
/-- A struct of a number and four slices of numbers. -/
theorem open_tree {H : Type} {enc : TypeId × Value → H} {W : World} {base : Nat} {spare : Nat → Bool} {held : Bool} {r : Reach} {b0 : Nat} {v : Value} {d : DataW H} {ps : List MemPlace} (hv : Value.okWide Try.prog W r b0 47 v) (h : DataW.Trod enc Try.prog W base spare held 47 v d ps) :
    ∃ (cl : Int) (a1 a2 a3 a4 : Value), v = .agg #[.int .i64 cl, a1, a2, a3, a4] ∧ Opened W eInt I64 a1 ∧ Opened W eInt I64 a2 ∧ Opened W eInt I64 a3 ∧ Opened W eInt I64 a4 := by
  have hu : Try.prog.underlying 47 = some (.struct (fieldsOf Try.prog 47)) := by kernel_rfl
  obtain ⟨fuel, hf⟩ := h
  simp only [Value.okWide, hu] at hv
  obtain ⟨⟨l⟩, rfl, hs, ts, ht1, _, ht2⟩ := hv
  have hl5 : l.length = 5 := by
    have : Try.prog.cellsOf 47 = 5 := by kernel_rfl
    rw [this] at hs
    simpa using hs
  have hct : Try.prog.cellTypes Try.prog.depth 47 = some [3, 43, 43, 43, 43] := by kernel_rfl
  rw [hct] at ht1
  injection ht1 with ht1
  subst ht1
  obtain ⟨xs, k, _, _, hl, hlen, hf⟩ := DataW.trod_struct (P := Try.prog) hu hf
  have hx5 : xs.length = 5 := by rw [hlen]; kernel_rfl
  have hsl : Try.prog.underlying 43 = some (.slice 3) := by kernel_rfl
  obtain ⟨f0, e0, o0, c0, u0⟩ := field_of (P := Try.prog) (fs := fieldsOf Try.prog 47) (i := 0) (o := 0) (c := 1) (d := .int .i64) (by kernel_rfl) (by kernel_rfl)
  obtain ⟨f1, e1, o1, c1, u1⟩ := field_of (P := Try.prog) (fs := fieldsOf Try.prog 47) (i := 1) (o := 1) (c := 1) (d := .slice 3) (by kernel_rfl) (by kernel_rfl)
  obtain ⟨f2, e2, o2, c2, u2⟩ := field_of (P := Try.prog) (fs := fieldsOf Try.prog 47) (i := 2) (o := 2) (c := 1) (d := .slice 3) (by kernel_rfl) (by kernel_rfl)
  obtain ⟨f3, e3, o3, c3, u3⟩ := field_of (P := Try.prog) (fs := fieldsOf Try.prog 47) (i := 3) (o := 3) (c := 1) (d := .slice 3) (by kernel_rfl) (by kernel_rfl)
  obtain ⟨f4, e4, o4, c4, u4⟩ := field_of (P := Try.prog) (fs := fieldsOf Try.prog 47) (i := 4) (o := 4) (c := 1) (d := .slice 3) (by kernel_rfl) (by kernel_rfl)
  have g0 := hf 0 f0 e0
  have g1 := hf 1 f1 e1
  have g2 := hf 2 f2 e2
  have g3 := hf 3 f3 e3
  have g4 := hf 4 f4 e4
  obtain ⟨y0, hy0⟩ := xs_get (xs := xs) (i := 0) (by omega)
  obtain ⟨y1, hy1⟩ := xs_get (xs := xs) (i := 1) (by omega)
  obtain ⟨y2, hy2⟩ := xs_get (xs := xs) (i := 2) (by omega)
  obtain ⟨y3, hy3⟩ := xs_get (xs := xs) (i := 3) (by omega)
  obtain ⟨y4, hy4⟩ := xs_get (xs := xs) (i := 4) (by omega)
  rw [o0, c0, hy0] at g0
  rw [o1, c1, hy1] at g1
  rw [o2, c2, hy2] at g2
  rw [o3, c3, hy3] at g3
  rw [o4, c4, hy4] at g4
  match l, hl5 with
  | [p0, p1, p2, p3, p4], _ =>
    obtain ⟨cl, q0, _, _⟩ := DataW.trod_int u0 g0
    have q1 : [p0] = [Value.int .i64 cl] := q0
    injection q1 with q1 _
    subst q1
    obtain ⟨t1, hq1, w1⟩ := ht2 1 p1 rfl
    simp at hq1
    subst hq1
    obtain ⟨t2, hq2, w2⟩ := ht2 2 p2 rfl
    simp at hq2
    subst hq2
    obtain ⟨t3, hq3, w3⟩ := ht2 3 p3 rfl
    simp at hq3
    subst hq3
    obtain ⟨t4, hq4, w4⟩ := ht2 4 p4 rfl
    simp at hq4
    subst hq4
    have hcell : ∀ (x : Value) (ft : TypeId), Try.prog.underlying ft = some (.slice 3) → Cell.okWide Try.prog W r b0 43 x → Cell.okWide Try.prog W r b0 ft x := by
      intro x ft hft hx
      simp only [Cell.okWide, hsl, hft, Cell.ok] at hx ⊢
      exact hx
    exact ⟨cl, p1, p2, p3, p4, rfl, open_row u1 (by kernel_rfl) elem_i64 (hcell p1 _ u1 w1) g1, open_row u2 (by kernel_rfl) elem_i64 (hcell p2 _ u2 w2) g2, open_row u3 (by kernel_rfl) elem_i64 (hcell p3 _ u3 w3) g3, open_row u4 (by kernel_rfl) elem_i64 (hcell p4 _ u4 w4) g4⟩
end Go.Proofs.Ytnngaedhedbenaa.Ev


namespace Go.Proofs.Ytnngaedhedbenaa.treeMovesRow
open Go.ChangeShapes Go.WideShapes Go.ChangeAt Go.RowKit
open Go.ChangeMaps (open_string shut_string)
set_option linter.unusedVariables false
theorem own : ownKnob Try.prog.godebug = none := by kernel_rfl
theorem laidOut : laidOutB Try.prog = true := by kernel_rfl
set_option maxHeartbeats 4000000 in
set_option maxRecDepth 100000 in
theorem lifted (os : Os) (started : os.Started) (H : Type) (enc : TypeId × Value → H) :
    ReturnsInHanded {} Try.checked os 12 .any (Rows.treeMovesSpec.pre6 enc Try.prog Try.f12 Rows.treeMovesRow.domain false) (Rows.treeMovesSpec.post enc Try.prog Try.f12 false true false false) := by
  refine returnsInHanded_of_change_sized (C := Try.checked) own started (by kernel_rfl) Try.func12
    (ChangeSpec.witness6 (enc := enc) (C := Try.checked) false ⟨#[], #[.agg #[.int .i64 0, .slice none 0 0, .slice none 0 0, .slice none 0 0, .slice none 0 0], .int .i64 0, .agg #[.int .i64 0, .int .i64 0, .int .i64 0, .int .i64 0], .agg #[.int .i64 0, .int .i64 0, .int .i64 0, .int .i64 0]], []⟩ 8 (by kernel_rfl) (by kernel_rfl) (by kernel_rfl) (by kernel_rfl)) ?_
  intro W base args ds gs before hval0 hW hcnd hsz0 _
  have hsz : (DataW.weightsEach Try.prog (Try.f12.params.toList ++ Rows.treeMovesSpec.plain.varTypes Try.prog) (ds ++ gs)).all (· ≤ reachBytes) = true := hsz0
  have hval : ∀ (j : Nat) t v, Try.f12.params[j]? = some t → args[j]? = some v → Value.okWide Try.prog W .any base t v := hval0
  have hW' := hW
  obtain ⟨p, q, hA0, hV, rfl, hfz, hnd⟩ := hW
  have hA : DataW.TrodAll enc Try.prog W 0 (fun _ => true) true Try.f12.params.toList args.toList ds p := hA0
  rw [Try.params12] at hA hval hsz
  obtain ⟨v0, vs0, d0, ds0, p0, q0, hargs, rfl, rfl, h0, r0⟩ := trodAll_cons hA
  obtain ⟨v1, vs1, d1, ds1, p1, q1, rfl, rfl, rfl, h1, r1⟩ := trodAll_cons r0
  obtain ⟨v2, vs2, d2, ds2, p2, q2, rfl, rfl, rfl, h2, r2⟩ := trodAll_cons r1
  obtain ⟨v3, vs3, d3, ds3, p3, q3, rfl, rfl, rfl, h3, r3⟩ := trodAll_cons r2
  obtain ⟨rfl, rfl, rfl⟩ := trodAll_nil r3
  obtain rfl : args = #[v0, v1, v2, v3] := by cases args; simp_all
  obtain ⟨rfl, rfl⟩ := trodVars_none hV
  have k0 := h0
  have lt0 : ∀ x ∈ p0, x.block < W.heap.size := by obtain ⟨m, hm⟩ := k0; exact DataW.trod_lt m _ _ _ hm
  obtain ⟨t0y0, t0y1, t0y2, t0y3, t0y4, rfl, w0y1, w0y2, w0y3, w0y4⟩ := Ev.open_tree (hval 0 47 v0 rfl rfl) h0
  obtain ⟨a1, rfl, rfl, rfl, w1⟩ := open_int Try.underlying3 (hval 1 3 v1 rfl rfl) h1
  have k2 := h2
  have lt2 : ∀ x ∈ p2, x.block < W.heap.size := by obtain ⟨m, hm⟩ := k2; exact DataW.trod_lt m _ _ _ hm
  obtain ⟨x2y0, x2y1, x2y2, x2y3, rfl, w2⟩ := OpenPt.open_point (hval 2 41 v2 rfl rfl)
  have k3 := h3
  have lt3 : ∀ x ∈ p3, x.block < W.heap.size := by obtain ⟨m, hm⟩ := k3; exact DataW.trod_lt m _ _ _ hm
  obtain ⟨x3y0, x3y1, x3y2, x3y3, rfl, w3⟩ := OpenPt.open_point (hval 3 41 v3 rfl rfl)
  clear hA0 hval0 hsz0 hsz
  refine (WkTreeMoves.walk W t0y0 t0y1 t0y2 t0y3 t0y4 w0y1 w0y2 w0y3 w0y4 a1 w1 x2y0 x2y1 x2y2 x2y3 w2 x3y0 x3y1 x3y2 x3y3 w3).mono fun e W' ⟨he, bel⟩ => ?_
  subst he
  exact ⟨_, rfl, _, _, _, [], _, [], hW', trodAll_mk1 (shut_bool Try.underlying4 _), (trodAll_cons_mk (Below.trod laidOut (by kernel_rfl) (of_decide_eq_true (by kernel_rfl)) k0 bel lt0) (trodAll_cons_mk (shut_int Try.underlying3 w1) (trodAll_cons_mk (Below.trod laidOut (by kernel_rfl) (of_decide_eq_true (by kernel_rfl)) k2 bel lt2) (trodAll_cons_mk (Below.trod laidOut (by kernel_rfl) (of_decide_eq_true (by kernel_rfl)) k3 bel lt3) trodAll_mk0)))), rfl, bel.frame _, fun h => by cases h⟩
theorem over : Rows.treeMovesRow.holds Try.pinned (OpenSpec.ofChange Rows.treeMovesSpec) :=
  OpenClaim.holds_of_wide 12 Try.f12 rfl rfl rfl rfl rfl rfl rfl ⟨rfl, rfl, rfl, rfl, rfl⟩ rfl rfl rfl rfl rfl (by kernel_rfl) Try.func12 (by kernel_rfl)
    (of_decide_eq_true (by kernel_rfl)) (by unfold Func.isWrapper; first | (rw [if_pos (by decide +kernel)]; kernel_rfl) | (rw [if_neg (by decide +kernel)]; exact ⟨rfl, rfl⟩))
    (fun os started H enc _ => lifted os started H enc)
end Go.Proofs.Ytnngaedhedbenaa.treeMovesRow
namespace Go.Proofs.Ytnngaedhedbenaa
theorem treeMoves_holds : Rows.TreeMovesSaid := treeMovesRow.over
#print axioms treeMoves_holds
end Go.Proofs.Ytnngaedhedbenaa

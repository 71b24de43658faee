/-
  Region and Inside: what they make. No condition.
-/
import Derived.Test.YthbaccmhdffjdaaCliqueOrderP2
set_option linter.unusedVariables false
set_option linter.unusedSimpArgs false
set_option maxRecDepth 100000
namespace Go.Proofs.Ythbaccmhdffjdaa.Fo
open Go Go.RowKit Ev NodeE Within PickE Tn Fo
structure FD where
 d : Int
 cl : Int
 n : Nat
 ct : Nat
 rw : Nat → Rw
 tc : Nat → Int
 a : Nat → Option Addr
def FD.nd (D : FD) (i : Nat) : List Nd := nodesI (D.rw (2 + 4 * i)).l (D.rw (3 + 4 * i)).l (D.rw (4 + 4 * i)).l (D.rw (5 + 4 * i)).l (withinS D.d 1 3)
def FD.z (D : FD) (k : Nat) : Option Addr := (D.rw k).wz (D.a k) k
def FD.m (D : FD) (k : Nat) : Nat := (D.rw k).wn
def FD.c (D : FD) (k : Nat) : Nat := (D.rw k).wc
def FD.ts (D : FD) (i : Nat) : List Value := [.int .i64 (D.tc i), .slice (D.z (2 + 4 * i)) (D.m (2 + 4 * i)) (D.c (2 + 4 * i)), .slice (D.z (3 + 4 * i)) (D.m (3 + 4 * i)) (D.c (3 + 4 * i)), .slice (D.z (4 + 4 * i)) (D.m (4 + 4 * i)) (D.c (4 + 4 * i)), .slice (D.z (5 + 4 * i)) (D.m (5 + 4 * i)) (D.c (5 + 4 * i))]
def FD.cs (D : FD) : Nat → List Value
 | 0 => []
 | i + 1 => D.cs i ++ D.ts i
def FD.bias (D : FD) (i : Nat) : Int := if (i : Int) < withinS D.cl 1 3 then withinS (pickI (D.rw 1).l i) (-500) 500 else 0
def FD.fp (D : FD) : FP where
 cs0 := D.cs (min D.n 4)
 R k := (D.rw k).cs
 d := D.d
 cl := D.cl
 z := D.z
 m := D.m
 c := D.c
 n := D.n
 ct := D.ct
 dim := withinS D.d 1 3
 cls := withinS D.cl 1 3
 b0 := D.bias 0
 b1 := D.bias 1
 b2 := D.bias 2
 tc := D.tc
 C i := withinS (D.tc i) 0 (withinS D.cl 1 3 - 1)
 W i := (D.nd i).map packN
 l i := (D.nd i).length
structure FD.OK (D : FD) : Prop where
 d : I64 D.d
 cl : I64 D.cl
 good : ∀ k, (D.rw k).good
 none : ∀ k, (D.rw k).z = false → (D.rw k).cs = []
 tc : ∀ i, I64 (D.tc i)
 hat : ∀ k, hat (D.a k) (40 + k)
 za : ∀ k, (D.rw k).z = true → D.a k = Option.none
 a1 : D.a 1 = Option.none
 a18 : ∀ k, 18 ≤ k → D.a k = Option.none
def ztOK (D : FD) (zt : Option Addr) : Prop := zt = some ⟨0, 0, none⟩ ∨ (zt = none ∧ D.n = 0)
theorem FD.sv (D : FD) (k : Nat) : Value.slice (D.z k) (D.m k) (D.c k) = (D.rw k).w (D.a k) k := Rw.w_eq _ _ _
theorem Rw.w_none (r : Rw) (k : Nat) : r.w none k = r.v k := by
 unfold Rw.w Rw.v
 cases r.z <;> rfl
theorem FD.sv1 {D : FD} (ok : D.OK) : Value.slice (D.z 1) (D.m 1) (D.c 1) = (D.rw 1).v 1 := by
 rw [FD.sv, ok.a1, Rw.w_none]
theorem FD.z_nm {D : FD} (ok : D.OK) (k : Nat) {m c : Nat} : ∀ j ∈ nm0 (.slice (D.z k) m c), j = k ∨ j = 40 + k := by
 intro j hj
 unfold FD.z Rw.wz at hj
 cases h : (D.rw k).z <;> rw [h] at hj
 ·rcases ok.hat k with e | ⟨sp, e⟩ <;> rw [e] at hj <;> simp [nm0] at hj
  exact Or.inr hj
 ·simp [nm0] at hj
  exact Or.inl hj
theorem FD.ts_nm {D : FD} (ok : D.OK) {i : Nat} (hi : i < 4) : ∀ v ∈ D.ts i, ∀ j ∈ nm0 v, j < 64 := by
 intro v hv j hj
 simp only [FD.ts, List.mem_cons, List.not_mem_nil, or_false] at hv
 rcases hv with rfl | rfl | rfl | rfl | rfl
 ·simp [nm0] at hj
 all_goals (have := FD.z_nm ok _ j hj; omega)
theorem FD.cs_nm {D : FD} (ok : D.OK) : ∀ b, b ≤ 4 → ∀ v ∈ D.cs b, ∀ j ∈ nm0 v, j < 64
 | 0, _, v, h, j, hj => by simp [FD.cs] at h
 | b + 1, hb, v, h, j, hj => by
  simp only [FD.cs, List.mem_append] at h
  rcases h with h | h
  ·exact FD.cs_nm ok b (by omega) v h j hj
  ·exact FD.ts_nm ok (by omega) v h j hj
theorem FD.cs_len (D : FD) : ∀ b, (D.cs b).length = 5 * b
 | 0 => rfl
 | b + 1 => by simp only [FD.cs, List.length_append, FD.cs_len D b, FD.ts, List.length_cons, List.length_nil]; omega
theorem sub_app {a b c : List Value} : sub (a ++ (b ++ c)) a.length b.length = some b := by
 have h0 : ∀ (b c : List Value), sub (b ++ c) 0 b.length = some b := by
  intro b c
  induction b with
  | nil => cases c <;> rfl
  | cons v b ih => simp [sub, ih]
 induction a with
 | nil => exact h0 b c
 | cons v a ih => simp only [List.cons_append, List.length_cons, sub]; exact ih
theorem FD.cs_split (D : FD) (i : Nat) : ∀ b, i < b → ∃ c, D.cs b = D.cs i ++ (D.ts i ++ c)
 | 0, h => absurd h (Nat.not_lt_zero _)
 | b + 1, h => by
  by_cases hi : i = b
  ·subst hi; exact ⟨[], by simp [FD.cs]⟩
  ·obtain ⟨c, hc⟩ := FD.cs_split D i b (by omega)
   exact ⟨c ++ D.ts b, by simp [FD.cs, hc]⟩
theorem FD.sub_ts (D : FD) {i b : Nat} (h : i < b) : sub (D.cs b) (5 * i) 5 = some (D.ts i) := by
 obtain ⟨c, hc⟩ := FD.cs_split D i b h
 rw [hc]
 have := sub_app (a := D.cs i) (b := D.ts i) (c := c)
 rw [FD.cs_len] at this
 exact this
theorem FD.sub_tc (D : FD) {i b : Nat} (h : i < b) : sub (D.cs b) (5 * i) 1 = some [.int .i64 (D.tc i)] := by
 obtain ⟨c, hc⟩ := FD.cs_split D i b h
 rw [hc]
 have := sub_app (a := D.cs i) (b := [.int .i64 (D.tc i)]) (c := (D.ts i).drop 1 ++ c)
 rw [FD.cs_len] at this
 exact this
theorem FD.read_ts (D : FD) {i b : Nat} (h : i < b) : readPart Try.prog 55 (D.cs b) (5 * i) = some (.agg ⟨D.ts i⟩) := by
 have h1 : aggT Try.prog 55 = some true := by kernel_rfl
 have h2 : sizeOfT Try.prog 55 = some 5 := by kernel_rfl
 unfold readPart
 rw [h1, h2]
 simp only [FD.sub_ts D h]
theorem FD.read_tc (D : FD) {i b : Nat} (h : i < b) : readPart Try.prog 3 (D.cs b) (5 * i) = some (.int .i64 (D.tc i)) := by
 have h1 : aggT Try.prog 3 = some false := by kernel_rfl
 unfold readPart
 rw [h1]
 simp only [FD.sub_tc D h]
 rfl
theorem mapL_fix {f : Nat → Nat} {cs : List Value} (h : ∀ c ∈ cs, ∀ k ∈ nm0 c, f k = k) : mapL (rn0 f) cs = cs := mapL_id fun c hc => rn0_names (h c hc)
theorem rows_fix {D : FD} (ok : D.OK) {f : Nat → Nat} (hf : ∀ k, k < 64 → f k = k) : D.fp.rows.map (Blk.rnB f) = D.fp.rows := by
 have hR : ∀ k, Blk.rnB f (.ro (D.fp.R k)) = .ro (D.fp.R k) := fun k => by
  refine Blk.plain.rnB (b := .ro _) ?_ f
  show ∀ c ∈ (D.rw k).cs, leafG c = true
  cases hz : (D.rw k).z with
  | false => rw [ok.none k hz]; intro c hc; simp at hc
  | true => exact (ok.good k hz).2.2
 have h0 : Blk.rnB f (.ro D.fp.cs0) = .ro D.fp.cs0 := by
  show Blk.ro (mapL (rn0 f) (D.cs (min D.n 4))) = _
  rw [mapL_fix fun c hc k hk => hf k (FD.cs_nm ok (min D.n 4) (by omega) c hc k hk)]
  rfl
 simp only [FP.rows, List.map_cons, List.map_nil, hR, h0]
theorem nds_fix (p : FP) (f : Nat → Nat) (b : Nat) : (p.nds b).map (Blk.rnB f) = p.nds b := by
 conv => rhs; rw [← List.map_id (p.nds b)]
 exact List.map_congr_left fun x hx => (nds_plain p b x hx).rnB f
theorem fcs_fix {D : FD} (ok : D.OK) {zt : Option Addr} (hz : ztOK D zt) {f : Nat → Nat} (hf : ∀ k, k < 64 → f k = k) : mapL (rn0 f) (D.fp.fcs zt) = D.fp.fcs zt := by
 refine mapL_fix fun c hc k hk => hf k ?_
 simp only [FP.fcs, List.mem_cons, List.not_mem_nil, or_false] at hc
 rcases hc with rfl | rfl | rfl | rfl
 ·simp [nm0] at hk
 ·simp [nm0] at hk
 ·have := FD.z_nm ok 1 k hk; omega
 ·rcases hz with rfl | ⟨rfl, _⟩
  ·simp [nm0] at hk; omega
  ·simp [nm0] at hk
theorem hv_fix {D : FD} (ok : D.OK) {zt : Option Addr} (hz : ztOK D zt) (Q : Nat → Prop) {f : Nat → Nat} (hf : ∀ k, k < 64 → f k = k) (b : Nat) : ((fm D.fp zt Q).hv b ()).map (Blk.rnB f) = D.fp.rows ++ ([.cells (D.fp.fcs zt) 61, .cells (mapL (rn0 f) (D.fp.mcs 73 b)) 51, .cells mz 51] ++ (match b with | 0 => [] | b + 1 => .vec (mapL (rn0 f) (D.fp.tcs 74 (b + 1))) 47 2 :: D.fp.nds (b + 1))) := by
 show (D.fp.rows ++ ([Blk.cells (D.fp.fcs zt) 61, .cells (D.fp.mcs 73 b) 51, .cells mz 51] ++ D.fp.tbs 73 b)).map _ = _
 rw [List.map_append, rows_fix ok hf, List.map_append]
 congr 1
 have h1 : Blk.rnB f (.cells (D.fp.fcs zt) 61) = .cells (D.fp.fcs zt) 61 := by show Blk.cells (mapL _ _) _ = _; rw [fcs_fix ok hz hf]
 simp only [List.map_cons, List.map_nil, h1]
 congr 1
 cases b with
 | zero => rfl
 | succ b =>
  show (Blk.rnB f _ :: (D.fp.nds (b + 1)).map _) = _
  rw [nds_fix]
  rfl
def FD.PV (D : FD) : Value → Int → Int := fun _ i => pickI (D.rw 1).l i
def FD.lst (D : FD) : Value → List Int
 | .slice (some a) _ _ => if a.block < 24 then (D.rw a.block).l else []
 | _ => []
def FD.WD (D : FD) : List Value → Int → List Int
 | [_, v0, v1, v2, v3], dim => (nodesI (D.lst v0) (D.lst v1) (D.lst v2) (D.lst v3) dim).map packN
 | _, _ => []
def FD.KD (D : FD) : List Value → Int → Nat := fun cs dim => (D.WD cs dim).length
theorem FD.lst_sv {D : FD} (ok : D.OK) {k : Nat} (hk : k < 24) : D.lst (.slice (D.z k) (D.m k) (D.c k)) = (D.rw k).l := by
 unfold FD.z Rw.wz Rw.l
 cases h : (D.rw k).z
 ·rcases ok.hat k with e | ⟨sp, e⟩ <;> rw [e]
  ·rfl
  ·exact if_neg (show ¬ 40 + k < 24 by omega)
 ·show (if k < 24 then (D.rw k).l else []) = _
  rw [if_pos hk]
  simp only [Rw.l, h]
theorem FD.WD_ts {D : FD} (ok : D.OK) {i : Nat} (hi : i < 4) : D.WD (D.ts i) (withinS D.d 1 3) = D.fp.W i := by
 show (nodesI (D.lst _) (D.lst _) (D.lst _) (D.lst _) _).map packN = _
 rw [FD.lst_sv ok (by omega), FD.lst_sv ok (by omega), FD.lst_sv ok (by omega), FD.lst_sv ok (by omega)]
 rfl
theorem FD.KD_ts {D : FD} (ok : D.OK) {i : Nat} (hi : i < 4) : D.KD (D.ts i) (withinS D.d 1 3) = D.fp.l i := by
 unfold FD.KD
 rw [FD.WD_ts ok hi]
 show ((D.nd i).map packN).length = (D.nd i).length
 rw [List.length_map]
theorem FD.pick {D : FD} (ok : D.OK) {i : Int} (hi : 0 ≤ i) : PickOK D.PV (.slice (D.fp.z 1) (D.fp.m 1) (D.fp.c 1)) i 1 (some (.ro (D.fp.R 1))) := ⟨D.rw 1, ⟨FD.sv1 ok, ok.good 1, fun _ => ⟨_, rfl, rfl⟩⟩, rfl, hi⟩
theorem FD.rwIn {D : FD} (ok : D.OK) (k : Nat) : RwIn (D.rw k) (some (.ro (D.fp.R k))) := ⟨ok.good k, ok.none k, _, rfl, rfl⟩
theorem FD.good64 {D : FD} (ok : D.OK) (k : Nat) : ∀ z ∈ (D.rw k).l, I64 z := by
 intro z hz
 unfold Rw.l at hz
 cases h : (D.rw k).z <;> rw [h] at hz
 ·simp at hz
 ·exact (ok.good k h).2.1 z hz
theorem FD.nodes {D : FD} (ok : D.OK) {i : Nat} (hi : i < 4) : NodesOK D.WD D.KD (D.ts i) (withinS D.d 1 3) [some (.ro (D.fp.R 2)), some (.ro (D.fp.R 3)), some (.ro (D.fp.R 4)), some (.ro (D.fp.R 5)), some (.ro (D.fp.R 6)), some (.ro (D.fp.R 7)), some (.ro (D.fp.R 8)), some (.ro (D.fp.R 9)), some (.ro (D.fp.R 10)), some (.ro (D.fp.R 11)), some (.ro (D.fp.R 12)), some (.ro (D.fp.R 13)), some (.ro (D.fp.R 14)), some (.ro (D.fp.R 15)), some (.ro (D.fp.R 16)), some (.ro (D.fp.R 17))] := by
 have hd := within_range D.d (show (1 : Int) ≤ 3 by decide)
 have hv : ∀ k, k < 16 → ([some (Blk.ro (D.fp.R 2)), some (Blk.ro (D.fp.R 3)), some (Blk.ro (D.fp.R 4)), some (Blk.ro (D.fp.R 5)), some (Blk.ro (D.fp.R 6)), some (Blk.ro (D.fp.R 7)), some (Blk.ro (D.fp.R 8)), some (Blk.ro (D.fp.R 9)), some (Blk.ro (D.fp.R 10)), some (Blk.ro (D.fp.R 11)), some (Blk.ro (D.fp.R 12)), some (Blk.ro (D.fp.R 13)), some (Blk.ro (D.fp.R 14)), some (Blk.ro (D.fp.R 15)), some (Blk.ro (D.fp.R 16)), some (Blk.ro (D.fp.R 17))] : List (Option Blk)).getD k none = some (.ro (D.fp.R (k + 2))) := fun k hk => vw_get (fun j => some (.ro (D.fp.R j))) hk
 refine ⟨4 * i, 40 + (2 + 4 * i), 40 + (3 + 4 * i), 40 + (4 + 4 * i), 40 + (5 + 4 * i), D.tc i, D.rw (2 + 4 * i), D.rw (3 + 4 * i), D.rw (4 + 4 * i), D.rw (5 + 4 * i), D.a (2 + 4 * i), D.a (3 + 4 * i), D.a (4 + 4 * i), D.a (5 + 4 * i), ?_, ok.hat _, ok.hat _, ok.hat _, ok.hat _, ok.za _, ok.za _, ok.za _, ok.za _, ?_, ?_, ?_, ?_, by omega, FD.WD_ts ok hi, FD.KD_ts ok hi, hd.1, by omega⟩
 ·rw [show 4 * i + 2 = 2 + 4 * i by omega, show 4 * i + 3 = 3 + 4 * i by omega, show 4 * i + 4 = 4 + 4 * i by omega, show 4 * i + 5 = 5 + 4 * i by omega, ← FD.sv, ← FD.sv, ← FD.sv, ← FD.sv]
  rfl
 ·rw [hv _ (by omega), show 4 * i + 2 = 2 + 4 * i by omega]; exact FD.rwIn ok _
 ·rw [hv _ (by omega), show 4 * i + 1 + 2 = 3 + 4 * i by omega]; exact FD.rwIn ok _
 ·rw [hv _ (by omega), show 4 * i + 2 + 2 = 4 + 4 * i by omega]; exact FD.rwIn ok _
 ·rw [hv _ (by omega), show 4 * i + 3 + 2 = 5 + 4 * i by omega]; exact FD.rwIn ok _
theorem upN_lt (q : Nat) : ∀ b, ∀ k ∈ upN q b, q ≤ k ∧ k < q + b
 | 0, k, h => by simp [upN] at h
 | b + 1, k, h => by
  simp only [upN, List.mem_append, List.mem_cons, List.not_mem_nil, or_false] at h
  rcases h with h | rfl
  ·have := upN_lt q b k h; omega
  ·omega
theorem fm_ok {D : FD} (ok : D.OK) {zt : Option Addr} (hz : ztOK D zt) (Q : Nat → Prop) (hQ : ∀ b, Q b → b ≤ 4) : (fm D.fp zt Q).OK 64 := by
 have hrow : ∀ x ∈ D.fp.rows, x.namesLt 80 := by
  intro x hx
  have h := rows_fix ok (f := id) (fun k _ => rfl)
  simp only [FP.rows, List.mem_cons, List.not_mem_nil, or_false] at hx
  have hR : ∀ k, Blk.namesLt 80 (.ro (D.fp.R k)) := fun k => Blk.plain.namesLt (b := .ro _) (by
   show ∀ c ∈ (D.rw k).cs, leafG c = true
   cases hz : (D.rw k).z with
   | false => rw [ok.none k hz]; intro c hc; simp at hc
   | true => exact (ok.good k hz).2.2) _
  rcases hx with rfl | rfl | rfl | rfl | rfl | rfl | rfl | rfl | rfl | rfl | rfl | rfl | rfl | rfl | rfl | rfl | rfl | rfl
  ·exact fun c hc k hk => by have := FD.cs_nm ok _ (show min D.n 4 ≤ 4 by omega) c hc k hk; omega
  all_goals exact hR _
 refine ⟨(by decide : 64 ≤ 80), fun b i h k hk => ?_, fun b i h v hv k hk => ?_, fun b i h x hx => ?_⟩
 ·show k < 80
  have hb := hQ b h
  have hk : k ∈ [0, 1, 2, 3, 4, 5, 6, 7, 8, 9, 10, 11, 12, 13, 14, 15, 16, 17, 70, 71, 72] ++ tns 73 b := hk
  rcases List.mem_append.1 hk with hk | hk
  ·have : ∀ k ∈ [0, 1, 2, 3, 4, 5, 6, 7, 8, 9, 10, 11, 12, 13, 14, 15, 16, 17, 70, 71, 72], k < 80 := by decide
   exact this k hk
  ·cases b with
   | zero => simp [tns] at hk
   | succ b =>
    rcases List.mem_cons.1 hk with rfl | hk
    ·omega
    ·have := upN_lt 74 _ k hk; omega
 ·show k < 80
  have hv : v ∈ [ptr 70, ptr 72, ptr 71, .int .i64 ((b : Nat) : Int)] := hv
  simp only [List.mem_cons, List.not_mem_nil, or_false] at hv
  rcases hv with rfl | rfl | rfl | rfl <;> simp [ptr, nms, nm1, nm0] at hk <;> omega
 ·show x.namesLt 80
  have hb := hQ b h
  have hx : x ∈ D.fp.rows ++ ([Blk.cells (D.fp.fcs zt) 61, .cells (D.fp.mcs 73 b) 51, .cells mz 51] ++ D.fp.tbs 73 b) := hx
  rcases List.mem_append.1 hx with hx | hx
  ·exact hrow x hx
  rcases List.mem_append.1 hx with hx | hx
  ·simp only [List.mem_cons, List.not_mem_nil, or_false] at hx
   rcases hx with rfl | rfl | rfl
   ·intro c hc k hk
    simp only [FP.fcs, List.mem_cons, List.not_mem_nil, or_false] at hc
    rcases hc with rfl | rfl | rfl | rfl
    ·simp [nm0] at hk
    ·simp [nm0] at hk
    ·have := FD.z_nm ok 1 k hk; omega
    ·rcases hz with rfl | ⟨rfl, _⟩
     ·simp [nm0] at hk; omega
     ·simp [nm0] at hk
   ·intro c hc k hk
    simp only [FP.mcs, List.mem_cons, List.not_mem_nil, or_false] at hc
    rcases hc with rfl | rfl | rfl | rfl | rfl | rfl
    ·simp [nm0] at hk
    ·simp [nm0] at hk
    ·simp [nm0] at hk
    ·simp [nm0] at hk
    ·simp [nm0] at hk
    ·cases b <;> simp [tsl, nm0] at hk
     omega
   ·exact Blk.plain.namesLt (b := .cells _ _) (by intro c hc; simp only [mz, List.mem_cons, List.not_mem_nil, or_false] at hc; rcases hc with rfl | rfl | rfl | rfl | rfl | rfl <;> rfl) _
  ·exact tbs_lt D.fp 73 b (by omega) x hx
theorem body0 {D : FD} (ok : D.OK) {E rv rhs rhv} (hE : EnvOK E Try.prog Try.f27 1 64 rv rhs rhv) (hn : 0 < min D.n 4) (J : Act → World → Prop) (hJ : Sat E (mkLp (lp Try.f27 1) J) ((fm D.fp (some ⟨0, 0, none⟩) (fun b => b ≤ min D.n 4)).st 1 ())) :
  Sat E (inLp (lp Try.f27 1) J) ((fm D.fp (some ⟨0, 0, none⟩) (fun b => b ≤ min D.n 4)).st 0 ()) := by
 have hcl := within_range D.cl (show (1 : Int) ≤ 3 by decide)
 have hz : ztOK D (some ⟨0, 0, none⟩) := Or.inl rfl
 have hQ : ∀ b, b ≤ min D.n 4 → b ≤ 4 := fun b h => by omega
 have hfix : ∀ k, k < 64 → Ev.look [(73, 328), (74, 304)] k = k := by decide
 have hidx : (0 : Int) ≤ 0 ∧ (0 : Int) < Int.ofNat D.fp.n := ⟨by decide, by show (0 : Int) < ((D.n : Nat) : Int); omega⟩
 refine foB0 D.PV D.WD D.KD D.fp (fun b => b ≤ min D.n 4) (withinS D.cl 1 3 - 1) J hE (fm_ok ok hz _ hQ) ⟨rfl, ⟨(), (by show 1 ≤ min D.n 4; omega), (by show 4 - 1 < 4 - 0; decide), rfl, ?_⟩, FD.nodes ok (i := 0) (by decide), FD.read_ts D (i := 0) hn, hidx, rfl, ok.tc 0, by decide, by omega, by omega, i64_id rfl (by show -9223372036854775808 ≤ withinS D.cl 1 3 - 1; omega) (by show withinS D.cl 1 3 - 1 ≤ 9223372036854775807; omega), FD.read_tc D (i := 0) hn, hidx, congrArg Value.bool (decide_eq_true (by show (0 : Int) < ((D.n : Nat) : Int); omega)), trivial⟩ fun zz _ _ => hJ
 rw [hv_fix ok hz _ hfix]
 have hW : D.WD (D.fp.ts 0) D.fp.dim = D.fp.W 0 := FD.WD_ts ok (i := 0) (by decide)
 have hK : D.KD (D.fp.ts 0) D.fp.dim = D.fp.l 0 := FD.KD_ts ok (i := 0) (by decide)
 rw [hW, hK]
 rfl
theorem body1 {D : FD} (ok : D.OK) {E rv rhs rhv} (hE : EnvOK E Try.prog Try.f27 1 64 rv rhs rhv) (hn : 1 < min D.n 4) (J : Act → World → Prop) (hJ : Sat E (mkLp (lp Try.f27 1) J) ((fm D.fp (some ⟨0, 0, none⟩) (fun b => b ≤ min D.n 4)).st 2 ())) :
  Sat E (inLp (lp Try.f27 1) J) ((fm D.fp (some ⟨0, 0, none⟩) (fun b => b ≤ min D.n 4)).st 1 ()) := by
 have hcl := within_range D.cl (show (1 : Int) ≤ 3 by decide)
 have hz : ztOK D (some ⟨0, 0, none⟩) := Or.inl rfl
 have hQ : ∀ b, b ≤ min D.n 4 → b ≤ 4 := fun b h => by omega
 have hfix : ∀ k, k < 64 → Ev.look [(73, 328), (75, 304)] k = k := by decide
 have hidx : (0 : Int) ≤ 1 ∧ (1 : Int) < Int.ofNat D.fp.n := ⟨by decide, by show (1 : Int) < ((D.n : Nat) : Int); omega⟩
 refine foB1 D.PV D.WD D.KD D.fp (fun b => b ≤ min D.n 4) (withinS D.cl 1 3 - 1) J hE (fm_ok ok hz _ hQ) ⟨rfl, ⟨(), (by show 2 ≤ min D.n 4; omega), (by show 4 - 2 < 4 - 1; decide), rfl, ?_⟩, FD.nodes ok (i := 1) (by decide), FD.read_ts D (i := 1) hn, hidx, rfl, ok.tc 1, by decide, by omega, by omega, i64_id rfl (by show -9223372036854775808 ≤ withinS D.cl 1 3 - 1; omega) (by show withinS D.cl 1 3 - 1 ≤ 9223372036854775807; omega), FD.read_tc D (i := 1) hn, hidx, congrArg Value.bool (decide_eq_true (by show (1 : Int) < ((D.n : Nat) : Int); omega)), trivial⟩ fun zz _ _ => hJ
 rw [hv_fix ok hz _ hfix]
 have hW : D.WD (D.fp.ts 1) D.fp.dim = D.fp.W 1 := FD.WD_ts ok (i := 1) (by decide)
 have hK : D.KD (D.fp.ts 1) D.fp.dim = D.fp.l 1 := FD.KD_ts ok (i := 1) (by decide)
 rw [hW, hK]
 rfl
theorem body2 {D : FD} (ok : D.OK) {E rv rhs rhv} (hE : EnvOK E Try.prog Try.f27 1 64 rv rhs rhv) (hn : 2 < min D.n 4) (J : Act → World → Prop) (hJ : Sat E (mkLp (lp Try.f27 1) J) ((fm D.fp (some ⟨0, 0, none⟩) (fun b => b ≤ min D.n 4)).st 3 ())) :
  Sat E (inLp (lp Try.f27 1) J) ((fm D.fp (some ⟨0, 0, none⟩) (fun b => b ≤ min D.n 4)).st 2 ()) := by
 have hcl := within_range D.cl (show (1 : Int) ≤ 3 by decide)
 have hz : ztOK D (some ⟨0, 0, none⟩) := Or.inl rfl
 have hQ : ∀ b, b ≤ min D.n 4 → b ≤ 4 := fun b h => by omega
 have hfix : ∀ k, k < 64 → Ev.look [(73, 328), (76, 304)] k = k := by decide
 have hidx : (0 : Int) ≤ 2 ∧ (2 : Int) < Int.ofNat D.fp.n := ⟨by decide, by show (2 : Int) < ((D.n : Nat) : Int); omega⟩
 refine foB2 D.PV D.WD D.KD D.fp (fun b => b ≤ min D.n 4) (withinS D.cl 1 3 - 1) J hE (fm_ok ok hz _ hQ) ⟨rfl, ⟨(), (by show 3 ≤ min D.n 4; omega), (by show 4 - 3 < 4 - 2; decide), rfl, ?_⟩, FD.nodes ok (i := 2) (by decide), FD.read_ts D (i := 2) hn, hidx, rfl, ok.tc 2, by decide, by omega, by omega, i64_id rfl (by show -9223372036854775808 ≤ withinS D.cl 1 3 - 1; omega) (by show withinS D.cl 1 3 - 1 ≤ 9223372036854775807; omega), FD.read_tc D (i := 2) hn, hidx, congrArg Value.bool (decide_eq_true (by show (2 : Int) < ((D.n : Nat) : Int); omega)), trivial⟩ fun zz _ _ => hJ
 rw [hv_fix ok hz _ hfix]
 have hW : D.WD (D.fp.ts 2) D.fp.dim = D.fp.W 2 := FD.WD_ts ok (i := 2) (by decide)
 have hK : D.KD (D.fp.ts 2) D.fp.dim = D.fp.l 2 := FD.KD_ts ok (i := 2) (by decide)
 rw [hW, hK]
 rfl
theorem body3 {D : FD} (ok : D.OK) {E rv rhs rhv} (hE : EnvOK E Try.prog Try.f27 1 64 rv rhs rhv) (hn : 3 < min D.n 4) (J : Act → World → Prop) (hJ : Sat E (mkLp (lp Try.f27 1) J) ((fm D.fp (some ⟨0, 0, none⟩) (fun b => b ≤ min D.n 4)).st 4 ())) :
  Sat E (inLp (lp Try.f27 1) J) ((fm D.fp (some ⟨0, 0, none⟩) (fun b => b ≤ min D.n 4)).st 3 ()) := by
 have hcl := within_range D.cl (show (1 : Int) ≤ 3 by decide)
 have hz : ztOK D (some ⟨0, 0, none⟩) := Or.inl rfl
 have hQ : ∀ b, b ≤ min D.n 4 → b ≤ 4 := fun b h => by omega
 have hfix : ∀ k, k < 64 → Ev.look [(73, 328), (77, 304)] k = k := by decide
 have hidx : (0 : Int) ≤ 3 ∧ (3 : Int) < Int.ofNat D.fp.n := ⟨by decide, by show (3 : Int) < ((D.n : Nat) : Int); omega⟩
 refine foB3 D.PV D.WD D.KD D.fp (fun b => b ≤ min D.n 4) (withinS D.cl 1 3 - 1) J hE (fm_ok ok hz _ hQ) ⟨rfl, ⟨(), (by show 4 ≤ min D.n 4; omega), (by show 4 - 4 < 4 - 3; decide), rfl, ?_⟩, FD.nodes ok (i := 3) (by decide), FD.read_ts D (i := 3) hn, hidx, rfl, ok.tc 3, by decide, by omega, by omega, i64_id rfl (by show -9223372036854775808 ≤ withinS D.cl 1 3 - 1; omega) (by show withinS D.cl 1 3 - 1 ≤ 9223372036854775807; omega), FD.read_tc D (i := 3) hn, hidx, congrArg Value.bool (decide_eq_true (by show (3 : Int) < ((D.n : Nat) : Int); omega)), trivial⟩ fun zz _ _ => hJ
 rw [hv_fix ok hz _ hfix]
 have hW : D.WD (D.fp.ts 3) D.fp.dim = D.fp.W 3 := FD.WD_ts ok (i := 3) (by decide)
 have hK : D.KD (D.fp.ts 3) D.fp.dim = D.fp.l 3 := FD.KD_ts ok (i := 3) (by decide)
 rw [hW, hK]
 rfl
theorem rnw (f : Nat → Nat) (l : List Int) : Blk.rnB f (.vec (eWord.row l) 83 1) = .vec (eWord.row l) 83 1 := Blk.plain.rnB (b := .vec (eWord.row l) 83 1) (Elt.row_pl _) f
theorem loop2 {D : FD} (ok : D.OK) {zt : Option Addr} (hz : ztOK D zt) {E : Env} (hE : EnvOK E Try.prog Try.f27 1 64 (D.fp.ret (min D.n 4)) (tns 100 (min D.n 4)) (D.fp.tbs 100 (min D.n 4))) : Sat E (atLp (lp Try.f27 1)) ((fm D.fp zt (fun b => b ≤ min D.n 4)).st 0 ()) := by
 refine by_loop (fm D.fp zt (fun b => b ≤ min D.n 4)) (lp Try.f27 1) (fun b u hinv J hJ => ?_) 0 () (Nat.zero_le _)
 have hinv : b ≤ min D.n 4 := hinv
 by_cases hb : b < min D.n 4
 ·obtain rfl : zt = some ⟨0, 0, none⟩ := by
   rcases hz with h | ⟨_, h⟩
   ·exact h
   ·omega
  have hJ' := hJ (b + 1) () (show b + 1 ≤ min D.n 4 by omega) (show 4 - (b + 1) < 4 - b by omega)
  match b, hb, hJ' with
  | 0, hb, hJ' => exact body0 ok hE hb J hJ'
  | 1, hb, hJ' => exact body1 ok hE hb J hJ'
  | 2, hb, hJ' => exact body2 ok hE hb J hJ'
  | 3, hb, hJ' => exact body3 ok hE hb J hJ'
  | b + 4, hb, _ => omega
 ·have hbe : b = min D.n 4 := by omega
  have hf : ∀ j : Nat, D.n = j → Value.bool (decide ((j : Int) < ((D.fp.n : Nat) : Int))) = .bool false := fun j h => congrArg _ (decide_eq_false (by show ¬ ((j : Int) < ((D.n : Nat) : Int)); omega))
  rw [← hbe] at hE
  clear hJ
  match b, hbe, hE with
  | 0, h, hE => exact foX0 D.PV D.WD D.KD D.fp zt _ J hE ⟨⟨rfl, rfl⟩, hf 0 (by omega), trivial⟩
  | 1, h, hE => exact foX1 D.PV D.WD D.KD D.fp zt _ J hE ⟨⟨rfl, by simp only [FP.tbs, FP.nds, List.nil_append, List.cons_append, List.map_cons, List.map_nil, rnw]; rfl⟩, hf 1 (by omega), trivial⟩
  | 2, h, hE => exact foX2 D.PV D.WD D.KD D.fp zt _ J hE ⟨⟨rfl, by simp only [FP.tbs, FP.nds, List.nil_append, List.cons_append, List.map_cons, List.map_nil, rnw]; rfl⟩, hf 2 (by omega), trivial⟩
  | 3, h, hE => exact foX3 D.PV D.WD D.KD D.fp zt _ J hE ⟨⟨rfl, by simp only [FP.tbs, FP.nds, List.nil_append, List.cons_append, List.map_cons, List.map_nil, rnw]; rfl⟩, hf 3 (by omega), trivial⟩
  | 4, h, hE =>
   by_cases h4 : D.n = 4
   ·exact foX4 D.PV D.WD D.KD D.fp zt _ J hE ⟨⟨rfl, by simp only [FP.tbs, FP.nds, List.nil_append, List.cons_append, List.map_cons, List.map_nil, rnw]; rfl⟩, hf 4 h4, trivial⟩
   ·exact foY4 D.PV D.WD D.KD D.fp zt _ J hE ⟨⟨rfl, by simp only [FP.tbs, FP.nds, List.nil_append, List.cons_append, List.map_cons, List.map_nil, rnw]; rfl⟩, congrArg _ (decide_eq_true (by show ((4 : Nat) : Int) < ((D.n : Nat) : Int); omega)), trivial⟩
  | b + 5, h, _ => omega
theorem model_spec {D : FD} (ok : D.OK) {zt : Option Addr} (hz : ztOK D zt) :
  CallSpec Try.prog 27 [.agg ⟨D.fp.fcs zt⟩] (roRows [D.fp.cs0, D.fp.R 1, D.fp.R 2, D.fp.R 3, D.fp.R 4, D.fp.R 5, D.fp.R 6, D.fp.R 7, D.fp.R 8, D.fp.R 9, D.fp.R 10, D.fp.R 11, D.fp.R 12, D.fp.R 13, D.fp.R 14, D.fp.R 15, D.fp.R 16, D.fp.R 17]) 64 (D.fp.ret (min D.n 4)) (assocN (tns 100 (min D.n 4)) (D.fp.tbs 100 (min D.n 4))) := by
 refine spec_of_sat Try.func27 rfl fun E hE => ?_
 have hcl := within_range D.cl (show (1 : Int) ≤ 3 by decide)
 have h3 : withinS D.cl 1 3 = 1 ∨ withinS D.cl 1 3 = 2 ∨ withinS D.cl 1 3 = 3 := by omega
 rcases h3 with hk | hk | hk
 ·have c1 : withinS D.cl 1 3 = 1 := hk
  have hb : ∀ i : Nat, i < 1 → D.bias i = withinS (pickI (D.rw 1).l i) (-500) 500 := fun i hi => if_pos (by rw [c1]; omega)
  have hb0 : ∀ i : Nat, 1 ≤ i → D.bias i = 0 := fun i hi => if_neg (by rw [c1]; omega)
  refine foIn1 D.PV D.WD D.KD D.fp zt (fun b => b ≤ min D.n 4) hE (fm_ok ok hz _ fun b h => by omega) ⟨rfl, ⟨(), Nat.zero_le _, trivial, rfl, ?_⟩, pick_i64 (FD.good64 ok 1) _, by decide, by decide, by decide, FD.pick ok (i := 0) (by decide), congrArg _ c1, ok.cl, by decide, by decide, by decide, rfl, ok.d, by decide, by decide, by decide, trivial⟩ fun zz _ _ => loop2 ok hz hE
  rw [hv_fix ok hz _ (by decide)]
  have e0 : D.fp.b0 = withinS (pickI (D.rw 1).l 0) (-500) 500 := hb 0 (by decide)
  have e1 : D.fp.b1 = 0 := hb0 1 (by decide)
  have e2 : D.fp.b2 = 0 := hb0 2 (by decide)
  have e3 : D.fp.cls = 1 := c1
  simp only [FP.mcs, e0, e1, e2, e3]
  rfl
 ·have c2 : withinS D.cl 1 3 = 2 := hk
  have hb : ∀ i : Nat, i < 2 → D.bias i = withinS (pickI (D.rw 1).l i) (-500) 500 := fun i hi => if_pos (by rw [c2]; omega)
  have hb0 : ∀ i : Nat, 2 ≤ i → D.bias i = 0 := fun i hi => if_neg (by rw [c2]; omega)
  refine foIn2 D.PV D.WD D.KD D.fp zt (fun b => b ≤ min D.n 4) hE (fm_ok ok hz _ fun b h => by omega) ⟨rfl, ⟨(), Nat.zero_le _, trivial, rfl, ?_⟩, pick_i64 (FD.good64 ok 1) _, by decide, by decide, by decide, FD.pick ok (i := 1) (by decide), pick_i64 (FD.good64 ok 1) _, by decide, by decide, by decide, FD.pick ok (i := 0) (by decide), congrArg _ c2, ok.cl, by decide, by decide, by decide, rfl, ok.d, by decide, by decide, by decide, trivial⟩ fun zz _ _ => loop2 ok hz hE
  rw [hv_fix ok hz _ (by decide)]
  have e0 : D.fp.b0 = withinS (pickI (D.rw 1).l 0) (-500) 500 := hb 0 (by decide)
  have e1 : D.fp.b1 = withinS (pickI (D.rw 1).l 1) (-500) 500 := hb 1 (by decide)
  have e2 : D.fp.b2 = 0 := hb0 2 (by decide)
  have e3 : D.fp.cls = 2 := c2
  simp only [FP.mcs, e0, e1, e2, e3]
  rfl
 ·have c3 : withinS D.cl 1 3 = 3 := hk
  have hb : ∀ i : Nat, i < 3 → D.bias i = withinS (pickI (D.rw 1).l i) (-500) 500 := fun i hi => if_pos (by rw [c3]; omega)
  have hb0 : ∀ i : Nat, 3 ≤ i → D.bias i = 0 := fun i hi => if_neg (by rw [c3]; omega)
  refine foIn3 D.PV D.WD D.KD D.fp zt (fun b => b ≤ min D.n 4) hE (fm_ok ok hz _ fun b h => by omega) ⟨rfl, ⟨(), Nat.zero_le _, trivial, rfl, ?_⟩, pick_i64 (FD.good64 ok 1) _, by decide, by decide, by decide, FD.pick ok (i := 2) (by decide), pick_i64 (FD.good64 ok 1) _, by decide, by decide, by decide, FD.pick ok (i := 1) (by decide), pick_i64 (FD.good64 ok 1) _, by decide, by decide, by decide, FD.pick ok (i := 0) (by decide), congrArg _ c3, ok.cl, by decide, by decide, by decide, rfl, ok.d, by decide, by decide, by decide, trivial⟩ fun zz _ _ => loop2 ok hz hE
  rw [hv_fix ok hz _ (by decide)]
  have e0 : D.fp.b0 = withinS (pickI (D.rw 1).l 0) (-500) 500 := hb 0 (by decide)
  have e1 : D.fp.b1 = withinS (pickI (D.rw 1).l 1) (-500) 500 := hb 1 (by decide)
  have e2 : D.fp.b2 = withinS (pickI (D.rw 1).l 2) (-500) 500 := hb 2 (by decide)
  have e3 : D.fp.cls = 3 := c3
  simp only [FP.mcs, e0, e1, e2, e3]
  rfl
end Go.Proofs.Ythbaccmhdffjdaa.Fo
namespace Go.Proofs.Ythbaccmhdffjdaa.Fo
open Go Go.RowKit Ev NodeE Within PickE Tn Fo
def FP.nus (p : FP) (q : Nat) : Nat → List (Nat × Option Blk)
 | 0 => []
 | b + 1 => p.nus q b ++ [(q + b, some (.vec (eWord.row (p.W b)) 83 1))]
def FP.mus (p : FP) (nm : Nat) : Nat → List (Nat × Option Blk)
 | 0 => []
 | b + 1 => (nm, some (.vec (p.tcs (nm + 1) (b + 1)) 47 2)) :: p.nus (nm + 1) (b + 1)
def FD.rowc (D : FD) : Nat → List Value
 | 0 => D.fp.cs0
 | k + 1 => D.fp.R (k + 1)
def ModOK (p : FP) (K : Nat) (xs : List Value) (vw : List (Option Blk)) : Prop :=
 ∃ (D : FD) (zt : Option Addr), D.OK ∧ ztOK D zt ∧ xs = [.agg ⟨D.fp.fcs zt⟩] ∧ p = D.fp ∧ K = min D.n 4 ∧ ∀ k, k < 18 → ∃ b, vw.getD k none = some b ∧ b.row = some (D.rowc k)
def model_F (p : FP) (K : Nat) : List Value → Heap → Nat → Option Res := fun xs H nm =>
 some ⟨.agg ⟨p.mcs nm K⟩, p.mus nm K, [0, 1, 2, 3, 4, 5, 6, 7, 8, 9, 10, 11, 12, 13, 14, 15, 16, 17], [ModOK p K xs [H 0, H 1, H 2, H 3, H 4, H 5, H 6, H 7, H 8, H 9, H 10, H 11, H 12, H 13, H 14, H 15, H 16, H 17]]⟩
theorem vw18_get (H : Heap) {k : Nat} (hk : k < 18) : ([H 0, H 1, H 2, H 3, H 4, H 5, H 6, H 7, H 8, H 9, H 10, H 11, H 12, H 13, H 14, H 15, H 16, H 17] : List (Option Blk)).getD k none = H k := by
 match k, hk with
 | 0, _ | 1, _ | 2, _ | 3, _ | 4, _ | 5, _ | 6, _ | 7, _ | 8, _ | 9, _ | 10, _ | 11, _ | 12, _ | 13, _ | 14, _ | 15, _ | 16, _ | 17, _ => rfl
 | k + 18, h => omega
theorem look_idP : ∀ (L : List Nat) (k : Nat), Ev.look (idP L) k = k
 | [], k => rfl
 | a :: L, k => by
  simp only [idP, Ev.look]
  cases h : Nat.beq k a
  ·exact look_idP L k
  ·exact (Nat.eq_of_beq_eq_true h).symm
theorem rows_get (D : FD) {k : Nat} (hk : k < 18) : roRows [D.fp.cs0, D.fp.R 1, D.fp.R 2, D.fp.R 3, D.fp.R 4, D.fp.R 5, D.fp.R 6, D.fp.R 7, D.fp.R 8, D.fp.R 9, D.fp.R 10, D.fp.R 11, D.fp.R 12, D.fp.R 13, D.fp.R 14, D.fp.R 15, D.fp.R 16, D.fp.R 17] k = some (.ro (D.rowc k)) := by
 match k, hk with
 | 0, _ | 1, _ | 2, _ | 3, _ | 4, _ | 5, _ | 6, _ | 7, _ | 8, _ | 9, _ | 10, _ | 11, _ | 12, _ | 13, _ | 14, _ | 15, _ | 16, _ | 17, _ => rfl
 | k + 18, h => omega
theorem rows_lt (D : FD) {k : Nat} {b : Blk} (h : roRows [D.fp.cs0, D.fp.R 1, D.fp.R 2, D.fp.R 3, D.fp.R 4, D.fp.R 5, D.fp.R 6, D.fp.R 7, D.fp.R 8, D.fp.R 9, D.fp.R 10, D.fp.R 11, D.fp.R 12, D.fp.R 13, D.fp.R 14, D.fp.R 15, D.fp.R 16, D.fp.R 17] k = some b) : k < 18 := by
 apply Classical.byContradiction
 intro hk
 have : ([D.fp.cs0, D.fp.R 1, D.fp.R 2, D.fp.R 3, D.fp.R 4, D.fp.R 5, D.fp.R 6, D.fp.R 7, D.fp.R 8, D.fp.R 9, D.fp.R 10, D.fp.R 11, D.fp.R 12, D.fp.R 13, D.fp.R 14, D.fp.R 15, D.fp.R 16, D.fp.R 17] : List (List Value))[k]? = none := List.getElem?_eq_none (by simpa using hk)
 unfold roRows at h
 rw [this] at h
 simp at h
theorem z1_nm {D : FD} (ok : D.OK) {m c : Nat} : ∀ j ∈ nm0 (.slice (D.z 1) m c), j = 1 := by
 intro j hj
 unfold FD.z Rw.wz at hj
 rw [ok.a1] at hj
 cases h : (D.rw 1).z <;> rw [h] at hj <;> simp [nm0] at hj
 exact hj
def FD.hn (D : FD) : List Nat := (List.range' 18 46).filter fun k => decide (k ∈ nmL nm0 D.fp.cs0)
def FD.L (D : FD) : List Nat := [0, 1, 2, 3, 4, 5, 6, 7, 8, 9, 10, 11, 12, 13, 14, 15, 16, 17] ++ D.hn
theorem mem18 {D : FD} {k : Nat} (h : k < 18) : k ∈ D.L := by
 refine List.mem_append_left _ ?_
 match k, h with
 | 0, _ | 1, _ | 2, _ | 3, _ | 4, _ | 5, _ | 6, _ | 7, _ | 8, _ | 9, _ | 10, _ | 11, _ | 12, _ | 13, _ | 14, _ | 15, _ | 16, _ | 17, _ => simp
 | k + 18, h => omega
theorem memL {D : FD} (ok : D.OK) {k : Nat} (h : k ∈ nmL nm0 D.fp.cs0) : k ∈ D.L := by
 by_cases h18 : k < 18
 ·exact mem18 h18
 ·obtain ⟨c, hc, hk⟩ := mem_nmL' h
  have h64 := FD.cs_nm ok (min D.n 4) (by omega) c hc k hk
  refine List.mem_append_right _ (List.mem_filter.2 ⟨?_, by simpa using h⟩)
  rw [List.mem_range'_1]
  omega
theorem ltL {D : FD} {k : Nat} (h : k ∈ D.L) : k < 64 ∧ (k < 18 ∨ k ∈ nmL nm0 D.fp.cs0) := by
 rcases List.mem_append.1 h with h | h
 ·have : ∀ k ∈ [0, 1, 2, 3, 4, 5, 6, 7, 8, 9, 10, 11, 12, 13, 14, 15, 16, 17], k < 18 := by decide
  have := this k h
  omega
 ·obtain ⟨h1, h2⟩ := List.mem_filter.1 h
  rw [List.mem_range'_1] at h1
  exact ⟨by omega, Or.inr (by simpa using h2)⟩
theorem nodupL (D : FD) {ns : List Nat} (h : ns.Nodup) (hn : ∀ k ∈ ns, 64 ≤ k) : (D.L ++ ns).Nodup := by
 rw [List.nodup_append]
 refine ⟨?_, h, fun a ha b hb => ?_⟩
 ·unfold FD.L
  rw [List.nodup_append]
  refine ⟨by decide, List.Nodup.sublist List.filter_sublist (List.nodup_range' ..), fun a ha b hb => ?_⟩
  have : ∀ k ∈ [0, 1, 2, 3, 4, 5, 6, 7, 8, 9, 10, 11, 12, 13, 14, 15, 16, 17], k < 18 := by decide
  have := this a ha
  obtain ⟨h1, h2⟩ := List.mem_filter.1 hb
  rw [List.mem_range'_1] at h1
  omega
 ·have := (ltL ha).1
  have := hn b hb
  omega
theorem look_app {P : List (Nat × Nat)} : ∀ {L : List Nat} {k : Nat}, k ∉ L → Ev.look (idP L ++ P) k = Ev.look P k
 | [], k, _ => rfl
 | a :: L, k, h => by
  simp only [List.mem_cons, not_or] at h
  show (bif Nat.beq k a then a else Ev.look (idP L ++ P) k) = _
  rw [show Nat.beq k a = false from by cases e : Nat.beq k a; · rfl
                                       ·exact absurd (Nat.eq_of_beq_eq_true e) h.1, look_app h.2]
  rfl
theorem look_new {D : FD} {P : List (Nat × Nat)} {k : Nat} (h : 64 ≤ k) : Ev.look (idP D.L ++ P) k = Ev.look P k := look_app fun h' => by have := (ltL h').1; omega
theorem row_nmB {b : Blk} {cs : List Value} (h : b.row = some cs) : b.nmB = nmL nm0 cs := by
 cases b <;> simp only [Blk.row, Option.some.injEq, reduceCtorEq] at h <;> subst h <;> rfl
theorem rowc_nm {D : FD} (ok : D.OK) (k : Nat) : ∀ c ∈ D.rowc k, ∀ i ∈ nm0 c, i ∈ D.L ∧ i < 64 := by
 intro c hc i hi
 cases k with
 | zero =>
  have := memL ok (mem_nmL hc hi)
  exact ⟨this, (ltL this).1⟩
 | succ k =>
  have hpl : ∀ c ∈ (D.rw (k + 1)).cs, leafG c = true := by
   cases hz : (D.rw (k + 1)).z with
   | false => rw [ok.none _ hz]; intro c hc; simp at hc
   | true => exact (ok.good _ hz).2.2
  rw [nm0_leafG (hpl c hc)] at hi
  simp at hi
theorem fcs_nm {D : FD} (ok : D.OK) {zt : Option Addr} (hz : ztOK D zt) : ∀ c ∈ D.fp.fcs zt, ∀ i ∈ nm0 c, i < 18 := by
 intro c hc k hk
 simp only [FP.fcs, List.mem_cons, List.not_mem_nil, or_false] at hc
 rcases hc with rfl | rfl | rfl | rfl
 ·simp [nm0] at hk
 ·simp [nm0] at hk
 ·have := z1_nm ok k hk; omega
 ·rcases hz with rfl | ⟨rfl, _⟩
  ·simp [nm0] at hk; omega
  ·simp [nm0] at hk
theorem tcs_rn (p : FP) (f : Nat → Nat) (q q' : Nat) : ∀ b, (∀ i, i < b → f (q + i) = q' + i) → mapL (rn0 f) (p.tcs q b) = p.tcs q' b := by
 have ha : ∀ a b : List Value, mapL (rn0 f) (a ++ b) = mapL (rn0 f) a ++ mapL (rn0 f) b := by
  intro a b
  induction a with
  | nil => rfl
  | cons v a ih => simp only [List.cons_append, mapL, ih]
 intro b
 induction b with
 | zero => intro _; rfl
 | succ b ih =>
  intro h
  simp only [FP.tcs, ha, ih fun i hi => h i (by omega), mapL, rn0, rnA, h b (by omega)]
theorem gs0 {D : FD} (ok : D.OK) {zt : Option Addr} (hz : ztOK D zt) (hK : min D.n 4 = 0) (H : Heap) (nm : Nat) (hvw : ∀ k, k < 18 → ∃ b, H k = some b ∧ b.row = some (D.rowc k)) (ob : List Prop) :
  Nonempty (GS Try.prog 27 [.agg ⟨D.fp.fcs zt⟩] H nm ⟨.agg ⟨D.fp.mcs nm 0⟩, D.fp.mus nm 0, [0, 1, 2, 3, 4, 5, 6, 7, 8, 9, 10, 11, 12, 13, 14, 15, 16, 17], ob⟩) := by
 have hspec := model_spec ok hz
 rw [hK] at hspec
 exact ⟨⟨[.agg ⟨D.fp.fcs zt⟩], roRows [D.fp.cs0, D.fp.R 1, D.fp.R 2, D.fp.R 3, D.fp.R 4, D.fp.R 5, D.fp.R 6, D.fp.R 7, D.fp.R 8, D.fp.R 9, D.fp.R 10, D.fp.R 11, D.fp.R 12, D.fp.R 13, D.fp.R 14, D.fp.R 15, D.fp.R 16, D.fp.R 17], 64, D.fp.ret 0, assocN (tns 100 0) (D.fp.tbs 100 0), idP D.L, toP (tns 100 0) nm, hspec, (by rw [List.map_append, idP_fst, toP_fst]; exact nodupL D (ns := []) (by decide) (by decide)), toP_snd _ _, fun j k h => by
  obtain ⟨rfl, hk⟩ := idP_mem.1 h
  refine ⟨(ltL hk).1, fun b0 hb0 => ?_⟩
  have hk := rows_lt D hb0
  rw [rows_get D hk] at hb0
  obtain ⟨b, h1, h2⟩ := hvw j hk
  exact ⟨b, D.rowc j, h1, by rw [h2, mapL_fix fun c _ i _ => look_idP _ i], (Option.some.inj hb0).symm, fun c hc i hi => ⟨i, idP_mem.2 ⟨rfl, (rowc_nm ok j c hc i hi).1⟩⟩⟩,
 fun j k h => by
  obtain ⟨rfl, hk⟩ := idP_mem.1 h
  rcases (ltL hk).2 with h | h
  ·obtain ⟨b, h1, _⟩ := hvw j h
   exact Or.inl ⟨b, h1⟩
  ·obtain ⟨b, h1, h2⟩ := hvw 0 (by decide)
   exact Or.inr (Or.inr ⟨0, b, h1, by rw [row_nmB h2]; exact h⟩),
 fun j b hb => ⟨j, idP_mem.2 ⟨rfl, mem18 (rows_lt D hb)⟩⟩,
 fun m k h => by simp [tns, toP] at h,
 fun j hj => by
  simp [FP.ret, nms, nm1, FP.mcs, nmL, nm0, tsl] at hj,
 fun u hu j hj => by
  simp only [List.mem_cons, List.not_mem_nil, or_false] at hu
  subst hu
  obtain ⟨c, hc, hj⟩ := mem_nmL' (f := nm0) (show j ∈ nmL nm0 (D.fp.fcs zt) from hj)
  exact ⟨j, idP_mem.2 ⟨rfl, mem18 (fcs_nm ok hz c hc j hj)⟩⟩,
 (by
  show _ = [Value.agg ⟨mapL (rn0 (Ev.look (idP D.L))) (D.fp.fcs zt)⟩]
  rw [mapL_fix fun c _ i _ => look_idP _ i]),
 rfl,
 rfl⟩⟩
theorem gs1 {D : FD} (ok : D.OK) {zt : Option Addr} (hz : ztOK D zt) (hK : min D.n 4 = 1) (H : Heap) (nm : Nat) (hvw : ∀ k, k < 18 → ∃ b, H k = some b ∧ b.row = some (D.rowc k)) (ob : List Prop) :
  Nonempty (GS Try.prog 27 [.agg ⟨D.fp.fcs zt⟩] H nm ⟨.agg ⟨D.fp.mcs nm 1⟩, D.fp.mus nm 1, [0, 1, 2, 3, 4, 5, 6, 7, 8, 9, 10, 11, 12, 13, 14, 15, 16, 17], ob⟩) := by
 have hspec := model_spec ok hz
 rw [hK] at hspec
 exact ⟨⟨[.agg ⟨D.fp.fcs zt⟩], roRows [D.fp.cs0, D.fp.R 1, D.fp.R 2, D.fp.R 3, D.fp.R 4, D.fp.R 5, D.fp.R 6, D.fp.R 7, D.fp.R 8, D.fp.R 9, D.fp.R 10, D.fp.R 11, D.fp.R 12, D.fp.R 13, D.fp.R 14, D.fp.R 15, D.fp.R 16, D.fp.R 17], 64, D.fp.ret 1, assocN (tns 100 1) (D.fp.tbs 100 1), idP D.L, toP (tns 100 1) nm, hspec, (by rw [List.map_append, idP_fst, toP_fst]; exact nodupL D (ns := [100, 101]) (by decide) (by decide)), toP_snd _ _, fun j k h => by
  obtain ⟨rfl, hk⟩ := idP_mem.1 h
  refine ⟨(ltL hk).1, fun b0 hb0 => ?_⟩
  have hk := rows_lt D hb0
  rw [rows_get D hk] at hb0
  obtain ⟨b, h1, h2⟩ := hvw j hk
  exact ⟨b, D.rowc j, h1, by rw [h2, mapL_fix fun c _ i _ => look_idP _ i], (Option.some.inj hb0).symm, fun c hc i hi => ⟨i, idP_mem.2 ⟨rfl, (rowc_nm ok j c hc i hi).1⟩⟩⟩,
 fun j k h => by
  obtain ⟨rfl, hk⟩ := idP_mem.1 h
  rcases (ltL hk).2 with h | h
  ·obtain ⟨b, h1, _⟩ := hvw j h
   exact Or.inl ⟨b, h1⟩
  ·obtain ⟨b, h1, h2⟩ := hvw 0 (by decide)
   exact Or.inr (Or.inr ⟨0, b, h1, by rw [row_nmB h2]; exact h⟩),
 fun j b hb => ⟨j, idP_mem.2 ⟨rfl, mem18 (rows_lt D hb)⟩⟩,
 fun m k h => by
  have h : (m, k) ∈ ([(100, nm), (101, nm + 1)] : List (Nat × Nat)) := h
  simp only [List.mem_cons, List.not_mem_nil, or_false, Prod.mk.injEq] at h
  rcases h with ⟨rfl, he⟩ | ⟨rfl, he⟩
  ·rw [he]
   refine ⟨⟨by omega, by omega⟩, _, rfl, rfl, trivial, fun cs hcs c hc j hj => ?_⟩
   obtain rfl : D.fp.tcs 101 1 = cs := Option.some.inj hcs
   have := tcs_names D.fp 101 1 c hc j hj
   have h5 : j = 101 := by omega
   rcases h5 with rfl
   ·exact ⟨nm + 1, List.mem_append_right _ (by show (101, nm + 1) ∈ ([(100, nm), (101, nm + 1)] : List (Nat × Nat)); simp)⟩
  ·rw [he]
   refine ⟨⟨by omega, by omega⟩, _, rfl, rfl, trivial, fun cs hcs c hc j hj => ?_⟩
   obtain rfl : eWord.row (D.fp.W 0) = cs := Option.some.inj hcs
   rw [nm0_leafG (Elt.row_pl _ c hc)] at hj
   simp at hj,
 fun j hj => by
  simp only [FP.ret, nms, nm1, FP.mcs, nmL, nm0, tsl, List.append_nil, List.nil_append, List.mem_cons, List.not_mem_nil, or_false] at hj
  subst hj; exact ⟨nm, List.mem_append_right _ (by simp [tns, toP])⟩,
 fun u hu j hj => by
  simp only [List.mem_cons, List.not_mem_nil, or_false] at hu
  subst hu
  obtain ⟨c, hc, hj⟩ := mem_nmL' (f := nm0) (show j ∈ nmL nm0 (D.fp.fcs zt) from hj)
  exact ⟨j, idP_mem.2 ⟨rfl, mem18 (fcs_nm ok hz c hc j hj)⟩⟩,
 (by
  show _ = [Value.agg ⟨mapL (rn0 (Ev.look (idP D.L))) (D.fp.fcs zt)⟩]
  rw [mapL_fix fun c _ i _ => look_idP _ i]),
 by
  show Value.agg ⟨D.fp.mcs nm 1⟩ = .agg ⟨[_, _, _, _, _, .slice (some ⟨(Ev.look (idP D.L ++ toP (tns 100 1) nm)) 100, 0, none⟩) 1 mk]⟩
  rw [show (Ev.look (idP D.L ++ toP (tns 100 1) nm)) 100 = nm from look_new (by decide)]
  rfl,
 by
  show _ = [(nm, some (Blk.rnB (Ev.look (idP D.L ++ toP (tns 100 1) nm)) (.vec (D.fp.tcs 101 1) 47 2))), (nm + 1, some (Blk.rnB (Ev.look (idP D.L ++ toP (tns 100 1) nm)) (.vec (eWord.row (D.fp.W 0)) 83 1)))]
  rw [show Blk.rnB (Ev.look (idP D.L ++ toP (tns 100 1) nm)) (.vec (D.fp.tcs 101 1) 47 2) = .vec (D.fp.tcs (nm + 1) 1) 47 2 from congrArg (fun c => Blk.vec c 47 2) (tcs_rn _ _ _ _ _ fun i hi => ?_)]
  ·simp only [rnw]
   rfl
  ·have h5 : i = 0 := by omega
   rcases h5 with rfl <;> exact look_new (by decide)⟩⟩
theorem gs2 {D : FD} (ok : D.OK) {zt : Option Addr} (hz : ztOK D zt) (hK : min D.n 4 = 2) (H : Heap) (nm : Nat) (hvw : ∀ k, k < 18 → ∃ b, H k = some b ∧ b.row = some (D.rowc k)) (ob : List Prop) :
  Nonempty (GS Try.prog 27 [.agg ⟨D.fp.fcs zt⟩] H nm ⟨.agg ⟨D.fp.mcs nm 2⟩, D.fp.mus nm 2, [0, 1, 2, 3, 4, 5, 6, 7, 8, 9, 10, 11, 12, 13, 14, 15, 16, 17], ob⟩) := by
 have hspec := model_spec ok hz
 rw [hK] at hspec
 exact ⟨⟨[.agg ⟨D.fp.fcs zt⟩], roRows [D.fp.cs0, D.fp.R 1, D.fp.R 2, D.fp.R 3, D.fp.R 4, D.fp.R 5, D.fp.R 6, D.fp.R 7, D.fp.R 8, D.fp.R 9, D.fp.R 10, D.fp.R 11, D.fp.R 12, D.fp.R 13, D.fp.R 14, D.fp.R 15, D.fp.R 16, D.fp.R 17], 64, D.fp.ret 2, assocN (tns 100 2) (D.fp.tbs 100 2), idP D.L, toP (tns 100 2) nm, hspec, (by rw [List.map_append, idP_fst, toP_fst]; exact nodupL D (ns := [100, 101, 102]) (by decide) (by decide)), toP_snd _ _, fun j k h => by
  obtain ⟨rfl, hk⟩ := idP_mem.1 h
  refine ⟨(ltL hk).1, fun b0 hb0 => ?_⟩
  have hk := rows_lt D hb0
  rw [rows_get D hk] at hb0
  obtain ⟨b, h1, h2⟩ := hvw j hk
  exact ⟨b, D.rowc j, h1, by rw [h2, mapL_fix fun c _ i _ => look_idP _ i], (Option.some.inj hb0).symm, fun c hc i hi => ⟨i, idP_mem.2 ⟨rfl, (rowc_nm ok j c hc i hi).1⟩⟩⟩,
 fun j k h => by
  obtain ⟨rfl, hk⟩ := idP_mem.1 h
  rcases (ltL hk).2 with h | h
  ·obtain ⟨b, h1, _⟩ := hvw j h
   exact Or.inl ⟨b, h1⟩
  ·obtain ⟨b, h1, h2⟩ := hvw 0 (by decide)
   exact Or.inr (Or.inr ⟨0, b, h1, by rw [row_nmB h2]; exact h⟩),
 fun j b hb => ⟨j, idP_mem.2 ⟨rfl, mem18 (rows_lt D hb)⟩⟩,
 fun m k h => by
  have h : (m, k) ∈ ([(100, nm), (101, nm + 1), (102, nm + 2)] : List (Nat × Nat)) := h
  simp only [List.mem_cons, List.not_mem_nil, or_false, Prod.mk.injEq] at h
  rcases h with ⟨rfl, he⟩ | ⟨rfl, he⟩ | ⟨rfl, he⟩
  ·rw [he]
   refine ⟨⟨by omega, by omega⟩, _, rfl, rfl, trivial, fun cs hcs c hc j hj => ?_⟩
   obtain rfl : D.fp.tcs 101 2 = cs := Option.some.inj hcs
   have := tcs_names D.fp 101 2 c hc j hj
   have h5 : j = 101 ∨ j = 102 := by omega
   rcases h5 with rfl | rfl
   ·exact ⟨nm + 1, List.mem_append_right _ (by show (101, nm + 1) ∈ ([(100, nm), (101, nm + 1), (102, nm + 2)] : List (Nat × Nat)); simp)⟩
   ·exact ⟨nm + 2, List.mem_append_right _ (by show (102, nm + 2) ∈ ([(100, nm), (101, nm + 1), (102, nm + 2)] : List (Nat × Nat)); simp)⟩
  ·rw [he]
   refine ⟨⟨by omega, by omega⟩, _, rfl, rfl, trivial, fun cs hcs c hc j hj => ?_⟩
   obtain rfl : eWord.row (D.fp.W 0) = cs := Option.some.inj hcs
   rw [nm0_leafG (Elt.row_pl _ c hc)] at hj
   simp at hj
  ·rw [he]
   refine ⟨⟨by omega, by omega⟩, _, rfl, rfl, trivial, fun cs hcs c hc j hj => ?_⟩
   obtain rfl : eWord.row (D.fp.W 1) = cs := Option.some.inj hcs
   rw [nm0_leafG (Elt.row_pl _ c hc)] at hj
   simp at hj,
 fun j hj => by
  simp only [FP.ret, nms, nm1, FP.mcs, nmL, nm0, tsl, List.append_nil, List.nil_append, List.mem_cons, List.not_mem_nil, or_false] at hj
  subst hj; exact ⟨nm, List.mem_append_right _ (by simp [tns, toP])⟩,
 fun u hu j hj => by
  simp only [List.mem_cons, List.not_mem_nil, or_false] at hu
  subst hu
  obtain ⟨c, hc, hj⟩ := mem_nmL' (f := nm0) (show j ∈ nmL nm0 (D.fp.fcs zt) from hj)
  exact ⟨j, idP_mem.2 ⟨rfl, mem18 (fcs_nm ok hz c hc j hj)⟩⟩,
 (by
  show _ = [Value.agg ⟨mapL (rn0 (Ev.look (idP D.L))) (D.fp.fcs zt)⟩]
  rw [mapL_fix fun c _ i _ => look_idP _ i]),
 by
  show Value.agg ⟨D.fp.mcs nm 2⟩ = .agg ⟨[_, _, _, _, _, .slice (some ⟨(Ev.look (idP D.L ++ toP (tns 100 2) nm)) 100, 0, none⟩) 2 mk]⟩
  rw [show (Ev.look (idP D.L ++ toP (tns 100 2) nm)) 100 = nm from look_new (by decide)]
  rfl,
 by
  show _ = [(nm, some (Blk.rnB (Ev.look (idP D.L ++ toP (tns 100 2) nm)) (.vec (D.fp.tcs 101 2) 47 2))), (nm + 1, some (Blk.rnB (Ev.look (idP D.L ++ toP (tns 100 2) nm)) (.vec (eWord.row (D.fp.W 0)) 83 1))), (nm + 1 + 1, some (Blk.rnB (Ev.look (idP D.L ++ toP (tns 100 2) nm)) (.vec (eWord.row (D.fp.W 1)) 83 1)))]
  rw [show Blk.rnB (Ev.look (idP D.L ++ toP (tns 100 2) nm)) (.vec (D.fp.tcs 101 2) 47 2) = .vec (D.fp.tcs (nm + 1) 2) 47 2 from congrArg (fun c => Blk.vec c 47 2) (tcs_rn _ _ _ _ _ fun i hi => ?_)]
  ·simp only [rnw]
   rfl
  ·have h5 : i = 0 ∨ i = 1 := by omega
   rcases h5 with rfl | rfl <;> exact look_new (by decide)⟩⟩
theorem gs3 {D : FD} (ok : D.OK) {zt : Option Addr} (hz : ztOK D zt) (hK : min D.n 4 = 3) (H : Heap) (nm : Nat) (hvw : ∀ k, k < 18 → ∃ b, H k = some b ∧ b.row = some (D.rowc k)) (ob : List Prop) :
  Nonempty (GS Try.prog 27 [.agg ⟨D.fp.fcs zt⟩] H nm ⟨.agg ⟨D.fp.mcs nm 3⟩, D.fp.mus nm 3, [0, 1, 2, 3, 4, 5, 6, 7, 8, 9, 10, 11, 12, 13, 14, 15, 16, 17], ob⟩) := by
 have hspec := model_spec ok hz
 rw [hK] at hspec
 exact ⟨⟨[.agg ⟨D.fp.fcs zt⟩], roRows [D.fp.cs0, D.fp.R 1, D.fp.R 2, D.fp.R 3, D.fp.R 4, D.fp.R 5, D.fp.R 6, D.fp.R 7, D.fp.R 8, D.fp.R 9, D.fp.R 10, D.fp.R 11, D.fp.R 12, D.fp.R 13, D.fp.R 14, D.fp.R 15, D.fp.R 16, D.fp.R 17], 64, D.fp.ret 3, assocN (tns 100 3) (D.fp.tbs 100 3), idP D.L, toP (tns 100 3) nm, hspec, (by rw [List.map_append, idP_fst, toP_fst]; exact nodupL D (ns := [100, 101, 102, 103]) (by decide) (by decide)), toP_snd _ _, fun j k h => by
  obtain ⟨rfl, hk⟩ := idP_mem.1 h
  refine ⟨(ltL hk).1, fun b0 hb0 => ?_⟩
  have hk := rows_lt D hb0
  rw [rows_get D hk] at hb0
  obtain ⟨b, h1, h2⟩ := hvw j hk
  exact ⟨b, D.rowc j, h1, by rw [h2, mapL_fix fun c _ i _ => look_idP _ i], (Option.some.inj hb0).symm, fun c hc i hi => ⟨i, idP_mem.2 ⟨rfl, (rowc_nm ok j c hc i hi).1⟩⟩⟩,
 fun j k h => by
  obtain ⟨rfl, hk⟩ := idP_mem.1 h
  rcases (ltL hk).2 with h | h
  ·obtain ⟨b, h1, _⟩ := hvw j h
   exact Or.inl ⟨b, h1⟩
  ·obtain ⟨b, h1, h2⟩ := hvw 0 (by decide)
   exact Or.inr (Or.inr ⟨0, b, h1, by rw [row_nmB h2]; exact h⟩),
 fun j b hb => ⟨j, idP_mem.2 ⟨rfl, mem18 (rows_lt D hb)⟩⟩,
 fun m k h => by
  have h : (m, k) ∈ ([(100, nm), (101, nm + 1), (102, nm + 2), (103, nm + 3)] : List (Nat × Nat)) := h
  simp only [List.mem_cons, List.not_mem_nil, or_false, Prod.mk.injEq] at h
  rcases h with ⟨rfl, he⟩ | ⟨rfl, he⟩ | ⟨rfl, he⟩ | ⟨rfl, he⟩
  ·rw [he]
   refine ⟨⟨by omega, by omega⟩, _, rfl, rfl, trivial, fun cs hcs c hc j hj => ?_⟩
   obtain rfl : D.fp.tcs 101 3 = cs := Option.some.inj hcs
   have := tcs_names D.fp 101 3 c hc j hj
   have h5 : j = 101 ∨ j = 102 ∨ j = 103 := by omega
   rcases h5 with rfl | rfl | rfl
   ·exact ⟨nm + 1, List.mem_append_right _ (by show (101, nm + 1) ∈ ([(100, nm), (101, nm + 1), (102, nm + 2), (103, nm + 3)] : List (Nat × Nat)); simp)⟩
   ·exact ⟨nm + 2, List.mem_append_right _ (by show (102, nm + 2) ∈ ([(100, nm), (101, nm + 1), (102, nm + 2), (103, nm + 3)] : List (Nat × Nat)); simp)⟩
   ·exact ⟨nm + 3, List.mem_append_right _ (by show (103, nm + 3) ∈ ([(100, nm), (101, nm + 1), (102, nm + 2), (103, nm + 3)] : List (Nat × Nat)); simp)⟩
  ·rw [he]
   refine ⟨⟨by omega, by omega⟩, _, rfl, rfl, trivial, fun cs hcs c hc j hj => ?_⟩
   obtain rfl : eWord.row (D.fp.W 0) = cs := Option.some.inj hcs
   rw [nm0_leafG (Elt.row_pl _ c hc)] at hj
   simp at hj
  ·rw [he]
   refine ⟨⟨by omega, by omega⟩, _, rfl, rfl, trivial, fun cs hcs c hc j hj => ?_⟩
   obtain rfl : eWord.row (D.fp.W 1) = cs := Option.some.inj hcs
   rw [nm0_leafG (Elt.row_pl _ c hc)] at hj
   simp at hj
  ·rw [he]
   refine ⟨⟨by omega, by omega⟩, _, rfl, rfl, trivial, fun cs hcs c hc j hj => ?_⟩
   obtain rfl : eWord.row (D.fp.W 2) = cs := Option.some.inj hcs
   rw [nm0_leafG (Elt.row_pl _ c hc)] at hj
   simp at hj,
 fun j hj => by
  simp only [FP.ret, nms, nm1, FP.mcs, nmL, nm0, tsl, List.append_nil, List.nil_append, List.mem_cons, List.not_mem_nil, or_false] at hj
  subst hj; exact ⟨nm, List.mem_append_right _ (by simp [tns, toP])⟩,
 fun u hu j hj => by
  simp only [List.mem_cons, List.not_mem_nil, or_false] at hu
  subst hu
  obtain ⟨c, hc, hj⟩ := mem_nmL' (f := nm0) (show j ∈ nmL nm0 (D.fp.fcs zt) from hj)
  exact ⟨j, idP_mem.2 ⟨rfl, mem18 (fcs_nm ok hz c hc j hj)⟩⟩,
 (by
  show _ = [Value.agg ⟨mapL (rn0 (Ev.look (idP D.L))) (D.fp.fcs zt)⟩]
  rw [mapL_fix fun c _ i _ => look_idP _ i]),
 by
  show Value.agg ⟨D.fp.mcs nm 3⟩ = .agg ⟨[_, _, _, _, _, .slice (some ⟨(Ev.look (idP D.L ++ toP (tns 100 3) nm)) 100, 0, none⟩) 3 mk]⟩
  rw [show (Ev.look (idP D.L ++ toP (tns 100 3) nm)) 100 = nm from look_new (by decide)]
  rfl,
 by
  show _ = [(nm, some (Blk.rnB (Ev.look (idP D.L ++ toP (tns 100 3) nm)) (.vec (D.fp.tcs 101 3) 47 2))), (nm + 1, some (Blk.rnB (Ev.look (idP D.L ++ toP (tns 100 3) nm)) (.vec (eWord.row (D.fp.W 0)) 83 1))), (nm + 1 + 1, some (Blk.rnB (Ev.look (idP D.L ++ toP (tns 100 3) nm)) (.vec (eWord.row (D.fp.W 1)) 83 1))), (nm + 1 + 1 + 1, some (Blk.rnB (Ev.look (idP D.L ++ toP (tns 100 3) nm)) (.vec (eWord.row (D.fp.W 2)) 83 1)))]
  rw [show Blk.rnB (Ev.look (idP D.L ++ toP (tns 100 3) nm)) (.vec (D.fp.tcs 101 3) 47 2) = .vec (D.fp.tcs (nm + 1) 3) 47 2 from congrArg (fun c => Blk.vec c 47 2) (tcs_rn _ _ _ _ _ fun i hi => ?_)]
  ·simp only [rnw]
   rfl
  ·have h5 : i = 0 ∨ i = 1 ∨ i = 2 := by omega
   rcases h5 with rfl | rfl | rfl <;> exact look_new (by decide)⟩⟩
theorem gs4 {D : FD} (ok : D.OK) {zt : Option Addr} (hz : ztOK D zt) (hK : min D.n 4 = 4) (H : Heap) (nm : Nat) (hvw : ∀ k, k < 18 → ∃ b, H k = some b ∧ b.row = some (D.rowc k)) (ob : List Prop) :
  Nonempty (GS Try.prog 27 [.agg ⟨D.fp.fcs zt⟩] H nm ⟨.agg ⟨D.fp.mcs nm 4⟩, D.fp.mus nm 4, [0, 1, 2, 3, 4, 5, 6, 7, 8, 9, 10, 11, 12, 13, 14, 15, 16, 17], ob⟩) := by
 have hspec := model_spec ok hz
 rw [hK] at hspec
 exact ⟨⟨[.agg ⟨D.fp.fcs zt⟩], roRows [D.fp.cs0, D.fp.R 1, D.fp.R 2, D.fp.R 3, D.fp.R 4, D.fp.R 5, D.fp.R 6, D.fp.R 7, D.fp.R 8, D.fp.R 9, D.fp.R 10, D.fp.R 11, D.fp.R 12, D.fp.R 13, D.fp.R 14, D.fp.R 15, D.fp.R 16, D.fp.R 17], 64, D.fp.ret 4, assocN (tns 100 4) (D.fp.tbs 100 4), idP D.L, toP (tns 100 4) nm, hspec, (by rw [List.map_append, idP_fst, toP_fst]; exact nodupL D (ns := [100, 101, 102, 103, 104]) (by decide) (by decide)), toP_snd _ _, fun j k h => by
  obtain ⟨rfl, hk⟩ := idP_mem.1 h
  refine ⟨(ltL hk).1, fun b0 hb0 => ?_⟩
  have hk := rows_lt D hb0
  rw [rows_get D hk] at hb0
  obtain ⟨b, h1, h2⟩ := hvw j hk
  exact ⟨b, D.rowc j, h1, by rw [h2, mapL_fix fun c _ i _ => look_idP _ i], (Option.some.inj hb0).symm, fun c hc i hi => ⟨i, idP_mem.2 ⟨rfl, (rowc_nm ok j c hc i hi).1⟩⟩⟩,
 fun j k h => by
  obtain ⟨rfl, hk⟩ := idP_mem.1 h
  rcases (ltL hk).2 with h | h
  ·obtain ⟨b, h1, _⟩ := hvw j h
   exact Or.inl ⟨b, h1⟩
  ·obtain ⟨b, h1, h2⟩ := hvw 0 (by decide)
   exact Or.inr (Or.inr ⟨0, b, h1, by rw [row_nmB h2]; exact h⟩),
 fun j b hb => ⟨j, idP_mem.2 ⟨rfl, mem18 (rows_lt D hb)⟩⟩,
 fun m k h => by
  have h : (m, k) ∈ ([(100, nm), (101, nm + 1), (102, nm + 2), (103, nm + 3), (104, nm + 4)] : List (Nat × Nat)) := h
  simp only [List.mem_cons, List.not_mem_nil, or_false, Prod.mk.injEq] at h
  rcases h with ⟨rfl, he⟩ | ⟨rfl, he⟩ | ⟨rfl, he⟩ | ⟨rfl, he⟩ | ⟨rfl, he⟩
  ·rw [he]
   refine ⟨⟨by omega, by omega⟩, _, rfl, rfl, trivial, fun cs hcs c hc j hj => ?_⟩
   obtain rfl : D.fp.tcs 101 4 = cs := Option.some.inj hcs
   have := tcs_names D.fp 101 4 c hc j hj
   have h5 : j = 101 ∨ j = 102 ∨ j = 103 ∨ j = 104 := by omega
   rcases h5 with rfl | rfl | rfl | rfl
   ·exact ⟨nm + 1, List.mem_append_right _ (by show (101, nm + 1) ∈ ([(100, nm), (101, nm + 1), (102, nm + 2), (103, nm + 3), (104, nm + 4)] : List (Nat × Nat)); simp)⟩
   ·exact ⟨nm + 2, List.mem_append_right _ (by show (102, nm + 2) ∈ ([(100, nm), (101, nm + 1), (102, nm + 2), (103, nm + 3), (104, nm + 4)] : List (Nat × Nat)); simp)⟩
   ·exact ⟨nm + 3, List.mem_append_right _ (by show (103, nm + 3) ∈ ([(100, nm), (101, nm + 1), (102, nm + 2), (103, nm + 3), (104, nm + 4)] : List (Nat × Nat)); simp)⟩
   ·exact ⟨nm + 4, List.mem_append_right _ (by show (104, nm + 4) ∈ ([(100, nm), (101, nm + 1), (102, nm + 2), (103, nm + 3), (104, nm + 4)] : List (Nat × Nat)); simp)⟩
  ·rw [he]
   refine ⟨⟨by omega, by omega⟩, _, rfl, rfl, trivial, fun cs hcs c hc j hj => ?_⟩
   obtain rfl : eWord.row (D.fp.W 0) = cs := Option.some.inj hcs
   rw [nm0_leafG (Elt.row_pl _ c hc)] at hj
   simp at hj
  ·rw [he]
   refine ⟨⟨by omega, by omega⟩, _, rfl, rfl, trivial, fun cs hcs c hc j hj => ?_⟩
   obtain rfl : eWord.row (D.fp.W 1) = cs := Option.some.inj hcs
   rw [nm0_leafG (Elt.row_pl _ c hc)] at hj
   simp at hj
  ·rw [he]
   refine ⟨⟨by omega, by omega⟩, _, rfl, rfl, trivial, fun cs hcs c hc j hj => ?_⟩
   obtain rfl : eWord.row (D.fp.W 2) = cs := Option.some.inj hcs
   rw [nm0_leafG (Elt.row_pl _ c hc)] at hj
   simp at hj
  ·rw [he]
   refine ⟨⟨by omega, by omega⟩, _, rfl, rfl, trivial, fun cs hcs c hc j hj => ?_⟩
   obtain rfl : eWord.row (D.fp.W 3) = cs := Option.some.inj hcs
   rw [nm0_leafG (Elt.row_pl _ c hc)] at hj
   simp at hj,
 fun j hj => by
  simp only [FP.ret, nms, nm1, FP.mcs, nmL, nm0, tsl, List.append_nil, List.nil_append, List.mem_cons, List.not_mem_nil, or_false] at hj
  subst hj; exact ⟨nm, List.mem_append_right _ (by simp [tns, toP])⟩,
 fun u hu j hj => by
  simp only [List.mem_cons, List.not_mem_nil, or_false] at hu
  subst hu
  obtain ⟨c, hc, hj⟩ := mem_nmL' (f := nm0) (show j ∈ nmL nm0 (D.fp.fcs zt) from hj)
  exact ⟨j, idP_mem.2 ⟨rfl, mem18 (fcs_nm ok hz c hc j hj)⟩⟩,
 (by
  show _ = [Value.agg ⟨mapL (rn0 (Ev.look (idP D.L))) (D.fp.fcs zt)⟩]
  rw [mapL_fix fun c _ i _ => look_idP _ i]),
 by
  show Value.agg ⟨D.fp.mcs nm 4⟩ = .agg ⟨[_, _, _, _, _, .slice (some ⟨(Ev.look (idP D.L ++ toP (tns 100 4) nm)) 100, 0, none⟩) 4 mk]⟩
  rw [show (Ev.look (idP D.L ++ toP (tns 100 4) nm)) 100 = nm from look_new (by decide)]
  rfl,
 by
  show _ = [(nm, some (Blk.rnB (Ev.look (idP D.L ++ toP (tns 100 4) nm)) (.vec (D.fp.tcs 101 4) 47 2))), (nm + 1, some (Blk.rnB (Ev.look (idP D.L ++ toP (tns 100 4) nm)) (.vec (eWord.row (D.fp.W 0)) 83 1))), (nm + 1 + 1, some (Blk.rnB (Ev.look (idP D.L ++ toP (tns 100 4) nm)) (.vec (eWord.row (D.fp.W 1)) 83 1))), (nm + 1 + 1 + 1, some (Blk.rnB (Ev.look (idP D.L ++ toP (tns 100 4) nm)) (.vec (eWord.row (D.fp.W 2)) 83 1))), (nm + 1 + 1 + 1 + 1, some (Blk.rnB (Ev.look (idP D.L ++ toP (tns 100 4) nm)) (.vec (eWord.row (D.fp.W 3)) 83 1)))]
  rw [show Blk.rnB (Ev.look (idP D.L ++ toP (tns 100 4) nm)) (.vec (D.fp.tcs 101 4) 47 2) = .vec (D.fp.tcs (nm + 1) 4) 47 2 from congrArg (fun c => Blk.vec c 47 2) (tcs_rn _ _ _ _ _ fun i hi => ?_)]
  ·simp only [rnw]
   rfl
  ·have h5 : i = 0 ∨ i = 1 ∨ i = 2 ∨ i = 3 := by omega
   rcases h5 with rfl | rfl | rfl | rfl <;> exact look_new (by decide)⟩⟩
theorem model_sum (p : FP) (K : Nat) : SumOK Try.prog 27 (model_F p K) := by
 refine gen_sum (en Try.func27 rfl) (fun xs H nm r h hob => ?_) (fun xs H nm r h H' hH => ?_)
 ·unfold model_F at h
  simp only [Option.some.injEq] at h
  subst h
  obtain ⟨D, zt, ok, hz, rfl, rfl, hK, hvw⟩ := hob _ (List.mem_cons_self ..)
  have hvw : ∀ k, k < 18 → ∃ b, H k = some b ∧ b.row = some (D.rowc k) := fun k hk => by
   have := hvw k hk
   rw [vw18_get H hk] at this
   exact this
  have h5 : K = 0 ∨ K = 1 ∨ K = 2 ∨ K = 3 ∨ K = 4 := by omega
  rcases h5 with rfl | rfl | rfl | rfl | rfl
  ·exact gs0 ok hz hK.symm H nm hvw _
  ·exact gs1 ok hz hK.symm H nm hvw _
  ·exact gs2 ok hz hK.symm H nm hvw _
  ·exact gs3 ok hz hK.symm H nm hvw _
  ·exact gs4 ok hz hK.symm H nm hvw _
 ·unfold model_F at h ⊢
  simp only [Option.some.injEq] at h
  subst h
  have hq := fun k (hk : k ∈ [0, 1, 2, 3, 4, 5, 6, 7, 8, 9, 10, 11, 12, 13, 14, 15, 16, 17]) => hH k hk
  simp only [hq 0 (by simp), hq 1 (by simp), hq 2 (by simp), hq 3 (by simp), hq 4 (by simp), hq 5 (by simp), hq 6 (by simp), hq 7 (by simp), hq 8 (by simp), hq 9 (by simp), hq 10 (by simp), hq 11 (by simp), hq 12 (by simp), hq 13 (by simp), hq 14 (by simp), hq 15 (by simp), hq 16 (by simp), hq 17 (by simp)]
noncomputable def t_rg (PV : Value → Int → Int) : Sums := upd t_bring 44 (some (pickD_F 0 PV))
theorem t_rg_ok (PV : Value → Int → Int) : SumsOK Try.prog (t_rg PV) := sums_cons t_bring_ok (pickD_sum 0 PV)
end Go.Proofs.Ythbaccmhdffjdaa.Fo
namespace Go.Proofs.Ythbaccmhdffjdaa.Tr
open Go Go.RowKit Ev NodeE
structure Pt where
 p0 : Int
 p1 : Int
 p2 : Int
 p3 : Int
def Pt.cs (p : Pt) : List Value := [.int .i64 p.p0, .int .i64 p.p1, .int .i64 p.p2, .int .i64 p.p3]
def Pt.at (p : Pt) (f : Int) : Int := bif f == 0 then p.p0 else bif f == 1 then p.p1 else bif f == 2 then p.p2 else p.p3
def goes (p : Pt) (w : Int) : Int := bif decide (p.at (uF w) ≤ low32 w) then uX w else uY w
def goW (ws : List Int) (p : Pt) : Nat → Nat → Option Nat
 | 0, _ => none
 | k + 1, a => match ws[a]? with
  | none => none
  | some w => bif okB w then bif lfB w then some a else goW ws p k (goes p w).toNat else none
def walkI (ws : List Int) (p : Pt) : Int := match goW ws p 31 0 with
 | some a => a
 | none => -1
def endV (ws : List Int) (p : Pt) : Int := match goW ws p 31 0 with
 | some a => low32 (ws.getD a 0)
 | none => 0
def endL (ws : List Int) (p : Pt) : Bool := match goW ws p 31 0 with
 | some _ => true
 | none => false
theorem end_some {ws : List Int} {p : Pt} {a : Nat} (h : goW ws p 31 0 = some a) : walkI ws p = a ∧ endV ws p = low32 (ws.getD a 0) ∧ endL ws p = true := by
 simp only [walkI, endV, endL, h]; exact ⟨trivial, trivial, trivial⟩
theorem goW_step {ws : List Int} {p : Pt} {k a : Nat} {w : Int} (hw : ws[a]? = some w) (ho : okB w = true) (hl : lfB w = false) : goW ws p (k + 1) a = goW ws p k (goes p w).toNat := by
 simp only [goW, hw, ho, hl, cond_true, cond_false]
theorem goW_leaf {ws : List Int} {p : Pt} {k a : Nat} {w : Int} (hw : ws[a]? = some w) (ho : okB w = true) (hl : lfB w = true) : goW ws p (k + 1) a = some a := by
 simp only [goW, hw, ho, hl, cond_true]
theorem goW_bad {ws : List Int} {p : Pt} {k a : Nat} {w : Int} (hw : ws[a]? = some w) (ho : okB w = false) : goW ws p (k + 1) a = none := by
 simp only [goW, hw, ho, cond_false]
theorem goW_is {ws : List Int} {p : Pt} : ∀ {k b a : Nat}, goW ws p k b = some a → ∃ w, ws[a]? = some w ∧ okB w = true ∧ lfB w = true
 | 0, b, a, h => by simp [goW] at h
 | k + 1, b, a, h => by
  cases hw : ws[b]? with
  | none => simp only [goW, hw] at h; exact absurd h (by simp)
  | some w =>
   cases ho : okB w with
   | false => rw [goW_bad hw ho] at h; exact absurd h (by simp)
   | true =>
    cases hl : lfB w with
    | false => rw [goW_step hw ho hl] at h; exact goW_is h
    | true => rw [goW_leaf hw ho hl] at h; injection h with h; subst h; exact ⟨w, hw, ho, hl⟩
theorem inner_bounds {w : Int} (h : okB w = true) (hl : lfB w = false) : (0 ≤ uF w ∧ uF w < 4) ∧ (1 ≤ uX w ∧ uX w < 31) ∧ (1 ≤ uY w ∧ uY w < 31) := by
 have hp : pkB w = w := by
  simp only [okB, Bool.and_eq_true, beq_iff_eq] at h
  exact h.2
 have hz : w ≠ 0 := by
  simp only [okB, Bool.and_eq_true, Bool.not_eq_true', beq_eq_false_iff_ne] at h
  exact h.1
 simp only [pkB, hl, cond_false] at hp
 cases hr : rightB false 0 (uF w) (low32 w) (uX w) (uY w)
 ·rw [pack_no hr] at hp
  exact absurd hp.symm hz
 ·obtain ⟨_, f0, f1, _, ⟨x0, x1⟩, y0, y1⟩ := right_inner hr
  exact ⟨⟨f0, f1⟩, ⟨x0, x1⟩, y0, y1⟩
def namesW (w : Int) : List Int := bif lfB w then [] else [uX w, uY w]
def goodW (dim : Int) (n i : Nat) (w : Int) : Bool := okB w && (lfB w || !(decide (dim ≤ uF w) || (uX w == uY w || (decide (uX w ≤ i) || (decide (uY w ≤ i) || (decide ((n : Int) ≤ uX w) || decide ((n : Int) ≤ uY w)))))))
def allGood (dim : Int) (n : Nat) : Nat → List Int → Bool
 | _, [] => true
 | i, w :: ws => goodW dim n i w && allGood dim n (i + 1) ws
def named (ws : List Int) (k : Int) : Nat := (ws.flatMap namesW).count k
def onceI (ws : List Int) (n : Nat) : Bool := (List.range n).all fun k => k == 0 || named ws (k : Int) == 1
def rightI (ws : List Int) (dim : Int) : Bool := decide (1 ≤ ws.length) && (decide (ws.length ≤ 31) && (allGood dim ws.length 0 ws && onceI ws ws.length))
theorem named_snoc (ws : List Int) (w k : Int) : named (ws ++ [w]) k = named ws k + (namesW w).count k := by
 simp [named, List.flatMap_append, List.count_append]
theorem named_nil (k : Int) : named [] k = 0 := rfl
theorem allGood_get {dim : Int} {n : Nat} : ∀ {ws : List Int} {i : Nat}, allGood dim n i ws = true → ∀ (j : Nat) (w : Int), ws[j]? = some w → goodW dim n (i + j) w = true
 | w :: ws, i, h, 0, v, hv => by
  simp only [allGood, Bool.and_eq_true] at h
  simp at hv; subst hv; exact h.1
 | w :: ws, i, h, j + 1, v, hv => by
  simp only [allGood, Bool.and_eq_true] at h
  have := allGood_get h.2 j v (by simpa using hv)
  rw [show i + (j + 1) = i + 1 + j by omega]; exact this
theorem allGood_of {dim : Int} {n : Nat} : ∀ {ws : List Int} {i : Nat}, (∀ (j : Nat) (w : Int), ws[j]? = some w → goodW dim n (i + j) w = true) → allGood dim n i ws = true
 | [], _, _ => rfl
 | w :: ws, i, h => by
  simp only [allGood, Bool.and_eq_true]
  refine ⟨h 0 w rfl, allGood_of fun j v hv => ?_⟩
  have := h (j + 1) v (by simpa using hv)
  rw [show i + 1 + j = i + (j + 1) by omega]; exact this
theorem good_leaf {dim : Int} {n i : Nat} {w : Int} (ho : okB w = true) (hl : lfB w = true) : goodW dim n i w = true := by simp [goodW, ho, hl]
theorem good_inner {dim : Int} {n i : Nat} {w : Int} (h : goodW dim n i w = true) (hl : lfB w = false) : okB w = true ∧ uF w < dim ∧ uX w ≠ uY w ∧ (i : Int) < uX w ∧ (i : Int) < uY w ∧ uX w < n ∧ uY w < n := by
 simp [goodW, hl] at h
 obtain ⟨h0, h1, h2, h3, h4, h5, h6⟩ := h
 exact ⟨h0, h1, h2, h3, h4, h5, h6⟩
theorem good_mk {dim : Int} {n i : Nat} {w : Int} (hl : lfB w = false) (h0 : okB w = true) (h1 : uF w < dim) (h2 : uX w ≠ uY w) (h3 : (i : Int) < uX w) (h4 : (i : Int) < uY w) (h5 : uX w < n) (h6 : uY w < n) : goodW dim n i w = true := by
 simp [goodW, hl]
 exact ⟨h0, h1, h2, h3, h4, h5, h6⟩
theorem right_parts {ws : List Int} {dim : Int} : rightI ws dim = true ↔ (1 ≤ ws.length ∧ ws.length ≤ 31) ∧ (∀ (j : Nat) (w : Int), ws[j]? = some w → goodW dim ws.length j w = true) ∧ ∀ k : Nat, 1 ≤ k → k < ws.length → named ws (k : Int) = 1 := by
 simp only [rightI, Bool.and_eq_true, decide_eq_true_eq, onceI, List.all_eq_true, List.mem_range, Bool.or_eq_true, beq_iff_eq]
 constructor
 ·rintro ⟨h1, h2, h3, h4⟩
  refine ⟨⟨h1, h2⟩, fun j w hw => by have := allGood_get h3 j w hw; rwa [Nat.zero_add] at this, fun k hk hn => ?_⟩
  rcases h4 k hn with h | h
  ·omega
  ·exact h
 ·rintro ⟨⟨h1, h2⟩, h3, h4⟩
  refine ⟨h1, h2, allGood_of fun j w hw => by rw [Nat.zero_add]; exact h3 j w hw, fun k hk => ?_⟩
  by_cases h0 : k = 0
  ·exact Or.inl h0
  ·exact Or.inr (h4 k (by omega) hk)
theorem right_len {ws : List Int} {dim : Int} (h : ¬ (1 ≤ ws.length ∧ ws.length ≤ 31)) : rightI ws dim = false := by
 cases hr : rightI ws dim
 ·rfl
 ·exact absurd (right_parts.1 hr).1 h
theorem right_bad {ws : List Int} {dim : Int} {j : Nat} {w : Int} (hw : ws[j]? = some w) (h : goodW dim ws.length j w = false) : rightI ws dim = false := by
 cases hr : rightI ws dim
 ·rfl
 ·have := (right_parts.1 hr).2.1 j w hw
  rw [h] at this; exact absurd this (by simp)
theorem right_once {ws : List Int} {dim : Int} {k : Nat} (h1 : 1 ≤ k) (h2 : k < ws.length) (h : named ws (k : Int) ≠ 1) : rightI ws dim = false := by
 cases hr : rightI ws dim
 ·rfl
 ·exact absurd ((right_parts.1 hr).2.2 k h1 h2) h
end Go.Proofs.Ythbaccmhdffjdaa.Tr
namespace Go.Proofs.Ythbaccmhdffjdaa.Tr
open Go Go.RowKit Ev NodeE
theorem nd_pl (l : Bool) (v f a x y : Int) : ∀ q ∈ [Value.bool l, .int .i64 v, .int .i64 f, .int .i64 a, .int .i64 x, .int .i64 y], leafG q = true := by
 intro q hq
 simp at hq
 rcases hq with rfl | rfl | rfl | rfl | rfl | rfl <;> rfl
def fRt (cs : List Value) (o n c : Nat) (dim : Int) (Q : Nat × List Int → Prop) : LoopF (Nat × List Int) where
 ts _ := [0, 1, 5, 23, 24, 25]
 hs _ := [0, 10]
 tv _ := fun ⟨i, r⟩ => [.slice (some ⟨0, o, none⟩) n c, .int .i64 dim, .slice (some ⟨10, 0, none⟩) n n, .slice (some ⟨0, o, none⟩) n c, .int .i64 (n : Int), .int .i64 (i : Int)]
 hv _ := fun ⟨i, r⟩ => [.ro cs, .cells (eInt.row r) 3]
 inv _ := Q
 mu _ := fun ⟨i, r⟩ => n - i
 nx := 12
theorem fRt_ok (cs : List Value) (o n c : Nat) (dim : Int) (Q : Nat × List Int → Prop) (hpl : ∀ x ∈ cs, leafG x = true) : (fRt cs o n c dim Q).OK 1 := by
 refine ⟨(by decide : 1 ≤ 12), fun z i h k hk => ?_, fun z i h v hv k hk => ?_, fun z i h x hx => ?_⟩
 ·show k < 12
  simp [fRt] at hk; omega
 ·show k < 12
  simp [fRt] at hv
  rcases hv with rfl | rfl | rfl | rfl | rfl | rfl <;> simp [nms, nm1, nm0] at hk <;> omega
 ·simp [fRt] at hx
  rcases hx with rfl | rfl
  ·exact Blk.plain.namesLt (b := .ro cs) hpl _
  ·exact Blk.plain.namesLt (b := .cells _ 3) (Elt.row_pl _) _
def fRn (m q : Nat) (r : List Int) (Q : Nat → Prop) : LoopF Nat where
 ts _ := [85, 86, 87]
 hs _ := [10]
 tv _ := fun i => [.slice (some ⟨10, q, none⟩) m m, .int .i64 (m : Int), .int .i64 (i : Int)]
 hv _ := fun i => [.cells (eInt.row r) 3]
 inv _ := Q
 mu _ := fun i => m - i
 nx := 12
theorem fRn_ok (m q : Nat) (r : List Int) (Q : Nat → Prop) : (fRn m q r Q).OK 1 := by
 refine ⟨(by decide : 1 ≤ 12), fun z i h k hk => ?_, fun z i h v hv k hk => ?_, fun z i h x hx => ?_⟩
 ·show k < 12
  simp [fRn] at hk; omega
 ·show k < 12
  simp [fRn] at hv
  rcases hv with rfl | rfl | rfl <;> simp [nms, nm1, nm0] at hk <;> omega
 ·simp [fRn] at hx
  subst hx
  exact Blk.plain.namesLt (b := .cells _ 3) (Elt.row_pl _) _
end Go.Proofs.Ythbaccmhdffjdaa.Tr
namespace Go.Proofs.Ythbaccmhdffjdaa.Tr
open Go Go.RowKit Ev NodeE Tr
theorem rtNil (dim : Int)  {E : Env} (hE : EnvOK E Try.prog Try.f42 2 0 (.bool false) [] []) (hob : all ([Back (Value.bool false) (Value.bool false) [] [] []])) : Sat E [.code (bodyOf Try.f42)] (st0 Try.f42 [.slice none 0 0, .int .i64 dim] (roRows []) 0) :=
 by_ret (T := auto0 t_runpack) (h := hints []) (ws := []) (nx' := 0) hE hm (auto0_ok t_runpack_ok) (by omega) (by simp) (by simp) (by kernel_rfl) hob
theorem rtShort (cs : List Value) (o n c : Nat) (dim : Int)  {E : Env} (hE : EnvOK E Try.prog Try.f42 2 1 (.bool false) [] []) (hob : all ([Back (Value.bool false) (Value.bool false) [] [] [], Value.bool (decide ((↑n : Int) < 1)) = .bool true])) : Sat E [.code (bodyOf Try.f42)] (st0 Try.f42 [.slice (some ⟨0, o, none⟩) n c, .int .i64 dim] (roRows [cs]) 1) :=
 by_ret (T := auto0 t_runpack) (h := hints [(1, 2, ht true)]) (ws := []) (nx' := 1) hE hm (auto0_ok t_runpack_ok) (by omega) (by simp) (by simp) (by kernel_rfl) hob
theorem rtLong (cs : List Value) (o n c : Nat) (dim : Int)  {E : Env} (hE : EnvOK E Try.prog Try.f42 2 1 (.bool false) [] []) (hob : all ([Back (Value.bool false) (Value.bool false) [] [] [], Value.bool (decide ((↑n : Int) > 31)) = .bool true, Value.bool (decide ((↑n : Int) < 1)) = .bool false])) : Sat E [.code (bodyOf Try.f42)] (st0 Try.f42 [.slice (some ⟨0, o, none⟩) n c, .int .i64 dim] (roRows [cs]) 1) :=
 by_ret (T := auto0 t_runpack) (h := hints [(1, 2, ht false), (1, 6, ht true)]) (ws := []) (nx' := 1) hE hm (auto0_ok t_runpack_ok) (by omega) (by simp) (by simp) (by kernel_rfl) hob
theorem rtIn (cs : List Value) (o n c : Nat) (dim : Int) (Q : Nat × List Int → Prop) (r : List Int)  {E rv rhs rhv} (hE : EnvOK E Try.prog Try.f42 2 1 rv rhs rhv) (hL : (fRt cs o n c dim Q).OK 1) (hob : all ([SameK (atLp (lp Try.f42 0)) (atLp (lp Try.f42 0)), Enter (fRt cs o n c dim Q) 0 none [.slice (some (Addr.mk 0 o none)) n c, .int .i64 dim, .slice (some (Addr.mk 89 0 none)) ((n : Int)).toNat ((n : Int)).toNat, .slice (some (Addr.mk 0 o none)) n c, .int .i64 ((n : Int)), .int .i64 ((0 : Int))] [Blk.ro cs, Blk.cells (eInt.row r) 3] [(0, 0), (10, 89), (0, 0)], MkOK ((n : Int)) ((n : Int)) 8 [.int .i64 ((0 : Int))] (eInt.row r), Value.bool (decide ((↑n : Int) > 31)) = .bool false, Value.bool (decide ((↑n : Int) < 1)) = .bool false])) (hK : ∀ zz, (fRt cs o n c dim Q).inv 0 zz → ltO ((fRt cs o n c dim Q).mu 0 zz) none → Sat E (atLp (lp Try.f42 0)) ((fRt cs o n c dim Q).st 0 zz)) : Sat E [.code (bodyOf Try.f42)] (st0 Try.f42 [.slice (some ⟨0, o, none⟩) n c, .int .i64 dim] (roRows [cs]) 1) :=
 by_to (T := auto0 t_runpack) (h := hints [(1, 2, ht false), (1, 6, ht false), (3, 2, {c := some (eInt.row r)})]) (ws := [.go, .stop]) (i0 := (0, r)) hE hm (auto0_ok t_runpack_ok) hL (by kernel_rfl) hob hK
theorem rtN (cs : List Value) (o n c : Nat) (dim : Int) (Q : Nat × List Int → Prop) (i : Nat) (r : List Int) (w : Int) (J : _) {E : Env} (hE : EnvOK E Try.prog Try.f42 2 1 (.bool false) [] []) (hob : all ([Back (Value.bool false) (Value.bool false) [] [] [], Value.tuple (Array.mk [.agg (Array.mk [.bool (okB w && lfB w), .int .i64 (sV w), .int .i64 (sF w), .int .i64 (sA w), .int .i64 (sX w), .int .i64 (sY w)]), .bool (okB w)]) = Value.tuple (Array.mk [.agg (Array.mk [.bool false, .int .i64 ((0 : Int)), .int .i64 ((0 : Int)), .int .i64 ((0 : Int)), .int .i64 ((0 : Int)), .int .i64 ((0 : Int))]), .bool false]), U64 w, readPart Try.prog 83 cs (o + ((i : Int)).toNat * 1) = some (Value.int IntKind.u64 w), (0 : Int) ≤ (i : Int) ∧ (i : Int) < (n : Int), decide ((↑i : Int) < (↑n : Int)) = true])) : Sat E (inLp (lp Try.f42 0) J) ((fRt cs o n c dim Q).st 0 (i, r)) :=
 by_ret (T := auto0 t_runpack) (h := hints [(6, 1, {p := true}), (6, 2, {o := some (.int .u64 w)}), (7, 1, {v := some (.tuple ⟨[nd false 0 0 0 0 0, .bool false]⟩)})]) (ws := [.b true]) (nx' := 1) hE hm (auto0_ok t_runpack_ok) (by omega) (by simp) (by simp) (by kernel_rfl) hob
theorem rtF (cs : List Value) (o n c : Nat) (dim : Int) (Q : Nat × List Int → Prop) (i : Nat) (r : List Int) (w v : Int) (J : _) {E rv rhs rhv} (hE : EnvOK E Try.prog Try.f42 2 1 rv rhs rhv) (hL : (fRt cs o n c dim Q).OK 1) (hob : all ([SameK (mkLp (lp Try.f42 0) J) (mkLp (lp Try.f42 0) J), Enter (fRt cs o n c dim Q) 0 (some (n - i)) [.slice (some (Addr.mk 0 o none)) n c, .int .i64 dim, .slice (some (Addr.mk 10 0 none)) n n, .slice (some (Addr.mk 0 o none)) n c, .int .i64 ((n : Int)), .int .i64 (Int.ofNat i.succ)] [Blk.ro cs, Blk.cells (eInt.row r) 3] [(0, 0), (10, 10), (0, 0)], Value.int IntKind.i64 (IntKind.i64.wrap (Int.ofNat i.succ)) = .int .i64 (Int.ofNat i.succ), Value.tuple (Array.mk [.agg (Array.mk [.bool (okB w && lfB w), .int .i64 (sV w), .int .i64 (sF w), .int .i64 (sA w), .int .i64 (sX w), .int .i64 (sY w)]), .bool (okB w)]) = Value.tuple (Array.mk [.agg (Array.mk [.bool true, .int .i64 v, .int .i64 ((0 : Int)), .int .i64 ((0 : Int)), .int .i64 ((0 : Int)), .int .i64 ((0 : Int))]), .bool true]), U64 w, readPart Try.prog 83 cs (o + ((i : Int)).toNat * 1) = some (Value.int IntKind.u64 w), (0 : Int) ≤ (i : Int) ∧ (i : Int) < (n : Int), decide ((↑i : Int) < (↑n : Int)) = true])) (hK : ∀ zz, (fRt cs o n c dim Q).inv 0 zz → ltO ((fRt cs o n c dim Q).mu 0 zz) (some (n - i)) → Sat E (mkLp (lp Try.f42 0) J) ((fRt cs o n c dim Q).st 0 zz)) : Sat E (inLp (lp Try.f42 0) J) ((fRt cs o n c dim Q).st 0 (i, r)) :=
 by_to (T := auto0 t_runpack) (h := hints [(6, 1, {p := true}), (6, 2, {o := some (.int .u64 w)}), (7, 1, {v := some (.tuple ⟨[nd true v 0 0 0 0, .bool true]⟩)}), (15, 0, {v := some (.int .i64 ((i + 1 : Nat) : Int))})]) (ws := [.b true]) (i0 := (i + 1, r)) hE hm (auto0_ok t_runpack_ok) hL (by kernel_rfl) hob hK
theorem rtD (cs : List Value) (o n c : Nat) (dim : Int) (Q : Nat × List Int → Prop) (i : Nat) (r : List Int) (w f a x y : Int) (J : _) {E : Env} (hE : EnvOK E Try.prog Try.f42 2 1 (.bool false) [] []) (hob : all ([Back (Value.bool false) (Value.bool false) [] [] [], Value.bool (decide (f ≥ dim)) = .bool true, Value.tuple (Array.mk [.agg (Array.mk [.bool (okB w && lfB w), .int .i64 (sV w), .int .i64 (sF w), .int .i64 (sA w), .int .i64 (sX w), .int .i64 (sY w)]), .bool (okB w)]) = Value.tuple (Array.mk [.agg (Array.mk [.bool false, .int .i64 ((0 : Int)), .int .i64 f, .int .i64 a, .int .i64 x, .int .i64 y]), .bool true]), U64 w, readPart Try.prog 83 cs (o + ((i : Int)).toNat * 1) = some (Value.int IntKind.u64 w), (0 : Int) ≤ (i : Int) ∧ (i : Int) < (n : Int), decide ((↑i : Int) < (↑n : Int)) = true])) : Sat E (inLp (lp Try.f42 0) J) ((fRt cs o n c dim Q).st 0 (i, r)) :=
 by_ret (T := auto0 t_runpack) (h := hints [(6, 1, {p := true}), (6, 2, {o := some (.int .u64 w)}), (7, 1, {v := some (.tuple ⟨[nd false 0 f a x y, .bool true]⟩)}), (11, 3, ht true)]) (ws := [.b true]) (nx' := 1) hE hm (auto0_ok t_runpack_ok) (by omega) (by simp) (by simp) (by kernel_rfl) hob
theorem rtE (cs : List Value) (o n c : Nat) (dim : Int) (Q : Nat × List Int → Prop) (i : Nat) (r : List Int) (w f a x y : Int) (J : _) {E : Env} (hE : EnvOK E Try.prog Try.f42 2 1 (.bool false) [] []) (hob : all ([Back (Value.bool false) (Value.bool false) [] [] [], Value.bool (x == y) = .bool true, Value.bool (decide (f ≥ dim)) = .bool false, Value.tuple (Array.mk [.agg (Array.mk [.bool (okB w && lfB w), .int .i64 (sV w), .int .i64 (sF w), .int .i64 (sA w), .int .i64 (sX w), .int .i64 (sY w)]), .bool (okB w)]) = Value.tuple (Array.mk [.agg (Array.mk [.bool false, .int .i64 ((0 : Int)), .int .i64 f, .int .i64 a, .int .i64 x, .int .i64 y]), .bool true]), U64 w, readPart Try.prog 83 cs (o + ((i : Int)).toNat * 1) = some (Value.int IntKind.u64 w), (0 : Int) ≤ (i : Int) ∧ (i : Int) < (n : Int), decide ((↑i : Int) < (↑n : Int)) = true])) : Sat E (inLp (lp Try.f42 0) J) ((fRt cs o n c dim Q).st 0 (i, r)) :=
 by_ret (T := auto0 t_runpack) (h := hints [(6, 1, {p := true}), (6, 2, {o := some (.int .u64 w)}), (7, 1, {v := some (.tuple ⟨[nd false 0 f a x y, .bool true]⟩)}), (11, 3, ht false), (11, 9, ht true)]) (ws := [.b true]) (nx' := 1) hE hm (auto0_ok t_runpack_ok) (by omega) (by simp) (by simp) (by kernel_rfl) hob
theorem rtM (cs : List Value) (o n c : Nat) (dim : Int) (Q : Nat × List Int → Prop) (i : Nat) (r : List Int) (w f a x y : Int) (J : _) {E : Env} (hE : EnvOK E Try.prog Try.f42 2 1 (.bool false) [] []) (hob : all ([Back (Value.bool false) (Value.bool false) [] [] [], Value.bool (decide (minI x y ≤ (↑i : Int))) = .bool true, Value.bool (x == y) = .bool false, Value.bool (decide (f ≥ dim)) = .bool false, Value.tuple (Array.mk [.agg (Array.mk [.bool (okB w && lfB w), .int .i64 (sV w), .int .i64 (sF w), .int .i64 (sA w), .int .i64 (sX w), .int .i64 (sY w)]), .bool (okB w)]) = Value.tuple (Array.mk [.agg (Array.mk [.bool false, .int .i64 ((0 : Int)), .int .i64 f, .int .i64 a, .int .i64 x, .int .i64 y]), .bool true]), U64 w, readPart Try.prog 83 cs (o + ((i : Int)).toNat * 1) = some (Value.int IntKind.u64 w), (0 : Int) ≤ (i : Int) ∧ (i : Int) < (n : Int), decide ((↑i : Int) < (↑n : Int)) = true])) : Sat E (inLp (lp Try.f42 0) J) ((fRt cs o n c dim Q).st 0 (i, r)) :=
 by_ret (T := auto0 t_runpack) (h := hints [(6, 1, {p := true}), (6, 2, {o := some (.int .u64 w)}), (7, 1, {v := some (.tuple ⟨[nd false 0 f a x y, .bool true]⟩)}), (11, 3, ht false), (11, 9, ht false), (11, 18, ht true)]) (ws := [.b true]) (nx' := 1) hE hm (auto0_ok t_runpack_ok) (by omega) (by simp) (by simp) (by kernel_rfl) hob
theorem rtX (cs : List Value) (o n c : Nat) (dim : Int) (Q : Nat × List Int → Prop) (i : Nat) (r : List Int) (w f a x y : Int) (J : _) {E : Env} (hE : EnvOK E Try.prog Try.f42 2 1 (.bool false) [] []) (hob : all ([Back (Value.bool false) (Value.bool false) [] [] [], Value.bool (decide (maxI x y ≥ (↑n : Int))) = .bool true, Value.bool (decide (minI x y ≤ (↑i : Int))) = .bool false, Value.bool (x == y) = .bool false, Value.bool (decide (f ≥ dim)) = .bool false, Value.tuple (Array.mk [.agg (Array.mk [.bool (okB w && lfB w), .int .i64 (sV w), .int .i64 (sF w), .int .i64 (sA w), .int .i64 (sX w), .int .i64 (sY w)]), .bool (okB w)]) = Value.tuple (Array.mk [.agg (Array.mk [.bool false, .int .i64 ((0 : Int)), .int .i64 f, .int .i64 a, .int .i64 x, .int .i64 y]), .bool true]), U64 w, readPart Try.prog 83 cs (o + ((i : Int)).toNat * 1) = some (Value.int IntKind.u64 w), (0 : Int) ≤ (i : Int) ∧ (i : Int) < (n : Int), decide ((↑i : Int) < (↑n : Int)) = true])) : Sat E (inLp (lp Try.f42 0) J) ((fRt cs o n c dim Q).st 0 (i, r)) :=
 by_ret (T := auto0 t_runpack) (h := hints [(6, 1, {p := true}), (6, 2, {o := some (.int .u64 w)}), (7, 1, {v := some (.tuple ⟨[nd false 0 f a x y, .bool true]⟩)}), (11, 3, ht false), (11, 9, ht false), (11, 18, ht false), (11, 28, ht true)]) (ws := [.b true]) (nx' := 1) hE hm (auto0_ok t_runpack_ok) (by omega) (by simp) (by simp) (by kernel_rfl) hob
theorem rtG (cs : List Value) (o n c : Nat) (dim : Int) (Q : Nat × List Int → Prop) (i : Nat) (r r1 r2 : List Int) (w f a x y g1 g2 h1 h2 : Int) (J : _) {E rv rhs rhv} (hE : EnvOK E Try.prog Try.f42 2 1 rv rhs rhv) (hL : (fRt cs o n c dim Q).OK 1) (hob : all ([SameK (mkLp (lp Try.f42 0) J) (mkLp (lp Try.f42 0) J), Enter (fRt cs o n c dim Q) 0 (some (n - i)) [.slice (some (Addr.mk 0 o none)) n c, .int .i64 dim, .slice (some (Addr.mk 10 0 none)) n n, .slice (some (Addr.mk 0 o none)) n c, .int .i64 ((n : Int)), .int .i64 (Int.ofNat i.succ)] [Blk.ro cs, Blk.cells (eInt.row r2) 3] [(0, 0), (10, 10), (0, 0)], Value.int IntKind.i64 (IntKind.i64.wrap (Int.ofNat i.succ)) = .int .i64 (Int.ofNat i.succ), lset (eInt.row r1) (0 + y.toNat * 1) [.int .i64 h2] = some (eInt.row r2), (0 : Int) ≤ y ∧ y < (n : Int), Value.int IntKind.i64 (IntKind.i64.wrap (g2 + (1 : Int))) = .int .i64 h2, readPart Try.prog 3 (eInt.row r1) (0 + y.toNat * 1) = some (Value.int IntKind.i64 g2), (0 : Int) ≤ y ∧ y < (n : Int), lset (eInt.row r) (0 + x.toNat * 1) [.int .i64 h1] = some (eInt.row r1), (0 : Int) ≤ x ∧ x < (n : Int), Value.int IntKind.i64 (IntKind.i64.wrap (g1 + (1 : Int))) = .int .i64 h1, readPart Try.prog 3 (eInt.row r) (0 + x.toNat * 1) = some (Value.int IntKind.i64 g1), (0 : Int) ≤ x ∧ x < (n : Int), Value.bool (decide (maxI x y ≥ (↑n : Int))) = .bool false, Value.bool (decide (minI x y ≤ (↑i : Int))) = .bool false, Value.bool (x == y) = .bool false, Value.bool (decide (f ≥ dim)) = .bool false, Value.tuple (Array.mk [.agg (Array.mk [.bool (okB w && lfB w), .int .i64 (sV w), .int .i64 (sF w), .int .i64 (sA w), .int .i64 (sX w), .int .i64 (sY w)]), .bool (okB w)]) = Value.tuple (Array.mk [.agg (Array.mk [.bool false, .int .i64 ((0 : Int)), .int .i64 f, .int .i64 a, .int .i64 x, .int .i64 y]), .bool true]), U64 w, readPart Try.prog 83 cs (o + ((i : Int)).toNat * 1) = some (Value.int IntKind.u64 w), (0 : Int) ≤ (i : Int) ∧ (i : Int) < (n : Int), decide ((↑i : Int) < (↑n : Int)) = true])) (hK : ∀ zz, (fRt cs o n c dim Q).inv 0 zz → ltO ((fRt cs o n c dim Q).mu 0 zz) (some (n - i)) → Sat E (mkLp (lp Try.f42 0) J) ((fRt cs o n c dim Q).st 0 zz)) : Sat E (inLp (lp Try.f42 0) J) ((fRt cs o n c dim Q).st 0 (i, r)) :=
 by_to (T := auto0 t_runpack) (h := hints [(6, 1, {p := true}), (6, 2, {o := some (.int .u64 w)}), (7, 1, {v := some (.tuple ⟨[nd false 0 f a x y, .bool true]⟩)}), (11, 3, ht false), (11, 9, ht false), (11, 18, ht false), (11, 28, ht false), (13, 3, {p := true}), (13, 4, {o := some (.int .i64 g1)}), (13, 5, {v := some (.int .i64 h1)}), (13, 6, {p := true}), (13, 7, {c := some (eInt.row r1)}), (14, 3, {p := true}), (14, 4, {o := some (.int .i64 g2)}), (14, 5, {v := some (.int .i64 h2)}), (14, 6, {p := true}), (14, 7, {c := some (eInt.row r2)}), (15, 0, {v := some (.int .i64 ((i + 1 : Nat) : Int))})]) (ws := [.b true]) (i0 := (i + 1, r2)) hE hm (auto0_ok t_runpack_ok) hL (by kernel_rfl) hob hK
theorem rtZ (cs : List Value) (o n c m q : Nat) (dim : Int) (Q : Nat × List Int → Prop) (Q2 : Nat → Prop) (i : Nat) (r : List Int) (J : _) {E rv rhs rhv} (hE : EnvOK E Try.prog Try.f42 2 1 rv rhs rhv) (hL : (fRn m q r Q2).OK 1) (hob : all ([SameK (atLp (lp Try.f42 1)) (atLp (lp Try.f42 1)), Enter (fRn m q r Q2) 0 none [.slice (some (Addr.mk 10 q none)) m m, .int .i64 ((m : Int)), .int .i64 ((0 : Int))] [Blk.cells (eInt.row r) 3] [(10, 10)], SlOK 1 10 0 n n (some ((1 : Int))) none (some (Blk.cells (eInt.row r) 3)) (Value.slice (some (Addr.mk 10 q none)) m m), decide ((↑i : Int) < (↑n : Int)) = false])) (hK : ∀ zz, (fRn m q r Q2).inv 0 zz → ltO ((fRn m q r Q2).mu 0 zz) none → Sat E (atLp (lp Try.f42 1)) ((fRn m q r Q2).st 0 zz)) : Sat E (inLp (lp Try.f42 0) J) ((fRt cs o n c dim Q).st 0 (i, r)) :=
 by_to (T := auto0 t_runpack) (h := hints [(16, 1, {o := some (.slice (some ⟨10, q, none⟩) m m)})]) (ws := [.b false, .stop]) (i0 := 0) hE hm (auto0_ok t_runpack_ok) hL (by kernel_rfl) hob hK
theorem rnY (m q : Nat) (r : List Int) (Q : Nat → Prop) (i : Nat) (g : Int) (J : _) {E rv rhs rhv} (hE : EnvOK E Try.prog Try.f42 2 1 rv rhs rhv) (hL : (fRn m q r Q).OK 1) (hob : all ([SameK (mkLp (lp Try.f42 1) J) (mkLp (lp Try.f42 1) J), Enter (fRn m q r Q) 0 (some (m - i)) [.slice (some (Addr.mk 10 q none)) m m, .int .i64 ((m : Int)), .int .i64 (Int.ofNat i.succ)] [Blk.cells (eInt.row r) 3] [(10, 10)], Value.int IntKind.i64 (IntKind.i64.wrap (Int.ofNat i.succ)) = .int .i64 (Int.ofNat i.succ), (g != (1 : Int)) = false, readPart Try.prog 3 (eInt.row r) (q + ((i : Int)).toNat * 1) = some (Value.int IntKind.i64 g), (0 : Int) ≤ (i : Int) ∧ (i : Int) < (m : Int), decide ((↑i : Int) < (↑m : Int)) = true])) (hK : ∀ zz, (fRn m q r Q).inv 0 zz → ltO ((fRn m q r Q).mu 0 zz) (some (m - i)) → Sat E (mkLp (lp Try.f42 1) J) ((fRn m q r Q).st 0 zz)) : Sat E (inLp (lp Try.f42 1) J) ((fRn m q r Q).st 0 i) :=
 by_to (T := auto0 t_runpack) (h := hints [(18, 0, {p := true}), (18, 1, {o := some (.int .i64 g)}), (21, 0, {v := some (.int .i64 ((i + 1 : Nat) : Int))})]) (ws := [.b true, .b false]) (i0 := (i + 1)) hE hm (auto0_ok t_runpack_ok) hL (by kernel_rfl) hob hK
theorem rnN (m q : Nat) (r : List Int) (Q : Nat → Prop) (i : Nat) (g : Int) (J : _) {E : Env} (hE : EnvOK E Try.prog Try.f42 2 1 (.bool false) [] []) (hob : all ([Back (Value.bool false) (Value.bool false) [] [] [], (g != (1 : Int)) = true, readPart Try.prog 3 (eInt.row r) (q + ((i : Int)).toNat * 1) = some (Value.int IntKind.i64 g), (0 : Int) ≤ (i : Int) ∧ (i : Int) < (m : Int), decide ((↑i : Int) < (↑m : Int)) = true])) : Sat E (inLp (lp Try.f42 1) J) ((fRn m q r Q).st 0 i) :=
 by_ret (T := auto0 t_runpack) (h := hints [(18, 0, {p := true}), (18, 1, {o := some (.int .i64 g)})]) (ws := [.b true, .b true]) (nx' := 1) hE hm (auto0_ok t_runpack_ok) (by omega) (by simp) (by simp) (by kernel_rfl) hob
theorem rnE (m q : Nat) (r : List Int) (Q : Nat → Prop) (i : Nat) (J : _) {E : Env} (hE : EnvOK E Try.prog Try.f42 2 1 (.bool true) [] []) (hob : all ([Back (Value.bool true) (Value.bool true) [] [] [], decide ((↑i : Int) < (↑m : Int)) = false])) : Sat E (inLp (lp Try.f42 1) J) ((fRn m q r Q).st 0 i) :=
 by_ret (T := auto0 t_runpack) (h := hints []) (ws := [.b false]) (nx' := 1) hE hm (auto0_ok t_runpack_ok) (by omega) (by simp) (by simp) (by kernel_rfl) hob
end Go.Proofs.Ythbaccmhdffjdaa.Tr
namespace Go.Proofs.Ythbaccmhdffjdaa.Tr
end Go.Proofs.Ythbaccmhdffjdaa.Tr
namespace Go.Proofs.Ythbaccmhdffjdaa.Tr
end Go.Proofs.Ythbaccmhdffjdaa.Tr
namespace Go.Proofs.Ythbaccmhdffjdaa.Tr
end Go.Proofs.Ythbaccmhdffjdaa.Tr
namespace Go.Proofs.Ythbaccmhdffjdaa.Tr
end Go.Proofs.Ythbaccmhdffjdaa.Tr
namespace Go.Proofs.Ythbaccmhdffjdaa.Tr
open Go Go.RowKit Ev NodeE
def cntL (ws : List Int) (n : Nat) : List Int := (List.range n).map fun (k : Nat) => (Int.ofNat (named ws (k : Int)))
theorem cntL_len (ws : List Int) (n : Nat) : (cntL ws n).length = n := by simp [cntL]
theorem cntL_get {ws : List Int} {n k : Nat} (h : k < n) : (cntL ws n)[k]? = some (named ws (k : Int) : Int) := by
 simp [cntL, h]
theorem named_le (ws : List Int) (k : Int) : named ws k ≤ 2 * ws.length := by
 induction ws with
 | nil => simp [named]
 | cons w ws ih =>
  have h1 : (namesW w).length ≤ 2 := by unfold namesW; cases lfB w <;> simp
  have h2 := List.count_le_length (a := k) (l := namesW w)
  simp only [named, List.flatMap_cons, List.count_append, List.length_cons] at ih ⊢
  omega
theorem cnt_two {ws : List Int} {w : Int} {n : Nat} {X Y : Nat} (hl : lfB w = false) (hx : uX w = X) (hy : uY w = Y) (hne : X ≠ Y) (hX : X < n) (hY : Y < n) :
  ((cntL ws n).set X ((named ws (X : Int) : Int) + 1)).set Y ((named ws (Y : Int) : Int) + 1) = cntL (ws ++ [w]) n := by
 apply List.ext_getElem
 ·simp [cntL]
 ·intro k h1 h2
  have hk : k < n := by simpa [cntL] using h2
  simp only [List.getElem_set]
  simp only [cntL, List.getElem_map, List.getElem_range, named_snoc, namesW, hl, cond_false, hx, hy, List.count_cons, List.count_nil]
  by_cases e1 : Y = k
  ·subst e1
   have : ¬ (X : Int) = (Y : Int) := by omega
   simp [this]
  ·by_cases e2 : X = k
   ·subst e2
    have : ¬ (Y : Int) = (X : Int) := by omega
    simp [e1, this]
   ·have h3 : ¬ (X : Int) = (k : Int) := by omega
    have h4 : ¬ (Y : Int) = (k : Int) := by omega
    simp [e1, e2, h3, h4]
theorem cnt_leaf {ws : List Int} {w : Int} {n : Nat} (hl : lfB w = true) : cntL (ws ++ [w]) n = cntL ws n := by
 unfold cntL
 refine List.map_congr_left fun k _ => ?_
 rw [named_snoc]; simp [namesW, hl]
theorem cnt_zero (n : Nat) : cntL [] n = List.replicate n 0 := by
 apply List.ext_getElem
 ·simp [cntL]
 ·intro k h1 h2; simp [cntL, named_nil]
theorem rd_int {l : List Int} {k : Nat} {z : Int} (h : l[k]? = some z) : readPart Try.prog 3 (eInt.row l) (0 + k * 1) = some (.int .i64 z) := by
 rw [Nat.mul_one]
 exact (Elt.canon0 (e := eInt) l).1.read1 (P := Try.prog) (ty := 3) (by kernel_rfl) rfl (i := k) (x := z) (by rw [(Elt.canon0 l).2]; exact h) rfl rfl
theorem rd_off {l : List Int} {q j : Nat} {z : Int} (h : l[q + j]? = some z) : readPart Try.prog 3 (eInt.row l) (q + ((j : Nat) : Int).toNat * 1) = some (.int .i64 z) := by
 have := rd_int h
 rw [Nat.mul_one, Nat.zero_add] at this
 rw [Int.toNat_natCast, Nat.mul_one]
 exact this
theorem min_gt {x y i : Int} (h : ¬ minI x y ≤ i) : i < x ∧ i < y := by unfold minI at h; split at h <;> omega
theorem max_lt {x y i : Int} (h : ¬ maxI x y ≥ i) : x < i ∧ y < i := by unfold maxI at h; split at h <;> omega
theorem not_min {x y i : Int} (h1 : i < x) (h2 : i < y) : ¬ minI x y ≤ i := by unfold minI; split <;> omega
theorem not_max {x y i : Int} (h1 : x < i) (h2 : y < i) : ¬ maxI x y ≥ i := by unfold maxI; split <;> omega
theorem right_spec (cs : List Value) (o n c : Nat) (dim : Int) (hr : eWord.Row cs o n) (hpl : ∀ x ∈ cs, leafG x = true) (hU : ∀ w ∈ eWord.list cs o n, U64 w) (hn : n ≤ 65536) :
  CallSpec Try.prog 42 [.slice (some ⟨0, o, none⟩) n c, .int .i64 dim] (roRows [cs]) 1 (.bool (rightI (eWord.list cs o n) dim)) (assocN [] []) := by
 refine spec_of_sat Try.func42 rfl fun E hE => ?_
 have hlen : (eWord.list cs o n).length = n := Elt.list_len _ _ _
 generalize hws : eWord.list cs o n = ws at hU hlen hE
 refine (Classical.em (1 ≤ n)).symm.elim (fun h1 => ?_) (fun h1 => ?_)
 ·rw [right_len (by omega)] at hE
  exact rtShort cs o n c dim hE ⟨⟨rfl, rfl⟩, (congrArg _ (decide_eq_true (by omega))), trivial⟩
 have g1 : Value.bool (decide ((n : Int) < 1)) = .bool false := congrArg _ (decide_eq_false (by omega))
 refine (Classical.em (n ≤ 31)).symm.elim (fun h31 => ?_) (fun h31 => ?_)
 ·rw [right_len (by omega)] at hE
  exact rtLong cs o n c dim hE ⟨⟨rfl, rfl⟩, (congrArg _ (decide_eq_true (by omega))), g1, trivial⟩
 have g2 : Value.bool (decide ((n : Int) > 31)) = .bool false := congrArg _ (decide_eq_false (by omega))
 let Q : Nat × List Int → Prop := fun s => s.1 ≤ n ∧ (∀ (j : Nat) (w : Int), j < s.1 → ws[j]? = some w → goodW dim n j w = true) ∧ s.2 = cntL (ws.take s.1) n
 have okL := fRt_ok cs o n c dim Q hpl
 have rnr : ∀ f : Nat → Nat, Blk.rnB f (.ro cs) = .ro cs := fun f => Blk.plain.rnB (b := .ro cs) hpl f
 have rni : ∀ (f : Nat → Nat) (l : List Int), Blk.rnB f (.cells (eInt.row l) 3) = .cells (eInt.row l) 3 := fun f l => Blk.plain.rnB (b := .cells (eInt.row l) 3) (Elt.row_pl _) f
 have hz : repl [Value.int .i64 0] n = eInt.row (cntL [] n) := by rw [cnt_zero]; exact repl_row (e := eInt) (x := 0) rfl _
 refine rtIn cs o n c dim Q (cntL [] n) hE okL ⟨rfl, ⟨(0, cntL [] n), ⟨Nat.zero_le _, fun j w hj => absurd hj (Nat.not_lt_zero _), rfl⟩, trivial, rfl, by simp [fRt, rnr, rni]⟩, ⟨rfl, Int.natCast_nonneg _, by show (n : Int) ≤ _; omega, by show (8 : Int) * (n : Int) ≤ _; omega, hz.symm⟩, g2, g1, trivial⟩ fun zz hz _ => by_loop (fRt cs o n c dim Q) (lp Try.f42 0) ?_ 0 zz hz
 rintro b ⟨i, r⟩ hinv J hJ
 have hinv : i ≤ n ∧ (∀ (j : Nat) (w : Int), j < i → ws[j]? = some w → goodW dim n j w = true) ∧ r = cntL (ws.take i) n := hinv
 obtain ⟨k1, k2, k3⟩ := hinv
 show Sat E (inLp (lp Try.f42 0) J) ((fRt cs o n c dim Q).st 0 (i, r))
 have hJ' : ∀ zz, (fRt cs o n c dim Q).inv 0 zz → ltO ((fRt cs o n c dim Q).mu 0 zz) (some (n - i)) → Sat E (mkLp (lp Try.f42 0) J) ((fRt cs o n c dim Q).st 0 zz) := fun zz h1 h2 => hJ 0 zz h1 h2
 by_cases hin : i < n
 ·have hlt : decide ((i : Int) < (n : Int)) = true := decide_eq_true (by omega)
  obtain ⟨w, hw⟩ : ∃ w, ws[i]? = some w := ⟨_, List.getElem?_eq_getElem (by rw [hlen]; omega)⟩
  have hrd := hr.read1 (P := Try.prog) (ty := 83) (by kernel_rfl) rfl (i := i) (x := w) (by rw [hws]; exact hw) rfl rfl
  rw [← Nat.mul_one i] at hrd
  have htk : ws.take (i + 1) = ws.take i ++ [w] := by rw [List.take_add_one, hw]; rfl
  have nxt : goodW dim n i w = true → ∀ (j : Nat) (v : Int), j < i + 1 → ws[j]? = some v → goodW dim n j v = true := fun hg j v hj hv => by
   by_cases e : j < i
   ·exact k2 j v e hv
   ·obtain rfl : j = i := by omega
    rw [hw] at hv; injection hv with hv; subst hv; exact hg
  cases hgd : goodW dim n i w
  ·have hbad : rightI ws dim = false := right_bad hw (by rw [hlen]; exact hgd)
   rw [hbad] at hE
   cases ho : okB w
   ·exact rtN cs o n c dim Q i r w J hE ⟨⟨rfl, rfl⟩, unp_no ho, hU w (List.mem_of_getElem? hw), hrd, ⟨Int.natCast_nonneg _, Int.ofNat_lt.2 hin⟩, hlt, trivial⟩
   ·refine (Bool.eq_false_or_eq_true (lfB w)).elim (fun hl => ?_) (fun hl => ?_)
    ·rw [good_leaf ho hl] at hgd; exact absurd hgd (by simp)
    refine (Classical.em (uF w < dim)).symm.elim (fun d1 => ?_) (fun d1 => ?_)
    ·exact rtD cs o n c dim Q i r w (uF w) (low32 w) (uX w) (uY w) J hE ⟨⟨rfl, rfl⟩, (congrArg _ (decide_eq_true (by omega))), unp_inner ho hl, hU w (List.mem_of_getElem? hw), hrd, ⟨Int.natCast_nonneg _, Int.ofNat_lt.2 hin⟩, hlt, trivial⟩
    have e1 : Value.bool (decide (uF w ≥ dim)) = .bool false := congrArg _ (decide_eq_false (by omega))
    by_cases d2 : uX w = uY w
    ·exact rtE cs o n c dim Q i r w (uF w) (low32 w) (uX w) (uY w) J hE ⟨⟨rfl, rfl⟩, (congrArg _ (beq_iff_eq.2 d2)), e1, unp_inner ho hl, hU w (List.mem_of_getElem? hw), hrd, ⟨Int.natCast_nonneg _, Int.ofNat_lt.2 hin⟩, hlt, trivial⟩
    have e2 : Value.bool (uX w == uY w) = .bool false := congrArg _ (beq_eq_false_iff_ne.2 d2)
    by_cases d3 : minI (uX w) (uY w) ≤ (i : Int)
    ·exact rtM cs o n c dim Q i r w (uF w) (low32 w) (uX w) (uY w) J hE ⟨⟨rfl, rfl⟩, (congrArg _ (decide_eq_true d3)), e2, e1, unp_inner ho hl, hU w (List.mem_of_getElem? hw), hrd, ⟨Int.natCast_nonneg _, Int.ofNat_lt.2 hin⟩, hlt, trivial⟩
    have e3 : Value.bool (decide (minI (uX w) (uY w) ≤ (i : Int))) = .bool false := congrArg _ (decide_eq_false d3)
    by_cases d4 : maxI (uX w) (uY w) ≥ (n : Int)
    ·exact rtX cs o n c dim Q i r w (uF w) (low32 w) (uX w) (uY w) J hE ⟨⟨rfl, rfl⟩, (congrArg _ (decide_eq_true d4)), e3, e2, e1, unp_inner ho hl, hU w (List.mem_of_getElem? hw), hrd, ⟨Int.natCast_nonneg _, Int.ofNat_lt.2 hin⟩, hlt, trivial⟩
    rw [good_mk hl ho d1 d2 (min_gt d3).1 (min_gt d3).2 (max_lt d4).1 (max_lt d4).2] at hgd
    exact absurd hgd (by simp)
  ·cases hl : lfB w
   ·obtain ⟨ho, d1, d2, d3, d4, d5, d6⟩ := good_inner hgd hl
    obtain ⟨X, hX⟩ := Int.eq_ofNat_of_zero_le (show 0 ≤ uX w by omega)
    obtain ⟨Y, hY⟩ := Int.eq_ofNat_of_zero_le (show 0 ≤ uY w by omega)
    have e1 : Value.bool (decide (uF w ≥ dim)) = .bool false := congrArg _ (decide_eq_false (by omega))
    have e2 : Value.bool (uX w == uY w) = .bool false := congrArg _ (beq_eq_false_iff_ne.2 d2)
    have e3 : Value.bool (decide (minI (uX w) (uY w) ≤ (i : Int))) = .bool false := congrArg _ (decide_eq_false (not_min d3 d4))
    have e4 : Value.bool (decide (maxI (uX w) (uY w) ≥ (n : Int))) = .bool false := congrArg _ (decide_eq_false (not_max d5 d6))
    have hXn : X < n := by omega
    have hYn : Y < n := by omega
    have hne : X ≠ Y := by omega
    have hlX := named_le (ws.take i) X
    have hlY := named_le (ws.take i) Y
    have htl : (ws.take i).length ≤ 31 := by rw [List.length_take, hlen]; omega
    have r1 := cntL_get (ws := ws.take i) hXn
    have hrd1 := rd_int (l := r) (k := X) (z := (named (ws.take i) (X : Int) : Int)) (by rw [k3]; exact r1)
    have hst1 := lsetE (e := eInt) (l := r) (k := X) (f := 0) (o := 0 + X * 1) (x := (named (ws.take i) (X : Int) : Int) + 1) (vs := [.int .i64 ((named (ws.take i) (X : Int) : Int) + 1)]) (by rw [k3]; exact r1) rfl (by simp [eInt])
    have r2 : (r.set X ((named (ws.take i) (X : Int) : Int) + 1))[Y]? = some (named (ws.take i) (Y : Int) : Int) := by
     rw [List.getElem?_set_ne hne, k3]; exact cntL_get hYn
    have hrd2 := rd_int (l := r.set X ((named (ws.take i) (X : Int) : Int) + 1)) (k := Y) (z := (named (ws.take i) (Y : Int) : Int)) r2
    have hst2 := lsetE (e := eInt) (l := r.set X ((named (ws.take i) (X : Int) : Int) + 1)) (k := Y) (f := 0) (o := 0 + Y * 1) (x := (named (ws.take i) (Y : Int) : Int) + 1) (vs := [.int .i64 ((named (ws.take i) (Y : Int) : Int) + 1)]) r2 rfl (by simp [eInt])
    have hfin : (r.set X ((named (ws.take i) (X : Int) : Int) + 1)).set Y ((named (ws.take i) (Y : Int) : Int) + 1) = cntL (ws.take (i + 1)) n := by rw [k3, htk]; exact cnt_two hl hX hY hne hXn hYn
    rw [hX, hY] at e2 e3 e4
    have hun := unp_inner ho hl
    rw [hX, hY] at hun
    exact rtG cs o n c dim Q i r _ _ w (uF w) (low32 w) X Y _ _ _ _ J hE okL ⟨rfl, ⟨(i + 1, (r.set X ((named (ws.take i) (X : Int) : Int) + 1)).set Y ((named (ws.take i) (Y : Int) : Int) + 1)), ⟨hin, nxt hgd, hfin⟩, (by show n - (i + 1) < n - i; omega), rfl, by simp [fRt, rnr, rni]⟩, i64_succ (by omega), hst2, ⟨Int.natCast_nonneg _, Int.ofNat_lt.2 hYn⟩, (i64_id rfl (by omega) (by omega)), hrd2, ⟨Int.natCast_nonneg _, Int.ofNat_lt.2 hYn⟩, hst1, ⟨Int.natCast_nonneg _, Int.ofNat_lt.2 hXn⟩, (i64_id rfl (by omega) (by omega)), hrd1, ⟨Int.natCast_nonneg _, Int.ofNat_lt.2 hXn⟩, e4, e3, e2, e1, hun, hU w (List.mem_of_getElem? hw), hrd, ⟨Int.natCast_nonneg _, Int.ofNat_lt.2 hin⟩, hlt, trivial⟩ hJ'
   ·have ho : okB w = true := by simp [goodW] at hgd; exact hgd.1
    exact rtF cs o n c dim Q i r w (low32 w) J hE okL ⟨rfl, ⟨(i + 1, r), ⟨hin, nxt hgd, by rw [htk, cnt_leaf hl]; exact k3⟩, (by show n - (i + 1) < n - i; omega), rfl, by simp [fRt, rnr, rni]⟩, i64_succ (by omega), unp_leaf ho hl, hU w (List.mem_of_getElem? hw), hrd, ⟨Int.natCast_nonneg _, Int.ofNat_lt.2 hin⟩, hlt, trivial⟩ hJ'
 ·have hlt : decide ((i : Int) < (n : Int)) = false := decide_eq_false (by omega)
  obtain rfl : i = n := by omega
  have hall : ∀ (j : Nat) (w : Int), ws[j]? = some w → goodW dim i j w = true := fun j w hw => k2 j w (by have := (List.getElem?_eq_some_iff.1 hw).1; omega) hw
  have hr3 : r = cntL ws i := by rw [k3, List.take_of_length_le (by omega)]
  clear k3 k2 hJ' hJ
  have hrl : r.length = i := by rw [hr3]; exact cntL_len _ _
  let Q2 : Nat → Prop := fun j => j ≤ i - 1 ∧ ∀ k : Nat, 1 ≤ k → k < j + 1 → named ws (k : Int) = 1
  have sl : ∃ q : Nat, (q = 1 ∨ i = 1) ∧ SlOK 1 10 0 i i (some 1) none (some (.cells (eInt.row r) 3)) (.slice (some ⟨10, q, none⟩) (i - 1) (i - 1)) := by
   by_cases h : i = 1
   ·refine ⟨0, Or.inr h, 1, i, rfl, rfl, by omega, Nat.le_refl _, Or.inr ⟨by unfold Ev.mark; omega, Nat.le_refl _, Or.inl ⟨by omega, ?_⟩⟩⟩
    simp
   ·refine ⟨1, Or.inl rfl, 1, i, rfl, rfl, by omega, Nat.le_refl _, Or.inr ⟨by unfold Ev.mark; omega, Nat.le_refl _, Or.inr ⟨by omega, ?_⟩⟩⟩
    simp
  obtain ⟨q, hq, hsl⟩ := sl
  refine rtZ cs o i c (i - 1) q dim Q Q2 i r J hE (fRn_ok (i - 1) q r Q2) ⟨rfl, ⟨0, ⟨Nat.zero_le _, fun k a b => by omega⟩, trivial, rfl, by simp [fRn, rni]⟩, hsl, hlt, trivial⟩ fun zz hz _ => by_loop (fRn (i - 1) q r Q2) (lp Try.f42 1) ?_ 0 zz hz
  rintro b j hinv J hJ
  have hinv : j ≤ i - 1 ∧ ∀ k : Nat, 1 ≤ k → k < j + 1 → named ws (k : Int) = 1 := hinv
  obtain ⟨m1, m2⟩ := hinv
  show Sat E (inLp (lp Try.f42 1) J) ((fRn (i - 1) q r Q2).st 0 j)
  have hJ' : ∀ zz, (fRn (i - 1) q r Q2).inv 0 zz → ltO ((fRn (i - 1) q r Q2).mu 0 zz) (some (i - 1 - j)) → Sat E (mkLp (lp Try.f42 1) J) ((fRn (i - 1) q r Q2).st 0 zz) := fun zz h1 h2 => hJ 0 zz h1 h2
  by_cases hji : j < i - 1
  ·have hlt : decide ((j : Int) < ((i - 1 : Nat) : Int)) = true := decide_eq_true (by omega)
   obtain rfl : q = 1 := by omega
   have hrd := rd_off (l := r) (q := 1) (j := j) (z := (named ws ((1 + j : Nat) : Int) : Int)) (by rw [hr3]; exact cntL_get (by omega))
   by_cases h1' : named ws ((1 + j : Nat) : Int) = 1
   ·exact rnY (i - 1) 1 r Q2 j _ J hE (fRn_ok (i - 1) 1 r Q2) ⟨rfl, ⟨j + 1, ⟨by omega, fun k a b => by
      by_cases e : k < j + 1
      ·exact m2 k a e
      ·obtain rfl : k = 1 + j := by omega
       exact h1'⟩, (by show i - 1 - (j + 1) < i - 1 - j; omega), rfl, by simp [fRn, rni]⟩, i64_succ (by omega), (by rw [h1']; rfl), hrd, ⟨Int.natCast_nonneg _, Int.ofNat_lt.2 hji⟩, hlt, trivial⟩ hJ'
   ·rw [right_once (k := 1 + j) (by omega) (by omega) h1'] at hE
    exact rnN (i - 1) 1 r Q2 j _ J hE ⟨⟨rfl, rfl⟩, (by simp only [bne_iff_ne, ne_eq]; omega), hrd, ⟨Int.natCast_nonneg _, Int.ofNat_lt.2 hji⟩, hlt, trivial⟩
  ·have hlt : decide ((j : Int) < ((i - 1 : Nat) : Int)) = false := decide_eq_false (by omega)
   have hR : rightI ws dim = true := right_parts.2 ⟨⟨by omega, by omega⟩, fun j w hw => by rw [hlen]; exact hall j w hw, fun k a b => m2 k a (by omega)⟩
   rw [hR] at hE
   exact rnE (i - 1) q r Q2 j J hE ⟨⟨rfl, rfl⟩, hlt, trivial⟩
def right_F : RoF := fun xs css => match xs, css with
 | [.slice (some ⟨0, o, none⟩) n c, .int .i64 dim], [cs] => some (.bool (rightI (eWord.list cs o n) dim), [], [eWord.Row cs o n, ∀ w ∈ eWord.list cs o n, U64 w, n ≤ 65536])
 | [.slice none 0 0, .int .i64 dim], [] => some (.bool false, [], [])
 | _, _ => none
theorem right_sum : SumOK Try.prog 42 (roSum right_F) := by
 refine roSum_ok (en Try.func42 rfl) ?_ (fun xs css r h => ?_)
 ·intro xs css v blks ob h hob hpl hl
  unfold right_F at h
  split at h
  ·rename_i o n c dim cs
   simp only [Option.some.injEq, Prod.mk.injEq] at h
   obtain ⟨rfl, rfl, rfl⟩ := h
   refine ⟨by simp, by simp, fun j hj => by simp [nms, nm1, nmL, nm0] at hj, ?_⟩
   exact right_spec cs o n c dim (hob _ (List.mem_cons_self ..)) (hpl cs (by simp)) (hob _ (List.mem_cons_of_mem _ (List.mem_cons_self ..))) (hob _ (by simp))
  ·rename_i dim
   simp only [Option.some.injEq, Prod.mk.injEq] at h
   obtain ⟨rfl, rfl, rfl⟩ := h
   refine ⟨by simp, by simp, fun j hj => by simp [nms, nm1, nmL, nm0] at hj, ?_⟩
   exact spec_of_sat Try.func42 rfl fun E hE => rtNil dim hE ⟨⟨rfl, rfl⟩, trivial⟩
  ·simp at h
 ·unfold right_F at h
  split at h <;> simp at h <;> simp
noncomputable def t_right : Sums := upd t_runpack 42 (some (roSum right_F))
theorem t_right_ok : SumsOK Try.prog t_right := sums_cons t_runpack_ok right_sum
end Go.Proofs.Ythbaccmhdffjdaa.Tr
namespace Go.Proofs.Ythbaccmhdffjdaa.Ev
open Go Go.RowKit
abbrev kI (z : Int) : Value := .int .i64 z
def keysI (es : List Ent) : Prop := ∀ e ∈ es, ∃ z, e.1 = kI z
theorem keysI_nil : keysI [] := fun e h => by simp at h
theorem keyEq_kI (a b : Int) : keyEq (kI a) (kI b) = (a == b) := rfl
theorem keysI_put {es : List Ent} (h : keysI es) (b : Int) (v : Value) (c : Nat) : keysI (mput (kI b) v c es) := by
 induction es with
 | nil => intro e he; simp [mput] at he; subst he; exact ⟨b, rfl⟩
 | cons e es ih =>
  have hes : keysI es := fun x hx => h x (by simp [hx])
  intro x hx
  simp only [mput] at hx
  cases hk : keyEq (kI b) e.1 <;> rw [hk] at hx
  ·simp only [cond_false, List.mem_cons] at hx
   rcases hx with rfl | hx
   ·exact h x (by simp)
   ·exact ih hes x hx
  ·simp only [cond_true, List.mem_cons] at hx
   rcases hx with rfl | hx
   ·exact h e (by simp)
   ·exact hes x hx
theorem mgetI_putI {es : List Ent} (h : keysI es) (a b : Int) (n : Int) (c : Nat) : mgetI (kI a) (mput (kI b) (.int .i64 n) c es) = bif a == b then n else mgetI (kI a) es := by
 induction es with
 | nil => simp only [mput, mgetI, keyEq_kI, intV]
 | cons e es ih =>
  have hes : keysI es := fun x hx => h x (by simp [hx])
  obtain ⟨z, hz⟩ := h e (by simp)
  simp only [mput, hz, keyEq_kI]
  cases hb : b == z
  ·simp only [cond_false, mgetI, hz, keyEq_kI, ih hes]
   cases ha : a == z
   ·rfl
   ·have : (a == b) = false := by
     rw [beq_iff_eq] at ha; subst ha
     rw [beq_eq_false_iff_ne] at hb ⊢
     exact fun e => hb e.symm
    rw [this]; rfl
  ·rw [beq_iff_eq] at hb; subst hb
   simp only [cond_true, mgetI, hz, keyEq_kI, intV]
   cases a == b <;> rfl
end Go.Proofs.Ythbaccmhdffjdaa.Ev
namespace Go.Proofs.Ythbaccmhdffjdaa.Tr
open Go Go.RowKit Ev NodeE Tr
structure GT where
 i : Nat
 es : List Ent
 c : Nat
def fGt (cs : List Value) (o n c : Nat) (dim : Int) (Q : GT → Prop) : LoopF GT where
 ts _ := [0, 1, 5, 20, 21, 22]
 hs _ := [0, 10]
 tv _ := fun ⟨i, es, k⟩ => [.slice (some ⟨0, o, none⟩) n c, .int .i64 dim, .map (some 10), .slice (some ⟨0, o, none⟩) n c, .int .i64 (n : Int), .int .i64 (i : Int)]
 hv _ := fun ⟨i, es, k⟩ => [.ro cs, .map [some .i64] false (some .i64) es k]
 inv _ := Q
 mu _ := fun ⟨i, es, k⟩ => n - i
 nx := 12
def fGn (cs : List Value) (o n c : Nat) (es : List Ent) (k : Nat) (Q : Nat → Prop) : LoopF Nat where
 ts _ := [0, 5, 10]
 hs _ := [0, 10]
 tv _ := fun i => [.slice (some ⟨0, o, none⟩) n c, .map (some 10), .int .i64 (i : Int)]
 hv _ := fun i => [.ro cs, .map [some .i64] false (some .i64) es k]
 inv _ := Q
 mu _ := fun i => n - i
 nx := 12
theorem fGt_ok (cs : List Value) (o n c : Nat) (dim : Int) (Q : GT → Prop) (hpl : ∀ x ∈ cs, leafG x = true) : (fGt cs o n c dim Q).OK 1 := by
 refine ⟨(by decide : 1 ≤ 12), fun z i h k hk => ?_, fun z i h v hv k hk => ?_, fun z i h x hx => ?_⟩
 ·show k < 12
  simp [fGt] at hk; omega
 ·show k < 12
  simp [fGt] at hv
  repeat' (refine Or.elim hv (fun hv => ?_) (fun hv => ?_))
  all_goals (subst hv; simp [nms, nm1, nm0] at hk; try omega)
 ·simp [fGt] at hx
  rcases hx with rfl | rfl
  ·exact Blk.plain.namesLt (b := .ro cs) hpl _
  ·exact trivial
theorem fGn_ok (cs : List Value) (o n c : Nat) (es : List Ent) (k : Nat) (Q : Nat → Prop) (hpl : ∀ x ∈ cs, leafG x = true) : (fGn cs o n c es k Q).OK 1 := by
 refine ⟨(by decide : 1 ≤ 12), fun z i h k hk => ?_, fun z i h v hv k hk => ?_, fun z i h x hx => ?_⟩
 ·show k < 12
  simp [fGn] at hk; omega
 ·show k < 12
  simp [fGn] at hv
  repeat' (refine Or.elim hv (fun hv => ?_) (fun hv => ?_))
  all_goals (subst hv; simp [nms, nm1, nm0] at hk; try omega)
 ·simp [fGn] at hx
  rcases hx with rfl | rfl
  ·exact Blk.plain.namesLt (b := .ro cs) hpl _
  ·exact trivial
end Go.Proofs.Ythbaccmhdffjdaa.Tr
namespace Go.Proofs.Ythbaccmhdffjdaa.Tr
open Go Go.RowKit Ev NodeE Tr
theorem gtNil (dim : Int)  {E : Env} (hE : EnvOK E Try.prog Try.f45 2 0 (.bool false) [] []) (hob : all ([Back (Value.bool false) (Value.bool false) [] [] []])) : Sat E [.code (bodyOf Try.f45)] (st0 Try.f45 [.slice none 0 0, .int .i64 dim] (roRows []) 0) :=
 by_ret (T := auto0 t_runpack) (h := hints []) (ws := []) (nx' := 0) hE hm (auto0_ok t_runpack_ok) (by omega) (by simp) (by simp) (by kernel_rfl) hob
theorem gtShort (cs : List Value) (o n c : Nat) (dim : Int)  {E : Env} (hE : EnvOK E Try.prog Try.f45 2 1 (.bool false) [] []) (hob : all ([Back (Value.bool false) (Value.bool false) [] [] [], Value.bool (decide ((↑n : Int) < 1)) = .bool true])) : Sat E [.code (bodyOf Try.f45)] (st0 Try.f45 [.slice (some ⟨0, o, none⟩) n c, .int .i64 dim] (roRows [cs]) 1) :=
 by_ret (T := auto0 t_runpack) (h := hints [(1, 2, ht true)]) (ws := []) (nx' := 1) hE hm (auto0_ok t_runpack_ok) (by omega) (by simp) (by simp) (by kernel_rfl) hob
theorem gtLong (cs : List Value) (o n c : Nat) (dim : Int)  {E : Env} (hE : EnvOK E Try.prog Try.f45 2 1 (.bool false) [] []) (hob : all ([Back (Value.bool false) (Value.bool false) [] [] [], Value.bool (decide ((↑n : Int) > 31)) = .bool true, Value.bool (decide ((↑n : Int) < 1)) = .bool false])) : Sat E [.code (bodyOf Try.f45)] (st0 Try.f45 [.slice (some ⟨0, o, none⟩) n c, .int .i64 dim] (roRows [cs]) 1) :=
 by_ret (T := auto0 t_runpack) (h := hints [(1, 2, ht false), (1, 6, ht true)]) (ws := []) (nx' := 1) hE hm (auto0_ok t_runpack_ok) (by omega) (by simp) (by simp) (by kernel_rfl) hob
theorem gtIn (cs : List Value) (o n c : Nat) (dim : Int) (Q : GT → Prop)  {E rv rhs rhv} (hE : EnvOK E Try.prog Try.f45 2 1 rv rhs rhv) (hL : (fGt cs o n c dim Q).OK 1) (hob : all ([SameK (atLp (lp Try.f45 0)) (atLp (lp Try.f45 0)), Enter (fGt cs o n c dim Q) 0 none [.slice (some (Addr.mk 0 o none)) n c, .int .i64 dim, .map (some 73), .slice (some (Addr.mk 0 o none)) n c, .int .i64 ((n : Int)), .int .i64 ((0 : Int))] [Blk.ro cs, Blk.map [some IntKind.i64] false (some IntKind.i64) [] 0] [(0, 0), (10, 73), (0, 0)], Value.bool (decide ((↑n : Int) > 31)) = .bool false, Value.bool (decide ((↑n : Int) < 1)) = .bool false])) (hK : ∀ zz, (fGt cs o n c dim Q).inv 0 zz → ltO ((fGt cs o n c dim Q).mu 0 zz) none → Sat E (atLp (lp Try.f45 0)) ((fGt cs o n c dim Q).st 0 zz)) : Sat E [.code (bodyOf Try.f45)] (st0 Try.f45 [.slice (some ⟨0, o, none⟩) n c, .int .i64 dim] (roRows [cs]) 1) :=
 by_to (T := auto0 t_runpack) (h := hints [(1, 2, ht false), (1, 6, ht false)]) (ws := [.go, .stop]) (i0 := ⟨0, [], 0⟩) hE hm (auto0_ok t_runpack_ok) hL (by kernel_rfl) hob hK
theorem gtN (cs : List Value) (o n c : Nat) (dim : Int) (Q : GT → Prop) (i k : Nat) (es : List Ent) (w : Int) (J : _) {E : Env} (hE : EnvOK E Try.prog Try.f45 2 1 (.bool false) [] []) (hob : all ([Back (Value.bool false) (Value.bool false) [] [] [], Value.tuple (Array.mk [.agg (Array.mk [.bool (okB w && lfB w), .int .i64 (sV w), .int .i64 (sF w), .int .i64 (sA w), .int .i64 (sX w), .int .i64 (sY w)]), .bool (okB w)]) = Value.tuple (Array.mk [.agg (Array.mk [.bool false, .int .i64 ((0 : Int)), .int .i64 ((0 : Int)), .int .i64 ((0 : Int)), .int .i64 ((0 : Int)), .int .i64 ((0 : Int))]), .bool false]), U64 w, readPart Try.prog 83 cs (o + ((i : Int)).toNat * 1) = some (Value.int IntKind.u64 w), (0 : Int) ≤ (i : Int) ∧ (i : Int) < (n : Int), decide ((↑i : Int) < (↑n : Int)) = true])) : Sat E (inLp (lp Try.f45 0) J) ((fGt cs o n c dim Q).st 0 ⟨i, es, k⟩) :=
 by_ret (T := auto0 t_runpack) (h := hints [(6, 1, {p := true}), (6, 2, {o := some (.int .u64 w)}), (7, 1, {v := some (.tuple ⟨[nd false 0 0 0 0 0, .bool false]⟩)})]) (ws := [.b true]) (nx' := 1) hE hm (auto0_ok t_runpack_ok) (by omega) (by simp) (by simp) (by kernel_rfl) hob
theorem gtF (cs : List Value) (o n c : Nat) (dim : Int) (Q : GT → Prop) (i k : Nat) (es : List Ent) (w v : Int) (J : _) {E rv rhs rhv} (hE : EnvOK E Try.prog Try.f45 2 1 rv rhs rhv) (hL : (fGt cs o n c dim Q).OK 1) (hob : all ([SameK (mkLp (lp Try.f45 0) J) (mkLp (lp Try.f45 0) J), Enter (fGt cs o n c dim Q) 0 (some (n - i)) [.slice (some (Addr.mk 0 o none)) n c, .int .i64 dim, .map (some 10), .slice (some (Addr.mk 0 o none)) n c, .int .i64 ((n : Int)), .int .i64 (Int.ofNat i.succ)] [Blk.ro cs, Blk.map [some IntKind.i64] false (some IntKind.i64) es k] [(0, 0), (10, 10), (0, 0)], Value.int IntKind.i64 (IntKind.i64.wrap (Int.ofNat i.succ)) = .int .i64 (Int.ofNat i.succ), Value.tuple (Array.mk [.agg (Array.mk [.bool (okB w && lfB w), .int .i64 (sV w), .int .i64 (sF w), .int .i64 (sA w), .int .i64 (sX w), .int .i64 (sY w)]), .bool (okB w)]) = Value.tuple (Array.mk [.agg (Array.mk [.bool true, .int .i64 v, .int .i64 ((0 : Int)), .int .i64 ((0 : Int)), .int .i64 ((0 : Int)), .int .i64 ((0 : Int))]), .bool true]), U64 w, readPart Try.prog 83 cs (o + ((i : Int)).toNat * 1) = some (Value.int IntKind.u64 w), (0 : Int) ≤ (i : Int) ∧ (i : Int) < (n : Int), decide ((↑i : Int) < (↑n : Int)) = true])) (hK : ∀ zz, (fGt cs o n c dim Q).inv 0 zz → ltO ((fGt cs o n c dim Q).mu 0 zz) (some (n - i)) → Sat E (mkLp (lp Try.f45 0) J) ((fGt cs o n c dim Q).st 0 zz)) : Sat E (inLp (lp Try.f45 0) J) ((fGt cs o n c dim Q).st 0 ⟨i, es, k⟩) :=
 by_to (T := auto0 t_runpack) (h := hints [(6, 1, {p := true}), (6, 2, {o := some (.int .u64 w)}), (7, 1, {v := some (.tuple ⟨[nd true v 0 0 0 0, .bool true]⟩)}), (15, 0, {v := some (.int .i64 ((i + 1 : Nat) : Int))})]) (ws := [.b true]) (i0 := ⟨i + 1, es, k⟩) hE hm (auto0_ok t_runpack_ok) hL (by kernel_rfl) hob hK
theorem gtB0 (cs : List Value) (o n c : Nat) (dim : Int) (Q : GT → Prop) (i k : Nat) (es : List Ent) (w f a x y : Int) (J : _) {E : Env} (hE : EnvOK E Try.prog Try.f45 2 1 (.bool false) [] []) (hob : all ([Back (Value.bool false) (Value.bool false) [] [] [], Value.bool (decide (f ≥ dim)) = .bool true, Value.tuple (Array.mk [.agg (Array.mk [.bool (okB w && lfB w), .int .i64 (sV w), .int .i64 (sF w), .int .i64 (sA w), .int .i64 (sX w), .int .i64 (sY w)]), .bool (okB w)]) = Value.tuple (Array.mk [.agg (Array.mk [.bool false, .int .i64 ((0 : Int)), .int .i64 f, .int .i64 a, .int .i64 x, .int .i64 y]), .bool true]), U64 w, readPart Try.prog 83 cs (o + ((i : Int)).toNat * 1) = some (Value.int IntKind.u64 w), (0 : Int) ≤ (i : Int) ∧ (i : Int) < (n : Int), decide ((↑i : Int) < (↑n : Int)) = true])) : Sat E (inLp (lp Try.f45 0) J) ((fGt cs o n c dim Q).st 0 ⟨i, es, k⟩) :=
 by_ret (T := auto0 t_runpack) (h := hints [(6, 1, {p := true}), (6, 2, {o := some (.int .u64 w)}), (7, 1, {v := some (.tuple ⟨[nd false 0 f a x y, .bool true]⟩)}), (11, 3, ht true)]) (ws := [.b true]) (nx' := 1) hE hm (auto0_ok t_runpack_ok) (by omega) (by simp) (by simp) (by kernel_rfl) hob
theorem gtB1 (cs : List Value) (o n c : Nat) (dim : Int) (Q : GT → Prop) (i k : Nat) (es : List Ent) (w f a x y : Int) (J : _) {E : Env} (hE : EnvOK E Try.prog Try.f45 2 1 (.bool false) [] []) (hob : all ([Back (Value.bool false) (Value.bool false) [] [] [], Value.bool (decide (x ≤ (↑i : Int))) = .bool true, Value.bool (decide (f ≥ dim)) = .bool false, Value.tuple (Array.mk [.agg (Array.mk [.bool (okB w && lfB w), .int .i64 (sV w), .int .i64 (sF w), .int .i64 (sA w), .int .i64 (sX w), .int .i64 (sY w)]), .bool (okB w)]) = Value.tuple (Array.mk [.agg (Array.mk [.bool false, .int .i64 ((0 : Int)), .int .i64 f, .int .i64 a, .int .i64 x, .int .i64 y]), .bool true]), U64 w, readPart Try.prog 83 cs (o + ((i : Int)).toNat * 1) = some (Value.int IntKind.u64 w), (0 : Int) ≤ (i : Int) ∧ (i : Int) < (n : Int), decide ((↑i : Int) < (↑n : Int)) = true])) : Sat E (inLp (lp Try.f45 0) J) ((fGt cs o n c dim Q).st 0 ⟨i, es, k⟩) :=
 by_ret (T := auto0 t_runpack) (h := hints [(6, 1, {p := true}), (6, 2, {o := some (.int .u64 w)}), (7, 1, {v := some (.tuple ⟨[nd false 0 f a x y, .bool true]⟩)}), (11, 3, ht false), (11, 8, ht true)]) (ws := [.b true]) (nx' := 1) hE hm (auto0_ok t_runpack_ok) (by omega) (by simp) (by simp) (by kernel_rfl) hob
theorem gtB2 (cs : List Value) (o n c : Nat) (dim : Int) (Q : GT → Prop) (i k : Nat) (es : List Ent) (w f a x y : Int) (J : _) {E : Env} (hE : EnvOK E Try.prog Try.f45 2 1 (.bool false) [] []) (hob : all ([Back (Value.bool false) (Value.bool false) [] [] [], Value.bool (decide (y ≤ (↑i : Int))) = .bool true, Value.bool (decide (x ≤ (↑i : Int))) = .bool false, Value.bool (decide (f ≥ dim)) = .bool false, Value.tuple (Array.mk [.agg (Array.mk [.bool (okB w && lfB w), .int .i64 (sV w), .int .i64 (sF w), .int .i64 (sA w), .int .i64 (sX w), .int .i64 (sY w)]), .bool (okB w)]) = Value.tuple (Array.mk [.agg (Array.mk [.bool false, .int .i64 ((0 : Int)), .int .i64 f, .int .i64 a, .int .i64 x, .int .i64 y]), .bool true]), U64 w, readPart Try.prog 83 cs (o + ((i : Int)).toNat * 1) = some (Value.int IntKind.u64 w), (0 : Int) ≤ (i : Int) ∧ (i : Int) < (n : Int), decide ((↑i : Int) < (↑n : Int)) = true])) : Sat E (inLp (lp Try.f45 0) J) ((fGt cs o n c dim Q).st 0 ⟨i, es, k⟩) :=
 by_ret (T := auto0 t_runpack) (h := hints [(6, 1, {p := true}), (6, 2, {o := some (.int .u64 w)}), (7, 1, {v := some (.tuple ⟨[nd false 0 f a x y, .bool true]⟩)}), (11, 3, ht false), (11, 8, ht false), (11, 14, ht true)]) (ws := [.b true]) (nx' := 1) hE hm (auto0_ok t_runpack_ok) (by omega) (by simp) (by simp) (by kernel_rfl) hob
theorem gtB3 (cs : List Value) (o n c : Nat) (dim : Int) (Q : GT → Prop) (i k : Nat) (es : List Ent) (w f a x y : Int) (J : _) {E : Env} (hE : EnvOK E Try.prog Try.f45 2 1 (.bool false) [] []) (hob : all ([Back (Value.bool false) (Value.bool false) [] [] [], Value.bool (decide (x ≥ (↑n : Int))) = .bool true, Value.bool (decide (y ≤ (↑i : Int))) = .bool false, Value.bool (decide (x ≤ (↑i : Int))) = .bool false, Value.bool (decide (f ≥ dim)) = .bool false, Value.tuple (Array.mk [.agg (Array.mk [.bool (okB w && lfB w), .int .i64 (sV w), .int .i64 (sF w), .int .i64 (sA w), .int .i64 (sX w), .int .i64 (sY w)]), .bool (okB w)]) = Value.tuple (Array.mk [.agg (Array.mk [.bool false, .int .i64 ((0 : Int)), .int .i64 f, .int .i64 a, .int .i64 x, .int .i64 y]), .bool true]), U64 w, readPart Try.prog 83 cs (o + ((i : Int)).toNat * 1) = some (Value.int IntKind.u64 w), (0 : Int) ≤ (i : Int) ∧ (i : Int) < (n : Int), decide ((↑i : Int) < (↑n : Int)) = true])) : Sat E (inLp (lp Try.f45 0) J) ((fGt cs o n c dim Q).st 0 ⟨i, es, k⟩) :=
 by_ret (T := auto0 t_runpack) (h := hints [(6, 1, {p := true}), (6, 2, {o := some (.int .u64 w)}), (7, 1, {v := some (.tuple ⟨[nd false 0 f a x y, .bool true]⟩)}), (11, 3, ht false), (11, 8, ht false), (11, 14, ht false), (11, 21, ht true)]) (ws := [.b true]) (nx' := 1) hE hm (auto0_ok t_runpack_ok) (by omega) (by simp) (by simp) (by kernel_rfl) hob
theorem gtB4 (cs : List Value) (o n c : Nat) (dim : Int) (Q : GT → Prop) (i k : Nat) (es : List Ent) (w f a x y : Int) (J : _) {E : Env} (hE : EnvOK E Try.prog Try.f45 2 1 (.bool false) [] []) (hob : all ([Back (Value.bool false) (Value.bool false) [] [] [], Value.bool (decide (y ≥ (↑n : Int))) = .bool true, Value.bool (decide (x ≥ (↑n : Int))) = .bool false, Value.bool (decide (y ≤ (↑i : Int))) = .bool false, Value.bool (decide (x ≤ (↑i : Int))) = .bool false, Value.bool (decide (f ≥ dim)) = .bool false, Value.tuple (Array.mk [.agg (Array.mk [.bool (okB w && lfB w), .int .i64 (sV w), .int .i64 (sF w), .int .i64 (sA w), .int .i64 (sX w), .int .i64 (sY w)]), .bool (okB w)]) = Value.tuple (Array.mk [.agg (Array.mk [.bool false, .int .i64 ((0 : Int)), .int .i64 f, .int .i64 a, .int .i64 x, .int .i64 y]), .bool true]), U64 w, readPart Try.prog 83 cs (o + ((i : Int)).toNat * 1) = some (Value.int IntKind.u64 w), (0 : Int) ≤ (i : Int) ∧ (i : Int) < (n : Int), decide ((↑i : Int) < (↑n : Int)) = true])) : Sat E (inLp (lp Try.f45 0) J) ((fGt cs o n c dim Q).st 0 ⟨i, es, k⟩) :=
 by_ret (T := auto0 t_runpack) (h := hints [(6, 1, {p := true}), (6, 2, {o := some (.int .u64 w)}), (7, 1, {v := some (.tuple ⟨[nd false 0 f a x y, .bool true]⟩)}), (11, 3, ht false), (11, 8, ht false), (11, 14, ht false), (11, 21, ht false), (11, 28, ht true)]) (ws := [.b true]) (nx' := 1) hE hm (auto0_ok t_runpack_ok) (by omega) (by simp) (by simp) (by kernel_rfl) hob
theorem gtB5 (cs : List Value) (o n c : Nat) (dim : Int) (Q : GT → Prop) (i k : Nat) (es : List Ent) (w f a x y : Int) (J : _) {E : Env} (hE : EnvOK E Try.prog Try.f45 2 1 (.bool false) [] []) (hob : all ([Back (Value.bool false) (Value.bool false) [] [] [], Value.bool (x == y) = .bool true, Value.bool (decide (y ≥ (↑n : Int))) = .bool false, Value.bool (decide (x ≥ (↑n : Int))) = .bool false, Value.bool (decide (y ≤ (↑i : Int))) = .bool false, Value.bool (decide (x ≤ (↑i : Int))) = .bool false, Value.bool (decide (f ≥ dim)) = .bool false, Value.tuple (Array.mk [.agg (Array.mk [.bool (okB w && lfB w), .int .i64 (sV w), .int .i64 (sF w), .int .i64 (sA w), .int .i64 (sX w), .int .i64 (sY w)]), .bool (okB w)]) = Value.tuple (Array.mk [.agg (Array.mk [.bool false, .int .i64 ((0 : Int)), .int .i64 f, .int .i64 a, .int .i64 x, .int .i64 y]), .bool true]), U64 w, readPart Try.prog 83 cs (o + ((i : Int)).toNat * 1) = some (Value.int IntKind.u64 w), (0 : Int) ≤ (i : Int) ∧ (i : Int) < (n : Int), decide ((↑i : Int) < (↑n : Int)) = true])) : Sat E (inLp (lp Try.f45 0) J) ((fGt cs o n c dim Q).st 0 ⟨i, es, k⟩) :=
 by_ret (T := auto0 t_runpack) (h := hints [(6, 1, {p := true}), (6, 2, {o := some (.int .u64 w)}), (7, 1, {v := some (.tuple ⟨[nd false 0 f a x y, .bool true]⟩)}), (11, 3, ht false), (11, 8, ht false), (11, 14, ht false), (11, 21, ht false), (11, 28, ht false), (11, 35, ht true)]) (ws := [.b true]) (nx' := 1) hE hm (auto0_ok t_runpack_ok) (by omega) (by simp) (by simp) (by kernel_rfl) hob
theorem gtG (cs : List Value) (o n c : Nat) (dim : Int) (Q : GT → Prop) (i k : Nat) (es : List Ent) (k2 : Nat) (es1 es2 : List Ent) (w f a x y g1 g2 h1 h2 : Int) (J : _) {E rv rhs rhv} (hE : EnvOK E Try.prog Try.f45 2 1 rv rhs rhv) (hL : (fGt cs o n c dim Q).OK 1) (hob : all ([SameK (mkLp (lp Try.f45 0) J) (mkLp (lp Try.f45 0) J), Enter (fGt cs o n c dim Q) 0 (some (n - i)) [.slice (some (Addr.mk 0 o none)) n c, .int .i64 dim, .map (some 10), .slice (some (Addr.mk 0 o none)) n c, .int .i64 ((n : Int)), .int .i64 (Int.ofNat i.succ)] [Blk.ro cs, Blk.map [some IntKind.i64] false (some IntKind.i64) es2 (bif mhas (Value.int IntKind.i64 y) es1 then bif mhas (Value.int IntKind.i64 x) es then k else k + 1 else (bif mhas (Value.int IntKind.i64 x) es then k else k + 1) + 1)] [(0, 0), (10, 10), (0, 0)], Value.int IntKind.i64 (IntKind.i64.wrap (Int.ofNat i.succ)) = .int .i64 (Int.ofNat i.succ), mput (Value.int IntKind.i64 y) (Value.int IntKind.i64 h2) (bif mhas (Value.int IntKind.i64 x) es then k else k + 1) es1 = es2, Value.int IntKind.i64 (IntKind.i64.wrap (g2 + (1 : Int))) = .int .i64 h2, Value.int IntKind.i64 (mgetI (Value.int IntKind.i64 y) es1) = .int .i64 g2, mput (Value.int IntKind.i64 x) (Value.int IntKind.i64 h1) k es = es1, Value.int IntKind.i64 (IntKind.i64.wrap (g1 + (1 : Int))) = .int .i64 h1, Value.int IntKind.i64 (mgetI (Value.int IntKind.i64 x) es) = .int .i64 g1, Value.bool (x == y) = .bool false, Value.bool (decide (y ≥ (↑n : Int))) = .bool false, Value.bool (decide (x ≥ (↑n : Int))) = .bool false, Value.bool (decide (y ≤ (↑i : Int))) = .bool false, Value.bool (decide (x ≤ (↑i : Int))) = .bool false, Value.bool (decide (f ≥ dim)) = .bool false, Value.tuple (Array.mk [.agg (Array.mk [.bool (okB w && lfB w), .int .i64 (sV w), .int .i64 (sF w), .int .i64 (sA w), .int .i64 (sX w), .int .i64 (sY w)]), .bool (okB w)]) = Value.tuple (Array.mk [.agg (Array.mk [.bool false, .int .i64 ((0 : Int)), .int .i64 f, .int .i64 a, .int .i64 x, .int .i64 y]), .bool true]), U64 w, readPart Try.prog 83 cs (o + ((i : Int)).toNat * 1) = some (Value.int IntKind.u64 w), (0 : Int) ≤ (i : Int) ∧ (i : Int) < (n : Int), decide ((↑i : Int) < (↑n : Int)) = true])) (hK : ∀ zz, (fGt cs o n c dim Q).inv 0 zz → ltO ((fGt cs o n c dim Q).mu 0 zz) (some (n - i)) → Sat E (mkLp (lp Try.f45 0) J) ((fGt cs o n c dim Q).st 0 zz)) : Sat E (inLp (lp Try.f45 0) J) ((fGt cs o n c dim Q).st 0 ⟨i, es, k⟩) :=
 by_to (T := auto0 t_runpack) (h := hints [(6, 1, {p := true}), (6, 2, {o := some (.int .u64 w)}), (7, 1, {v := some (.tuple ⟨[nd false 0 f a x y, .bool true]⟩)}), (11, 3, ht false), (11, 8, ht false), (11, 14, ht false), (11, 21, ht false), (11, 28, ht false), (11, 35, ht false), (13, 3, {v := some (.int .i64 g1)}), (13, 4, {v := some (.int .i64 h1)}), (13, 5, {e := some es1}), (14, 3, {v := some (.int .i64 g2)}), (14, 4, {v := some (.int .i64 h2)}), (14, 5, {e := some es2}), (15, 0, {v := some (.int .i64 ((i + 1 : Nat) : Int))})]) (ws := [.b true]) (i0 := ⟨i + 1, es2, k2⟩) hE hm (auto0_ok t_runpack_ok) hL (by kernel_rfl) hob hK
theorem gtZ (cs : List Value) (o n c : Nat) (dim : Int) (Q : GT → Prop) (i k : Nat) (es : List Ent) (Q2 : Nat → Prop) (J : _) {E rv rhs rhv} (hE : EnvOK E Try.prog Try.f45 2 1 rv rhs rhv) (hL : (fGn cs o n c es k Q2).OK 1) (hob : all ([SameK (atLp (lp Try.f45 1)) (atLp (lp Try.f45 1)), Enter (fGn cs o n c es k Q2) 0 none [.slice (some (Addr.mk 0 o none)) n c, .map (some 10), .int .i64 ((1 : Int))] [Blk.ro cs, Blk.map [some IntKind.i64] false (some IntKind.i64) es k] [(0, 0), (10, 10)], decide ((↑i : Int) < (↑n : Int)) = false])) (hK : ∀ zz, (fGn cs o n c es k Q2).inv 0 zz → ltO ((fGn cs o n c es k Q2).mu 0 zz) none → Sat E (atLp (lp Try.f45 1)) ((fGn cs o n c es k Q2).st 0 zz)) : Sat E (inLp (lp Try.f45 0) J) ((fGt cs o n c dim Q).st 0 ⟨i, es, k⟩) :=
 by_to (T := auto0 t_runpack) (h := hints []) (ws := [.b false, .stop]) (i0 := 1) hE hm (auto0_ok t_runpack_ok) hL (by kernel_rfl) hob hK
theorem gnY (cs : List Value) (o n c : Nat) (Q : Nat → Prop) (i k : Nat) (es : List Ent) (g : Int) (J : _) {E rv rhs rhv} (hE : EnvOK E Try.prog Try.f45 2 1 rv rhs rhv) (hL : (fGn cs o n c es k Q).OK 1) (hob : all ([SameK (mkLp (lp Try.f45 1) J) (mkLp (lp Try.f45 1) J), Enter (fGn cs o n c es k Q) 0 (some (n - i)) [.slice (some (Addr.mk 0 o none)) n c, .map (some 10), .int .i64 (Int.ofNat i.succ)] [Blk.ro cs, Blk.map [some IntKind.i64] false (some IntKind.i64) es k] [(0, 0), (10, 10)], Value.int IntKind.i64 (IntKind.i64.wrap (Int.ofNat i.succ)) = .int .i64 (Int.ofNat i.succ), (g != (1 : Int)) = false, Value.int IntKind.i64 (mgetI (Value.int IntKind.i64 (↑i : Int)) es) = .int .i64 g, decide ((↑i : Int) < (↑n : Int)) = true])) (hK : ∀ zz, (fGn cs o n c es k Q).inv 0 zz → ltO ((fGn cs o n c es k Q).mu 0 zz) (some (n - i)) → Sat E (mkLp (lp Try.f45 1) J) ((fGn cs o n c es k Q).st 0 zz)) : Sat E (inLp (lp Try.f45 1) J) ((fGn cs o n c es k Q).st 0 i) :=
 by_to (T := auto0 t_runpack) (h := hints [(19, 2, {v := some (.int .i64 g)}), (18, 1, {v := some (.int .i64 ((i + 1 : Nat) : Int))})]) (ws := [.b true, .b false]) (i0 := (i + 1)) hE hm (auto0_ok t_runpack_ok) hL (by kernel_rfl) hob hK
theorem gnN (cs : List Value) (o n c : Nat) (Q : Nat → Prop) (i k : Nat) (es : List Ent) (g : Int) (J : _) {E : Env} (hE : EnvOK E Try.prog Try.f45 2 1 (.bool false) [] []) (hob : all ([Back (Value.bool false) (Value.bool false) [] [] [], (g != (1 : Int)) = true, Value.int IntKind.i64 (mgetI (Value.int IntKind.i64 (↑i : Int)) es) = .int .i64 g, decide ((↑i : Int) < (↑n : Int)) = true])) : Sat E (inLp (lp Try.f45 1) J) ((fGn cs o n c es k Q).st 0 i) :=
 by_ret (T := auto0 t_runpack) (h := hints [(19, 2, {v := some (.int .i64 g)})]) (ws := [.b true, .b true]) (nx' := 1) hE hm (auto0_ok t_runpack_ok) (by omega) (by simp) (by simp) (by kernel_rfl) hob
theorem gnE (cs : List Value) (o n c : Nat) (Q : Nat → Prop) (i k : Nat) (es : List Ent) (J : _) {E : Env} (hE : EnvOK E Try.prog Try.f45 2 1 (.bool true) [] []) (hob : all ([Back (Value.bool true) (Value.bool true) [] [] [], decide ((↑i : Int) < (↑n : Int)) = false])) : Sat E (inLp (lp Try.f45 1) J) ((fGn cs o n c es k Q).st 0 i) :=
 by_ret (T := auto0 t_runpack) (h := hints []) (ws := [.b false]) (nx' := 1) hE hm (auto0_ok t_runpack_ok) (by omega) (by simp) (by simp) (by kernel_rfl) hob
end Go.Proofs.Ythbaccmhdffjdaa.Tr
namespace Go.Proofs.Ythbaccmhdffjdaa.Tr
open Go Go.RowKit Ev NodeE Tr
theorem rtree_spec (cs : List Value) (o n c : Nat) (dim : Int) (hr : eWord.Row cs o n) (hpl : ∀ x ∈ cs, leafG x = true) (hU : ∀ w ∈ eWord.list cs o n, U64 w) (hn : n ≤ 65536) :
  CallSpec Try.prog 45 [.slice (some ⟨0, o, none⟩) n c, .int .i64 dim] (roRows [cs]) 1 (.bool (rightI (eWord.list cs o n) dim)) (assocN [] []) := by
 refine spec_of_sat Try.func45 rfl fun E hE => ?_
 have hlen : (eWord.list cs o n).length = n := Elt.list_len _ _ _
 generalize hws : eWord.list cs o n = ws at hU hlen hE
 refine (Classical.em (1 ≤ n)).symm.elim (fun h1 => ?_) (fun h1 => ?_)
 ·rw [right_len (by omega)] at hE
  exact gtShort cs o n c dim hE ⟨⟨rfl, rfl⟩, (congrArg _ (decide_eq_true (by omega))), trivial⟩
 have g1 : Value.bool (decide ((n : Int) < 1)) = .bool false := congrArg _ (decide_eq_false (by omega))
 refine (Classical.em (n ≤ 31)).symm.elim (fun h31 => ?_) (fun h31 => ?_)
 ·rw [right_len (by omega)] at hE
  exact gtLong cs o n c dim hE ⟨⟨rfl, rfl⟩, (congrArg _ (decide_eq_true (by omega))), g1, trivial⟩
 have g2 : Value.bool (decide ((n : Int) > 31)) = .bool false := congrArg _ (decide_eq_false (by omega))
 let Q : GT → Prop := fun s => s.i ≤ n ∧ (∀ (j : Nat) (w : Int), j < s.i → ws[j]? = some w → goodW dim n j w = true) ∧ keysI s.es ∧ ∀ z, mgetI (kI z) s.es = (named (ws.take s.i) z : Int)
 have okL := fGt_ok cs o n c dim Q hpl
 have rnr : ∀ f : Nat → Nat, Blk.rnB f (.ro cs) = .ro cs := fun f => Blk.plain.rnB (b := .ro cs) hpl f
 have rnm : ∀ (f : Nat → Nat) (es : List Ent) (c : Nat), Blk.rnB f (.map [some .i64] false (some .i64) es c) = .map [some .i64] false (some .i64) es c := fun f es c => rfl
 refine gtIn cs o n c dim Q hE okL ⟨rfl, ⟨⟨0, [], 0⟩, ⟨Nat.zero_le _, fun j w hj => absurd hj (Nat.not_lt_zero _), keysI_nil, fun z => rfl⟩, trivial, rfl, by simp only [fGt, List.map_cons, List.map_nil, rnr, rnm]⟩, g2, g1, trivial⟩ fun zz hz _ => by_loop (fGt cs o n c dim Q) (lp Try.f45 0) ?_ 0 zz hz
 rintro b ⟨i, es, k⟩ hinv J hJ
 have hinv : i ≤ n ∧ (∀ (j : Nat) (w : Int), j < i → ws[j]? = some w → goodW dim n j w = true) ∧ keysI es ∧ ∀ z, mgetI (kI z) es = (named (ws.take i) z : Int) := hinv
 obtain ⟨k1, k2, k3, k4⟩ := hinv
 show Sat E (inLp (lp Try.f45 0) J) ((fGt cs o n c dim Q).st 0 ⟨i, es, k⟩)
 have hJ' : ∀ zz, (fGt cs o n c dim Q).inv 0 zz → ltO ((fGt cs o n c dim Q).mu 0 zz) (some (n - i)) → Sat E (mkLp (lp Try.f45 0) J) ((fGt cs o n c dim Q).st 0 zz) := fun zz h1 h2 => hJ 0 zz h1 h2
 by_cases hin : i < n
 ·have hlt : decide ((i : Int) < (n : Int)) = true := decide_eq_true (by omega)
  obtain ⟨w, hw⟩ : ∃ w, ws[i]? = some w := ⟨_, List.getElem?_eq_getElem (by rw [hlen]; omega)⟩
  have hrd := hr.read1 (P := Try.prog) (ty := 83) (by kernel_rfl) rfl (i := i) (x := w) (by rw [hws]; exact hw) rfl rfl
  rw [← Nat.mul_one i] at hrd
  have htk : ws.take (i + 1) = ws.take i ++ [w] := by rw [List.take_add_one, hw]; rfl
  have nxt : goodW dim n i w = true → ∀ (j : Nat) (v : Int), j < i + 1 → ws[j]? = some v → goodW dim n j v = true := fun hg j v hj hv => by
   by_cases e : j < i
   ·exact k2 j v e hv
   ·obtain rfl : j = i := by omega
    rw [hw] at hv; injection hv with hv; subst hv; exact hg
  cases hgd : goodW dim n i w
  ·have hbad : rightI ws dim = false := right_bad hw (by rw [hlen]; exact hgd)
   rw [hbad] at hE
   cases ho : okB w
   ·exact gtN cs o n c dim Q i k es w J hE ⟨⟨rfl, rfl⟩, unp_no ho, hU w (List.mem_of_getElem? hw), hrd, ⟨Int.natCast_nonneg _, Int.ofNat_lt.2 hin⟩, hlt, trivial⟩
   ·refine (Bool.eq_false_or_eq_true (lfB w)).elim (fun hl => ?_) (fun hl => ?_)
    ·rw [good_leaf ho hl] at hgd; exact absurd hgd (by simp)
    refine (Classical.em (uF w < dim)).symm.elim (fun d0 => ?_) (fun d0 => ?_)
    ·exact gtB0 cs o n c dim Q i k es w (uF w) (low32 w) (uX w) (uY w) J hE ⟨⟨rfl, rfl⟩, (congrArg _ (decide_eq_true (by omega))), unp_inner ho hl, hU w (List.mem_of_getElem? hw), hrd, ⟨Int.natCast_nonneg _, Int.ofNat_lt.2 hin⟩, hlt, trivial⟩
    have e0 : Value.bool (decide (uF w ≥ dim)) = .bool false := congrArg _ (decide_eq_false (by omega))
    refine (Classical.em (¬ uX w ≤ (i : Int))).symm.elim (fun d1 => ?_) (fun d1 => ?_)
    ·exact gtB1 cs o n c dim Q i k es w (uF w) (low32 w) (uX w) (uY w) J hE ⟨⟨rfl, rfl⟩, (congrArg _ (decide_eq_true (by omega))), e0, unp_inner ho hl, hU w (List.mem_of_getElem? hw), hrd, ⟨Int.natCast_nonneg _, Int.ofNat_lt.2 hin⟩, hlt, trivial⟩
    have e1 : Value.bool (decide (uX w ≤ (i : Int))) = .bool false := congrArg _ (decide_eq_false (by omega))
    refine (Classical.em (¬ uY w ≤ (i : Int))).symm.elim (fun d2 => ?_) (fun d2 => ?_)
    ·exact gtB2 cs o n c dim Q i k es w (uF w) (low32 w) (uX w) (uY w) J hE ⟨⟨rfl, rfl⟩, (congrArg _ (decide_eq_true (by omega))), e1, e0, unp_inner ho hl, hU w (List.mem_of_getElem? hw), hrd, ⟨Int.natCast_nonneg _, Int.ofNat_lt.2 hin⟩, hlt, trivial⟩
    have e2 : Value.bool (decide (uY w ≤ (i : Int))) = .bool false := congrArg _ (decide_eq_false (by omega))
    refine (Classical.em (¬ uX w ≥ (n : Int))).symm.elim (fun d3 => ?_) (fun d3 => ?_)
    ·exact gtB3 cs o n c dim Q i k es w (uF w) (low32 w) (uX w) (uY w) J hE ⟨⟨rfl, rfl⟩, (congrArg _ (decide_eq_true (by omega))), e2, e1, e0, unp_inner ho hl, hU w (List.mem_of_getElem? hw), hrd, ⟨Int.natCast_nonneg _, Int.ofNat_lt.2 hin⟩, hlt, trivial⟩
    have e3 : Value.bool (decide (uX w ≥ (n : Int))) = .bool false := congrArg _ (decide_eq_false (by omega))
    refine (Classical.em (¬ uY w ≥ (n : Int))).symm.elim (fun d4 => ?_) (fun d4 => ?_)
    ·exact gtB4 cs o n c dim Q i k es w (uF w) (low32 w) (uX w) (uY w) J hE ⟨⟨rfl, rfl⟩, (congrArg _ (decide_eq_true (by omega))), e3, e2, e1, e0, unp_inner ho hl, hU w (List.mem_of_getElem? hw), hrd, ⟨Int.natCast_nonneg _, Int.ofNat_lt.2 hin⟩, hlt, trivial⟩
    have e4 : Value.bool (decide (uY w ≥ (n : Int))) = .bool false := congrArg _ (decide_eq_false (by omega))
    refine (Classical.em (uX w ≠ uY w)).symm.elim (fun d5 => ?_) (fun d5 => ?_)
    ·exact gtB5 cs o n c dim Q i k es w (uF w) (low32 w) (uX w) (uY w) J hE ⟨⟨rfl, rfl⟩, (congrArg _ (beq_iff_eq.2 (Classical.not_not.1 d5))), e4, e3, e2, e1, e0, unp_inner ho hl, hU w (List.mem_of_getElem? hw), hrd, ⟨Int.natCast_nonneg _, Int.ofNat_lt.2 hin⟩, hlt, trivial⟩
    have e5 : Value.bool ((uX w == uY w)) = .bool false := congrArg _ (beq_eq_false_iff_ne.2 d5)
    rw [good_mk hl ho d0 d5 (by omega) (by omega) (by omega) (by omega)] at hgd
    exact absurd hgd (by simp)
  ·cases hl : lfB w
   ·obtain ⟨ho, d1, d2, d3, d4, d5, d6⟩ := good_inner hgd hl
    have e0 : Value.bool (decide (uF w ≥ dim)) = .bool false := congrArg _ (decide_eq_false (by omega))
    have e1 : Value.bool (decide (uX w ≤ (i : Int))) = .bool false := congrArg _ (decide_eq_false (by omega))
    have e2 : Value.bool (decide (uY w ≤ (i : Int))) = .bool false := congrArg _ (decide_eq_false (by omega))
    have e3 : Value.bool (decide (uX w ≥ (n : Int))) = .bool false := congrArg _ (decide_eq_false (by omega))
    have e4 : Value.bool (decide (uY w ≥ (n : Int))) = .bool false := congrArg _ (decide_eq_false (by omega))
    have e5 : Value.bool ((uX w == uY w)) = .bool false := congrArg _ (beq_eq_false_iff_ne.2 d2)
    have hlX := named_le (ws.take i) (uX w)
    have hlY := named_le (ws.take i) (uY w)
    have htl : (ws.take i).length ≤ 31 := by rw [List.length_take, hlen]; omega
    have m1 : mgetI (kI (uY w)) (mput (kI (uX w)) (kI ((named (ws.take i) (uX w) : Int) + 1)) k es) = (named (ws.take i) (uY w) : Int) := by
     rw [mgetI_putI k3, k4]
     have : (uY w == uX w) = false := beq_eq_false_iff_ne.2 (fun h => d2 h.symm)
     rw [this]; rfl
    have k3a := keysI_put k3 (uX w) (kI ((named (ws.take i) (uX w) : Int) + 1)) k
    have m2 : ∀ (c' : Nat) (z : Int), mgetI (kI z) (mput (kI (uY w)) (kI ((named (ws.take i) (uY w) : Int) + 1)) c' (mput (kI (uX w)) (kI ((named (ws.take i) (uX w) : Int) + 1)) k es)) = (named (ws.take (i + 1)) z : Int) := fun c' z => by
     rw [mgetI_putI k3a, mgetI_putI k3, k4, htk, named_snoc]
     simp only [namesW, hl, cond_false, List.count_cons, List.count_nil]
     by_cases e1 : z = uY w
     ·subst e1
      have : (uX w == uY w) = false := beq_eq_false_iff_ne.2 d2
      simp [this]
     ·have a1 : (z == uY w) = false := beq_eq_false_iff_ne.2 e1
      have a2 : (uY w == z) = false := beq_eq_false_iff_ne.2 fun h => e1 h.symm
      by_cases e2 : z = uX w
      ·subst e2; simp [a1, a2]
      ·have b1 : (z == uX w) = false := beq_eq_false_iff_ne.2 e2
       have b2 : (uX w == z) = false := beq_eq_false_iff_ne.2 fun h => e2 h.symm
       simp [a1, a2, b1, b2]
    exact gtG cs o n c dim Q i k es 0 _ _ w (uF w) (low32 w) (uX w) (uY w) (named (ws.take i) (uX w) : Int) (named (ws.take i) (uY w) : Int) ((named (ws.take i) (uX w) : Int) + 1) ((named (ws.take i) (uY w) : Int) + 1) J hE okL ⟨rfl, ⟨⟨i + 1, _, _⟩, ⟨hin, nxt hgd, keysI_put k3a _ _ _, m2 _⟩, (by show n - (i + 1) < n - i; omega), rfl, by simp only [fGt, List.map_cons, List.map_nil, rnr, rnm]; rfl⟩, i64_succ (by omega), rfl, (i64_id rfl (by omega) (by omega)), (congrArg _ m1), rfl, (i64_id rfl (by omega) (by omega)), (congrArg _ (k4 _)), e5, e4, e3, e2, e1, e0, unp_inner ho hl, hU w (List.mem_of_getElem? hw), hrd, ⟨Int.natCast_nonneg _, Int.ofNat_lt.2 hin⟩, hlt, trivial⟩ hJ'
   ·have ho : okB w = true := by simp [goodW] at hgd; exact hgd.1
    exact gtF cs o n c dim Q i k es w (low32 w) J hE okL ⟨rfl, ⟨⟨i + 1, es, k⟩, ⟨hin, nxt hgd, k3, fun z => by rw [k4 z, htk, named_snoc]; simp [namesW, hl]⟩, (by show n - (i + 1) < n - i; omega), rfl, by simp only [fGt, List.map_cons, List.map_nil, rnr, rnm]⟩, i64_succ (by omega), unp_leaf ho hl, hU w (List.mem_of_getElem? hw), hrd, ⟨Int.natCast_nonneg _, Int.ofNat_lt.2 hin⟩, hlt, trivial⟩ hJ'
 ·have hlt : decide ((i : Int) < (n : Int)) = false := decide_eq_false (by omega)
  obtain rfl : i = n := by omega
  have hall : ∀ (j : Nat) (w : Int), ws[j]? = some w → goodW dim i j w = true := fun j w hw => k2 j w (by have := (List.getElem?_eq_some_iff.1 hw).1; omega) hw
  rw [List.take_of_length_le (by omega)] at k4
  let Q2 : Nat → Prop := fun j => 1 ≤ j ∧ j ≤ i ∧ ∀ m : Nat, 1 ≤ m → m < j → named ws (m : Int) = 1
  refine gtZ cs o i c dim Q i k es Q2 J hE (fGn_ok cs o i c es k Q2 hpl) ⟨rfl, ⟨1, ⟨Nat.le_refl _, h1, fun m a b => by omega⟩, trivial, rfl, by simp only [fGn, List.map_cons, List.map_nil, rnr, rnm]⟩, hlt, trivial⟩ fun zz hz _ => by_loop (fGn cs o i c es k Q2) (lp Try.f45 1) ?_ 0 zz hz
  rintro b j hinv J hJ
  have hinv : 1 ≤ j ∧ j ≤ i ∧ ∀ m : Nat, 1 ≤ m → m < j → named ws (m : Int) = 1 := hinv
  obtain ⟨m0, m1, m2⟩ := hinv
  show Sat E (inLp (lp Try.f45 1) J) ((fGn cs o i c es k Q2).st 0 j)
  have hJ' : ∀ zz, (fGn cs o i c es k Q2).inv 0 zz → ltO ((fGn cs o i c es k Q2).mu 0 zz) (some (i - j)) → Sat E (mkLp (lp Try.f45 1) J) ((fGn cs o i c es k Q2).st 0 zz) := fun zz h1 h2 => hJ 0 zz h1 h2
  by_cases hji : j < i
  ·have hlt : decide ((j : Int) < (i : Int)) = true := decide_eq_true (by omega)
   by_cases h1' : named ws (j : Int) = 1
   ·exact gnY cs o i c Q2 j k es _ J hE (fGn_ok cs o i c es k Q2 hpl) ⟨rfl, ⟨j + 1, ⟨by omega, by omega, fun m a b => by
      by_cases e : m < j
      ·exact m2 m a e
      ·obtain rfl : m = j := by omega
       exact h1'⟩, (by show i - (j + 1) < i - j; omega), rfl, by simp only [fGn, List.map_cons, List.map_nil, rnr, rnm]⟩, i64_succ (by omega), (by rw [h1']; rfl), (congrArg _ (k4 _)), hlt, trivial⟩ hJ'
   ·rw [right_once (k := j) (by omega) (by omega) h1'] at hE
    exact gnN cs o i c Q2 j k es _ J hE ⟨⟨rfl, rfl⟩, (by simp only [bne_iff_ne, ne_eq]; omega), (congrArg _ (k4 _)), hlt, trivial⟩
  ·have hlt : decide ((j : Int) < (i : Int)) = false := decide_eq_false (by omega)
   have hR : rightI ws dim = true := right_parts.2 ⟨⟨by omega, by omega⟩, fun j w hw => by rw [hlen]; exact hall j w hw, fun m a b => m2 m a (by omega)⟩
   rw [hR] at hE
   exact gnE cs o i c Q2 j k es J hE ⟨⟨rfl, rfl⟩, hlt, trivial⟩
theorem rtree_sum : SumOK Try.prog 45 (roSum right_F) := by
 refine roSum_ok (en Try.func45 rfl) ?_ (fun xs css r h => ?_)
 ·intro xs css v blks ob h hob hpl hl
  unfold right_F at h
  split at h
  ·rename_i o n c dim cs
   simp only [Option.some.injEq, Prod.mk.injEq] at h
   obtain ⟨rfl, rfl, rfl⟩ := h
   refine ⟨by simp, by simp, fun j hj => by simp [nms, nm1, nmL, nm0] at hj, ?_⟩
   exact rtree_spec cs o n c dim (hob _ (List.mem_cons_self ..)) (hpl cs (by simp)) (hob _ (List.mem_cons_of_mem _ (List.mem_cons_self ..))) (hob _ (by simp))
  ·rename_i dim
   simp only [Option.some.injEq, Prod.mk.injEq] at h
   obtain ⟨rfl, rfl, rfl⟩ := h
   refine ⟨by simp, by simp, fun j hj => by simp [nms, nm1, nmL, nm0] at hj, ?_⟩
   exact spec_of_sat Try.func45 rfl fun E hE => gtNil dim hE ⟨⟨rfl, rfl⟩, trivial⟩
  ·simp at h
 ·unfold right_F at h
  split at h <;> simp at h <;> simp
end Go.Proofs.Ythbaccmhdffjdaa.Tr
namespace Go.Proofs.Ythbaccmhdffjdaa.Tr
end Go.Proofs.Ythbaccmhdffjdaa.Tr
namespace Go.Proofs.Ythbaccmhdffjdaa.Tr
end Go.Proofs.Ythbaccmhdffjdaa.Tr
namespace Go.Proofs.Ythbaccmhdffjdaa.NodeE
open Go Go.RowKit Ev BitLib BitsA NodeB Within
def bring_F : List Value → Option (Value × List Prop)
 | [.int .i64 n, .int .i64 lo, .int .i64 hi] => some (.int .i64 (withinS n lo hi), [I64 n, -2305843009213693952 ≤ lo, lo ≤ hi, hi ≤ 2305843009213693952])
 | _ => none
theorem bring_sum : SumOK Try.prog 19 (sumOf bring_F) := by
 refine sumOf_ok (en Try.func19 rfl) fun args v ob h hob => ?_
 unfold bring_F at h
 split at h
 ·rename_i n lo hi
  obtain ⟨rfl, rfl⟩ := Prod.mk.inj (Option.some.inj h)
  clear h
  have h1 := hob (I64 n) (by simp)
  have h2 := hob (-2305843009213693952 ≤ lo) (by simp)
  have h3 := hob (lo ≤ hi) (by simp)
  have h4 := hob (hi ≤ 2305843009213693952) (by simp)
  exact ⟨rfl, rfl, fun w => (within_calls n lo hi h1.1 h1.2 h2 h3 h4 w).mono fun e w' ⟨he, hw⟩ => ⟨he, hw ▸ Below.refl _ _⟩⟩
 ·exact absurd h (by simp)
noncomputable def t_bring : Sums := upd t_runpack 19 (some (sumOf bring_F))
theorem t_bring_ok : SumsOK Try.prog t_bring := sums_cons t_runpack_ok bring_sum
end Go.Proofs.Ythbaccmhdffjdaa.NodeE
namespace Go.Proofs.Ythbaccmhdffjdaa.NodeE
open Go Go.RowKit Ev BitLib BitsA NodeB
theorem pack_unp {l : Bool} {v f a x y : Int} (h : rightB l v f a x y = true) : U64 (packS l v f a x y) ∧ okB (packS l v f a x y) = true ∧ unp (packS l v f a x y) = .tuple ⟨[nd l v f a x y, .bool true]⟩ := by
 have hpos := pack_pos h
 cases l
 ·have hP : packS false v f a x y = w4 a f x y := by simp only [packS, packI, h, cond_true, cond_false]
  obtain ⟨rfl, f0, f1, a0, ⟨x0, x1⟩, y0, y1⟩ := right_inner h
  have hl : lfB (w4 a f x y) = false := decide_eq_false (by show ¬ 9223372036854775808 ≤ a % 4294967296 + f * 4294967296 + x * 1099511627776 + y * 281474976710656; omega)
  have e1 : low32 (w4 a f x y) = a := by unfold low32; show (a % 4294967296 + f * 4294967296 + x * 1099511627776 + y * 281474976710656 + 2147483648) % 4294967296 - 2147483648 = a; omega
  have e2 : uF (w4 a f x y) = f := by rw [uF_eq]; show (a % 4294967296 + f * 4294967296 + x * 1099511627776 + y * 281474976710656) / 4294967296 % 16 = f; omega
  have e3 : uX (w4 a f x y) = x := by rw [uX_eq]; show (a % 4294967296 + f * 4294967296 + x * 1099511627776 + y * 281474976710656) / 1099511627776 % 256 = x; omega
  have e4 : uY (w4 a f x y) = y := by rw [uY_eq]; show (a % 4294967296 + f * 4294967296 + x * 1099511627776 + y * 281474976710656) / 281474976710656 % 256 = y; omega
  have ho : okB (w4 a f x y) = true := by
   simp only [okB, pkB, hl, cond_false, e1, e2, e3, e4, hP, beq_self_eq_true, Bool.and_true]
   rw [hP] at hpos
   simp only [Bool.not_eq_true', beq_eq_false_iff_ne]
   show a % 4294967296 + f * 4294967296 + x * 1099511627776 + y * 281474976710656 ≠ 0
   have : 0 < a % 4294967296 + f * 4294967296 + x * 1099511627776 + y * 281474976710656 := hpos
   omega
  rw [hP]
  refine ⟨(show 0 ≤ a % 4294967296 + f * 4294967296 + x * 1099511627776 + y * 281474976710656 ∧ a % 4294967296 + f * 4294967296 + x * 1099511627776 + y * 281474976710656 ≤ _ by omega), ho, ?_⟩
  rw [unp_inner ho hl, e1, e2, e3, e4]
 ·have hP : packS true v f a x y = 9223372036854775808 + v % 4294967296 := by simp only [packS, packI, h, cond_true]
  obtain ⟨⟨rfl, rfl, rfl, rfl⟩, v0, v1⟩ := right_leaf h
  have hl : lfB (9223372036854775808 + v % 4294967296) = true := decide_eq_true (by omega)
  have e1 : low32 (9223372036854775808 + v % 4294967296) = v := by unfold low32; omega
  have ho : okB (9223372036854775808 + v % 4294967296) = true := by
   simp only [okB, pkB, hl, cond_true, e1, hP, beq_self_eq_true, Bool.and_true]
   simp only [Bool.not_eq_true', beq_eq_false_iff_ne]
   omega
  rw [hP]
  refine ⟨⟨by omega, by omega⟩, ho, ?_⟩
  rw [unp_leaf ho hl, e1]
end Go.Proofs.Ythbaccmhdffjdaa.NodeE
namespace Go.Proofs.Ythbaccmhdffjdaa.Tr
open Go Go.RowKit Ev Within PickE NodeE Tn
def rightN (n : Nd) : Bool := rightB n.leaf n.v n.f n.a n.x n.y
def namesN (n : Nd) : List Int := bif n.leaf then [] else [n.x, n.y]
def cntN (nodes : List Nd) (k : Int) : Nat := (nodes.flatMap namesN).count k
theorem pack_tells {n : Nd} (h : rightN n = true) : U64 (packN n) ∧ okB (packN n) = true ∧ lfB (packN n) = n.leaf ∧ (n.leaf = true → low32 (packN n) = n.v) ∧ (n.leaf = false → uF (packN n) = n.f ∧ low32 (packN n) = n.a ∧ uX (packN n) = n.x ∧ uY (packN n) = n.y) := by
 obtain ⟨h1, h2, h3⟩ := pack_unp (l := n.leaf) (v := n.v) (f := n.f) (a := n.a) (x := n.x) (y := n.y) h
 refine ⟨h1, h2, ?_⟩
 show lfB (packN n) = n.leaf ∧ _
 have h3 : unp (packN n) = .tuple ⟨[nd n.leaf n.v n.f n.a n.x n.y, .bool true]⟩ := h3
 have h2 : okB (packN n) = true := h2
 cases hl : lfB (packN n)
 ·rw [unp_inner h2 hl] at h3
  simp only [nd, Value.tuple.injEq, Array.mk.injEq, List.cons.injEq, Value.agg.injEq, Value.bool.injEq, Value.int.injEq, true_and, and_true] at h3
  obtain ⟨e0, e1, e2, e3, e4, e5⟩ := h3
  exact ⟨e0, fun h => by rw [← e0] at h; exact absurd h (by simp), fun _ => ⟨e2, e3, e4, e5⟩⟩
 ·rw [unp_leaf h2 hl] at h3
  simp only [nd, Value.tuple.injEq, Array.mk.injEq, List.cons.injEq, Value.agg.injEq, Value.bool.injEq, Value.int.injEq, true_and, and_true] at h3
  obtain ⟨e0, e1, e2, e3, e4, e5⟩ := h3
  exact ⟨e0, fun _ => e1, fun h => by rw [← e0] at h; exact absurd h (by simp)⟩
theorem names_pack {n : Nd} (h : rightN n = true) : namesW (packN n) = namesN n := by
 obtain ⟨_, _, h3, _, h5⟩ := pack_tells h
 unfold namesW namesN
 rw [h3]
 cases hl : n.leaf
 ·obtain ⟨_, _, e3, e4⟩ := h5 hl
  rw [e3, e4]
 ·rfl
theorem named_pack {nodes : List Nd} (h : ∀ n ∈ nodes, rightN n = true) (k : Int) : named (nodes.map packN) k = cntN nodes k := by
 induction nodes with
 | nil => rfl
 | cons n nodes ih =>
  simp only [named, cntN, List.map_cons, List.flatMap_cons, List.count_append] at ih ⊢
  rw [names_pack (h n (by simp)), ih fun m hm => h m (by simp [hm])]
structure NdR (dim : Int) (i : Nat) (nodes : List Nd) (leaves : List Int) : Prop where
 nl : nodes.length = 2 * i + 1
 ll : leaves.length = i + 1
 nodup : leaves.Nodup
 leaf : ∀ l ∈ leaves, 0 ≤ l ∧ ∃ n, nodes[l.toNat]? = some n ∧ n.leaf = true
 right : ∀ n ∈ nodes, rightN n = true
 inner : ∀ (j : Nat) (n : Nd), nodes[j]? = some n → n.leaf = false → n.f < dim ∧ n.x ≠ n.y ∧ (j : Int) < n.x ∧ (j : Int) < n.y ∧ n.x < nodes.length ∧ n.y < nodes.length
 once : ∀ k : Nat, 1 ≤ k → k < nodes.length → cntN nodes (k : Int) = 1
 lc : ((nodes.filter fun n => n.leaf).length = i + 1)
theorem cnt_app (l m : List Nd) (k : Int) : cntN (l ++ m) k = cntN l k + cntN m k := by simp [cntN, List.flatMap_append, List.count_append]
theorem set_split {α : Type} {l : List α} {a : Nat} {x y : α} (h : l[a]? = some x) : l = l.take a ++ x :: l.drop (a + 1) ∧ l.set a y = l.take a ++ y :: l.drop (a + 1) := by
 have hlt := (List.getElem?_eq_some_iff.1 h).1
 have he := (List.getElem?_eq_some_iff.1 h).2
 refine ⟨?_, by rw [List.set_eq_take_append_cons_drop, if_pos hlt]⟩
 conv => lhs; rw [← List.take_append_drop a l]
 rw [List.drop_eq_getElem_cons hlt, he]
theorem cnt_set {nodes : List Nd} {a : Nat} {n m : Nd} (h : nodes[a]? = some n) (hl : n.leaf = true) (k : Int) : cntN (nodes.set a m) k = cntN nodes k + (namesN m).count k := by
 obtain ⟨e1, e2⟩ := set_split (y := m) h
 have hn : namesN n = [] := by simp [namesN, hl]
 rw [e2]
 conv => rhs; rw [e1]
 simp only [cntN, List.flatMap_append, List.flatMap_cons, List.count_append, hn, List.count_nil]
 omega
theorem cnt_ge {nodes : List Nd} {N k : Int} (h : ∀ n ∈ nodes, n.leaf = false → n.x < N ∧ n.y < N) (hk : N ≤ k) : cntN nodes k = 0 := by
 unfold cntN
 rw [List.count_eq_zero]
 intro hm
 obtain ⟨n, hn, hm⟩ := List.mem_flatMap.1 hm
 unfold namesN at hm
 cases hl : n.leaf
 ·rw [hl] at hm
  have := h n hn hl
  simp at hm
  omega
 ·rw [hl] at hm; simp at hm
theorem right_lf {z : Int} (h : -3000 ≤ z ∧ z ≤ 3000) : rightN ⟨true, z, 0, 0, 0, 0⟩ = true := by
 show rightB true z 0 0 0 0 = true
 simp [rightB, fitB]; omega
theorem right_in {f a x y : Int} (hf : 0 ≤ f ∧ f < 4) (ha : 0 ≤ a ∧ a ≤ 9) (hx : 1 ≤ x ∧ x < 31) (hy : 1 ≤ y ∧ y < 31) : rightN ⟨false, 0, f, a, x, y⟩ = true := by
 show rightB false 0 f a x y = true
 simp [rightB, fitB, chB]; omega
theorem ndr0 (dim z : Int) (h : -3000 ≤ z ∧ z ≤ 3000) : NdR dim 0 [⟨true, z, 0, 0, 0, 0⟩] [0] := by
 refine ⟨rfl, rfl, by simp, fun l hl => ?_, fun n hn => ?_, fun j n hj hl => ?_, fun k h1 h2 => ?_, rfl⟩
 ·simp at hl; subst hl; exact ⟨Int.le_refl _, ⟨true, z, 0, 0, 0, 0⟩, rfl, rfl⟩
 ·simp at hn; subst hn; exact right_lf h
 ·cases j with
  | zero => simp at hj; subst hj; exact absurd hl (by simp)
  | succ j => simp at hj
 ·simp at h2; omega
theorem ndr_step {bl al vl : List Int} {dim pz : Int} {i : Nat} {nodes : List Nd} {leaves : List Int} (hd : 1 ≤ dim ∧ dim ≤ 4) (hi : i < 7) (h : NdR dim i nodes leaves) : NdR dim (i + 1) (ndNodes bl al vl dim pz i nodes leaves) (ndLeaves pz nodes leaves) := by
 have hne : leaves ≠ [] := fun e => by have := h.ll; rw [e] at this; simp at this
 have hk := (nd_k (pz := pz) hne).2
 have hpl := Tn.nd_pl (pz := pz) hne
 have hnl := h.nl
 have hll := h.ll
 have hmem : ndPl pz leaves ∈ leaves := List.mem_of_getElem? hpl
 obtain ⟨p0, n0, hn0, hl0⟩ := h.leaf _ hmem
 have hlt0 := (List.getElem?_eq_some_iff.1 hn0).1
 have hlen : (ndNodes bl al vl dim pz i nodes leaves).length = nodes.length + 2 := by simp [ndNodes]
 have hold : ∀ l ∈ leaves, l < nodes.length := fun l hl => by
  obtain ⟨q0, n, hn, _⟩ := h.leaf l hl
  have := (List.getElem?_eq_some_iff.1 hn).1
  omega
 have hf := within_range (pickI bl i) (show (0 : Int) ≤ dim - 1 by omega)
 have ha := within_range (pickI al i) (show (0 : Int) ≤ 9 by omega)
 have v1 := within_range (pickI vl (2 * i + 1)) (show (-3000 : Int) ≤ 3000 by omega)
 have v2 := within_range (pickI vl (2 * i + 2)) (show (-3000 : Int) ≤ 3000 by omega)
 have hnd : ∀ l ∈ leaves.take (ndK pz leaves) ++ leaves.drop (ndK pz leaves + 1), l ∈ leaves ∧ l ≠ ndPl pz leaves := by
  obtain ⟨e1, _⟩ := set_split (y := (0 : Int)) hpl
  have hd := h.nodup
  rw [e1] at hd
  have hd2 := List.nodup_append.1 hd
  intro l hl
  refine ⟨?_, fun e => ?_⟩
  ·rcases List.mem_append.1 hl with hl | hl
   ·exact List.mem_of_mem_take hl
   ·exact List.mem_of_mem_drop hl
  ·subst e
   rcases List.mem_append.1 hl with hl | hl
   ·exact hd2.2.2 _ hl _ (List.mem_cons_self ..) rfl
   ·exact (List.nodup_cons.1 hd2.2.1).1 hl
 have hnodup : (leaves.take (ndK pz leaves) ++ leaves.drop (ndK pz leaves + 1)).Nodup := by
  obtain ⟨e1, _⟩ := set_split (y := (0 : Int)) hpl
  have hd := h.nodup
  rw [e1] at hd
  have hd2 := List.nodup_append.1 hd
  exact List.nodup_append.2 ⟨hd2.1, (List.nodup_cons.1 hd2.2.1).2, fun a ha b hb => hd2.2.2 a ha b (List.mem_cons_of_mem _ hb)⟩
 refine ⟨by omega, by simp [ndLeaves]; omega, ?_, fun l hl => ?_, fun n hn => ?_, fun j n hj hl => ?_, fun k h1 h2 => ?_, ?_⟩
 ·unfold ndLeaves
  refine List.nodup_append.2 ⟨hnodup, by simp; omega, fun a ha b hb => ?_⟩
  have := hold a (hnd a ha).1
  simp at hb
  omega
 ·unfold ndLeaves at hl
  rcases List.mem_append.1 hl with hl | hl
  ·obtain ⟨m1, m2⟩ := hnd l hl
   obtain ⟨q0, n, hn, hlf⟩ := h.leaf l m1
   have hlt := (List.getElem?_eq_some_iff.1 hn).1
   refine ⟨q0, n, ?_, hlf⟩
   unfold ndNodes
   rw [List.getElem?_append_left (by simpa using hlt), List.getElem?_set_ne (by omega)]
   exact hn
  ·simp at hl
   rcases hl with rfl | rfl
   ·refine ⟨by omega, ⟨true, withinS (pickI vl (2 * i + 1)) (-3000) 3000, 0, 0, 0, 0⟩, ?_, rfl⟩
    unfold ndNodes
    rw [List.getElem?_append_right (by simp)]
    simp
   ·refine ⟨by omega, ⟨true, withinS (pickI vl (2 * i + 2)) (-3000) 3000, 0, 0, 0, 0⟩, ?_, rfl⟩
    unfold ndNodes
    have e : ((nodes.length : Int) + 1).toNat = nodes.length + 1 := by omega
    rw [e, List.getElem?_append_right (by simp)]
    simp
 ·simp only [ndNodes, List.mem_append, List.mem_cons, List.not_mem_nil, or_false] at hn
  rcases hn with hn | rfl | rfl
  ·rcases List.mem_or_eq_of_mem_set hn with hn | rfl
   ·exact h.right n hn
   ·exact right_in (by omega) ha (by omega) (by omega)
  ·exact right_lf v1
  ·exact right_lf v2
 ·rw [hlen]
  unfold ndNodes at hj
  by_cases hjl : j < nodes.length
  ·rw [List.getElem?_append_left (by simpa using hjl)] at hj
   by_cases e : (ndPl pz leaves).toNat = j
   ·rw [← e, List.getElem?_set_self hlt0] at hj
    injection hj with hj
    subst hj
    simp only
    omega
   ·rw [List.getElem?_set_ne e] at hj
    have := h.inner j n hj hl
    omega
  ·rw [List.getElem?_append_right (by simp; omega)] at hj
   have hm := List.mem_of_getElem? hj
   simp at hm
   rcases hm with rfl | rfl <;> exact absurd hl (by simp)
 ·rw [hlen] at h2
  have hold2 : ∀ n ∈ nodes, n.leaf = false → n.x < (nodes.length : Int) ∧ n.y < (nodes.length : Int) := fun n hn hl => by
   obtain ⟨j, hj⟩ := List.mem_iff_getElem?.1 hn
   have := h.inner j n hj hl
   omega
  unfold ndNodes
  rw [cnt_app, cnt_set hn0 hl0]
  have hz : cntN [⟨true, withinS (pickI vl (2 * i + 1)) (-3000) 3000, 0, 0, 0, 0⟩, ⟨true, withinS (pickI vl (2 * i + 2)) (-3000) 3000, 0, 0, 0, 0⟩] (k : Int) = 0 := rfl
  rw [hz]
  simp only [namesN, cond_false, List.count_cons, List.count_nil]
  by_cases hkl : k < nodes.length
  ·rw [h.once k h1 hkl]
   have e1 : ((nodes.length : Int) == (k : Int)) = false := by simp; omega
   have e2 : ((nodes.length : Int) + 1 == (k : Int)) = false := by simp; omega
   simp [e1, e2]
  ·rw [cnt_ge hold2 (by omega)]
   by_cases e : k = nodes.length
   ·subst e
    have e2 : ((nodes.length : Int) + 1 == (nodes.length : Int)) = false := by simp; omega
    simp [e2]
   ·have e1 : ((nodes.length : Int) == (k : Int)) = false := by simp; omega
    have e2 : ((nodes.length : Int) + 1 == (k : Int)) = true := by simp; omega
    simp [e1, e2]
 ·obtain ⟨e1, e2⟩ := set_split (y := (⟨false, 0, withinS (pickI bl i) 0 (dim - 1), withinS (pickI al i) 0 9, nodes.length, (nodes.length : Int) + 1⟩ : Nd)) hn0
  have hlc := h.lc
  rw [e1] at hlc
  unfold ndNodes
  rw [e2]
  simp only [List.filter_append, List.filter_cons, hl0, List.length_append, if_true, Bool.false_eq_true, if_false, List.filter_nil, List.length_cons, List.length_nil] at hlc ⊢
  omega
theorem ndr_go {bl al vl : List Int} {dim : Int} (hd : 1 ≤ dim ∧ dim ≤ 4) : ∀ {ps : List Int} {i : Nat} {nodes : List Nd} {leaves : List Int}, i + ps.length ≤ 7 → NdR dim i nodes leaves → ∃ leaves', NdR dim (i + ps.length) (ndGo bl al vl dim ps i nodes leaves) leaves'
 | [], i, nodes, leaves, _, h => ⟨leaves, h⟩
 | pz :: ps, i, nodes, leaves, hl, h => by
  simp only [List.length_cons] at hl
  obtain ⟨l', h'⟩ := ndr_go hd (ps := ps) (i := i + 1) (by omega) (ndr_step (bl := bl) (al := al) (vl := vl) (pz := pz) hd (by omega) h)
  refine ⟨l', ?_⟩
  simp only [ndGo, List.length_cons]
  rw [show i + (ps.length + 1) = i + 1 + ps.length by omega]
  exact h'
theorem nodes_ndr (pl bl al vl : List Int) {dim : Int} (hd : 1 ≤ dim ∧ dim ≤ 4) : ∃ i leaves, i ≤ 7 ∧ NdR dim i (nodesI pl bl al vl dim) leaves := by
 obtain ⟨l, h⟩ := ndr_go (bl := bl) (al := al) (vl := vl) hd (ps := pl.take 7) (i := 0) (by rw [List.length_take]; omega) (ndr0 dim _ (within_range (pickI vl 0) (show (-3000 : Int) ≤ 3000 by omega)))
 exact ⟨_, l, by rw [List.length_take]; omega, h⟩
abbrev wordsI (pl bl al vl : List Int) (dim : Int) : List Int := (nodesI pl bl al vl dim).map packN
theorem nodes_right (pl bl al vl : List Int) {dim : Int} (hd : 1 ≤ dim ∧ dim ≤ 4) : rightI (wordsI pl bl al vl dim) dim = true ∧ (∀ w ∈ wordsI pl bl al vl dim, U64 w) ∧ (wordsI pl bl al vl dim).length ≤ 15 := by
 obtain ⟨i, leaves, hi, h⟩ := nodes_ndr pl bl al vl hd
 have hnl := h.nl
 refine ⟨right_parts.2 ⟨⟨by simp; omega, by simp; omega⟩, fun j w hw => ?_, fun k h1 h2 => ?_⟩, fun w hw => ?_, by simp; omega⟩
 ·rw [List.getElem?_map] at hw
  cases hn : (nodesI pl bl al vl dim)[j]? with
  | none => rw [hn] at hw; simp at hw
  | some n =>
   rw [hn] at hw
   simp at hw
   subst hw
   have hr := h.right n (List.mem_of_getElem? hn)
   obtain ⟨_, t1, t2, _, t4⟩ := pack_tells hr
   cases hl : n.leaf
   ·rw [hl] at t2
    obtain ⟨a1, a2, a3, a4⟩ := t4 hl
    obtain ⟨b1, b2, b3, b4, b5, b6⟩ := h.inner j n hn hl
    rw [List.length_map]
    exact good_mk t2 t1 (by omega) (by omega) (by omega) (by omega) (by omega) (by omega)
   ·rw [hl] at t2
    exact good_leaf t1 t2
 ·rw [named_pack h.right]
  exact h.once k h1 (by simpa using h2)
 ·obtain ⟨n, hn, rfl⟩ := List.mem_map.1 hw
  exact (pack_tells (h.right n hn)).1
theorem right_ok {ws : List Int} {dim : Int} (h : rightI ws dim = true) : ∀ w ∈ ws, okB w = true := fun w hw => by
 obtain ⟨j, hj⟩ := List.mem_iff_getElem?.1 hw
 have := (right_parts.1 h).2.1 j w hj
 simp [goodW] at this
 exact this.1
theorem goes_next {ws : List Int} {dim : Int} (h : rightI ws dim = true) {p : Pt} {a : Nat} {w : Int} (hw : ws[a]? = some w) (hl : lfB w = false) : a < (goes p w).toNat ∧ (goes p w).toNat < ws.length := by
 obtain ⟨_, _, _, h3, h4, h5, h6⟩ := good_inner ((right_parts.1 h).2.1 a w hw) hl
 unfold goes
 cases decide (p.at (uF w) ≤ low32 w)
 ·simp only [cond_false]; omega
 ·simp only [cond_true]; omega
theorem goW_ends {ws : List Int} {dim : Int} (h : rightI ws dim = true) (p : Pt) : ∀ (k a : Nat), a < ws.length → ws.length ≤ k + a → ∃ b, goW ws p k a = some b
 | 0, a, h1, h2 => by omega
 | k + 1, a, h1, h2 => by
  have hw : ws[a]? = some ws[a] := List.getElem?_eq_getElem h1
  have ho := right_ok h _ (List.mem_of_getElem? hw)
  cases hl : lfB ws[a]
  ·rw [goW_step hw ho hl]
   obtain ⟨g1, g2⟩ := goes_next h (p := p) hw hl
   exact goW_ends h p k _ g2 (by omega)
  ·rw [goW_leaf hw ho hl]; exact ⟨a, rfl⟩
theorem walk_ends {ws : List Int} {dim : Int} (h : rightI ws dim = true) (p : Pt) : ∃ b, goW ws p 31 0 = some b := by
 obtain ⟨⟨h1, h2⟩, _⟩ := right_parts.1 h
 exact goW_ends h p 31 0 (by omega) (by omega)
end Go.Proofs.Ythbaccmhdffjdaa.Tr
namespace Go.Proofs.Ythbaccmhdffjdaa.Tr
end Go.Proofs.Ythbaccmhdffjdaa.Tr
namespace Go.Proofs.Ythbaccmhdffjdaa.BoxF
open Go Go.RowKit Ev Within PickE
def ofLo (lo hi : Int) : Int := bif decide (lo > hi) then 1 else lo
def ofHi (lo hi : Int) : Int := bif decide (lo > hi) then 0 else hi
def of_F : List Value → Option (Value × List Prop)
 | [.int .i64 lo, .int .i64 hi] => some (sp (ofLo lo hi) (ofHi lo hi), [])
 | _ => none
theorem of_sum : SumOK Try.prog 61 (sumOf of_F) := by
 refine sumOf_ok (en Try.func61 rfl) fun args v ob h hob => ?_
 unfold of_F at h
 split at h
 ·obtain ⟨rfl, rfl⟩ := Prod.mk.inj (Option.some.inj h)
  exact calls_run0 hm (auto0_ok t_pick_ok) noHint [.fork] (by kernel_rfl)
 ·exact absurd h (by simp)
noncomputable def t_of : Sums := upd t_pick 61 (some (sumOf of_F))
theorem t_of_ok : SumsOK Try.prog t_of := sums_cons t_pick_ok of_sum
def has_F : List Value → Option (Value × List Prop)
 | [.agg ⟨[.int .i64 a, .int .i64 b]⟩, .int .i64 n] => some (.bool (decide (a ≤ n) && decide (n ≤ b)), [])
 | _ => none
theorem has_sum : SumOK Try.prog 52 (sumOf has_F) := by
 refine sumOf_ok (en Try.func52 rfl) fun args v ob h hob => ?_
 unfold has_F at h
 split at h
 ·rename_i a b n
  obtain ⟨rfl, rfl⟩ := Prod.mk.inj (Option.some.inj h)
  clear h
  cases h : decide (a ≤ n)
  ·exact calls_runO hm (auto0_ok t_of_ok) (hints [(1, 3, ht false)]) [] [bb (decide (a ≤ n)) false] (by kernel_rfl) ⟨bb_of h, trivial⟩
  ·exact calls_runO hm (auto0_ok t_of_ok) (hints [(1, 3, ht true)]) [] [bb (decide (a ≤ n)) true] (by kernel_rfl) ⟨bb_of h, trivial⟩
 ·exact absurd h (by simp)
noncomputable def t_has : Sums := upd t_of 52 (some (sumOf has_F))
theorem t_has_ok : SumsOK Try.prog t_has := sums_cons t_of_ok has_sum
def empty_F : List Value → Option (Value × List Prop)
 | [.agg ⟨[.int .i64 a, .int .i64 b]⟩] => some (.bool (decide (a > b)), [])
 | _ => none
theorem empty_sum : SumOK Try.prog 51 (sumOf empty_F) := by
 refine sumOf_ok (en Try.func51 rfl) fun args v ob h hob => ?_
 unfold empty_F at h
 split at h
 ·rename_i a b
  obtain ⟨rfl, rfl⟩ := Prod.mk.inj (Option.some.inj h)
  clear h
  exact calls_run0 hm (auto0_ok t_has_ok) noHint [] (by kernel_rfl)
 ·exact absurd h (by simp)
noncomputable def t_empty : Sums := upd t_has 51 (some (sumOf empty_F))
theorem t_empty_ok : SumsOK Try.prog t_empty := sums_cons t_has_ok empty_sum
def within_F : List Value → Option (Value × List Prop)
 | [.agg ⟨[.int .i64 a, .int .i64 b]⟩, .agg ⟨[.int .i64 c, .int .i64 d]⟩] => some (.bool (decide (a > b) || (decide (c ≤ a) && decide (b ≤ d))), [])
 | _ => none
theorem within_sum : SumOK Try.prog 49 (sumOf within_F) := by
 refine sumOf_ok (en Try.func49 rfl) fun args v ob h hob => ?_
 unfold within_F at h
 split at h
 ·rename_i a b c d
  obtain ⟨rfl, rfl⟩ := Prod.mk.inj (Option.some.inj h)
  clear h
  cases h : decide (a > b)
  ·cases h2 : decide (c ≤ a)
   ·exact calls_runO hm (auto0_ok t_empty_ok) (hints [(1, 1, ht false), (1, 7, ht false)]) [] [bb (decide (c ≤ a)) false, bb (decide (a > b)) false] (by kernel_rfl) ⟨bb_of h2, bb_of h, trivial⟩
   ·exact calls_runO hm (auto0_ok t_empty_ok) (hints [(1, 1, ht false), (1, 7, ht true)]) [] [bb (decide (c ≤ a)) true, bb (decide (a > b)) false] (by kernel_rfl) ⟨bb_of h2, bb_of h, trivial⟩
  ·exact calls_runO hm (auto0_ok t_empty_ok) (hints [(1, 1, ht true)]) [] [bb (decide (a > b)) true] (by kernel_rfl) ⟨bb_of h, trivial⟩
 ·exact absurd h (by simp)
noncomputable def t_within : Sums := upd t_empty 49 (some (sumOf within_F))
theorem t_within_ok : SumsOK Try.prog t_within := sums_cons t_empty_ok within_sum
def cutLo (a b n : Int) : Int := ofLo a (minI b n)
def cutHi (a b n : Int) : Int := ofHi a (minI b n)
def cutLo' (a b n : Int) : Int := bif decide (n ≥ b) then 1 else ofLo (maxI a (n + 1)) b
def cutHi' (a b n : Int) : Int := bif decide (n ≥ b) then 0 else ofHi (maxI a (n + 1)) b
def cut_F : List Value → Option (Value × List Prop)
 | [.agg ⟨[.int .i64 a, .int .i64 b]⟩, .int .i64 n] => some (.tuple ⟨[sp (cutLo a b n) (cutHi a b n), sp (cutLo' a b n) (cutHi' a b n)]⟩, [I64 n, b ≤ 9223372036854775807])
 | _ => none
theorem cut_sum : SumOK Try.prog 48 (sumOf cut_F) := by
 refine sumOf_ok (en Try.func48 rfl) fun args v ob h hob => ?_
 unfold cut_F at h
 split at h
 ·rename_i a b n
  obtain ⟨rfl, rfl⟩ := Prod.mk.inj (Option.some.inj h)
  clear h
  cases h : decide (n ≥ b)
  ·have hn := hob (I64 n) (by simp)
   have hb := hob (b ≤ 9223372036854775807) (by simp)
   have e1 : cutLo' a b n = ofLo (maxI a (n + 1)) b := by unfold cutLo'; rw [h]; rfl
   have e2 : cutHi' a b n = ofHi (maxI a (n + 1)) b := by unfold cutHi'; rw [h]; rfl
   rw [e1, e2]
   exact calls_runO hm (auto0_ok t_within_ok) (hints [(2, 3, ht false), (4, 4, { v := some (.int .i64 (n + 1)) })]) [] [Value.int .i64 (IntKind.i64.wrap (n + 1)) = .int .i64 (n + 1), bb (decide (n ≥ b)) false] (by kernel_rfl)
    ⟨int_eq (wrap_id ⟨by omega, by have := of_decide_eq_false h; omega⟩), bb_of h, trivial⟩
  ·have e1 : cutLo' a b n = 1 := by unfold cutLo'; rw [h]; rfl
   have e2 : cutHi' a b n = 0 := by unfold cutHi'; rw [h]; rfl
   rw [e1, e2]
   exact calls_runO hm (auto0_ok t_within_ok) (hints [(2, 3, ht true)]) [] [bb (decide (n ≥ b)) true] (by kernel_rfl) ⟨bb_of h, trivial⟩
 ·exact absurd h (by simp)
noncomputable def t_cut : Sums := upd t_within 48 (some (sumOf cut_F))
theorem t_cut_ok : SumsOK Try.prog t_cut := sums_cons t_within_ok cut_sum
theorem minI_eq (x y : Int) : minI x y = min x y := by unfold minI; split <;> omega
theorem maxI_eq (x y : Int) : maxI x y = max x y := by unfold maxI; split <;> omega
theorem cut_cases (a b n : Int) : (cutLo a b n = 1 ∧ cutHi a b n = 0 ∧ cutLo' a b n = 1 ∧ cutHi' a b n = 0 ∧ b < a) ∨ (cutLo a b n = 1 ∧ cutHi a b n = 0 ∧ cutLo' a b n = a ∧ cutHi' a b n = b ∧ a ≤ b ∧ n < a) ∨
  (cutLo a b n = a ∧ cutHi a b n = n ∧ cutLo' a b n = n + 1 ∧ cutHi' a b n = b ∧ a ≤ b ∧ a ≤ n ∧ n < b) ∨ (cutLo a b n = a ∧ cutHi a b n = b ∧ cutLo' a b n = 1 ∧ cutHi' a b n = 0 ∧ a ≤ b ∧ b ≤ n) := by
 by_cases h1 : b < a
 ·refine Or.inl ⟨?_, ?_, ?_, ?_, h1⟩ <;> first | omega | (simp only [cutLo, cutHi, cutLo', cutHi', ofLo, ofHi, minI_eq, maxI_eq, cond_eq_ite, decide_eq_true_eq] <;> (repeat' split) <;> omega)
 by_cases h2 : n < a
 ·refine Or.inr (Or.inl ⟨?_, ?_, ?_, ?_, ?_, h2⟩) <;> first | omega | (simp only [cutLo, cutHi, cutLo', cutHi', ofLo, ofHi, minI_eq, maxI_eq, cond_eq_ite, decide_eq_true_eq] <;> (repeat' split) <;> omega)
 by_cases h3 : n < b
 ·refine Or.inr (Or.inr (Or.inl ⟨?_, ?_, ?_, ?_, ?_, ?_, h3⟩)) <;> first | omega | (simp only [cutLo, cutHi, cutLo', cutHi', ofLo, ofHi, minI_eq, maxI_eq, cond_eq_ite, decide_eq_true_eq] <;> (repeat' split) <;> omega)
 ·refine Or.inr (Or.inr (Or.inr ⟨?_, ?_, ?_, ?_, ?_, ?_⟩)) <;> first | omega | (simp only [cutLo, cutHi, cutLo', cutHi', ofLo, ofHi, minI_eq, maxI_eq, cond_eq_ite, decide_eq_true_eq] <;> (repeat' split) <;> omega)
def bring_F : List Value → Option (Value × List Prop)
 | [.int .i64 n, .int .i64 lo, .int .i64 hi] => some (.int .i64 (withinS n lo hi), [I64 n, -2305843009213693952 ≤ lo, lo ≤ hi, hi ≤ 2305843009213693952])
 | _ => none
theorem bring_sum : SumOK Try.prog 19 (sumOf bring_F) := by
 refine sumOf_ok (en Try.func19 rfl) fun args v ob h hob => ?_
 unfold bring_F at h
 split at h
 ·rename_i n lo hi
  obtain ⟨rfl, rfl⟩ := Prod.mk.inj (Option.some.inj h)
  clear h
  have h1 := hob (I64 n) (by simp)
  have h2 := hob (-2305843009213693952 ≤ lo) (by simp)
  have h3 := hob (lo ≤ hi) (by simp)
  have h4 := hob (hi ≤ 2305843009213693952) (by simp)
  exact ⟨rfl, rfl, fun w => (within_calls n lo hi h1.1 h1.2 h2 h3 h4 w).mono fun e w' ⟨he, hw⟩ => ⟨he, hw ▸ Below.refl _ _⟩⟩
 ·exact absurd h (by simp)
noncomputable def t_bring : Sums := upd t_cut 19 (some (sumOf bring_F))
theorem t_bring_ok : SumsOK Try.prog t_bring := sums_cons t_cut_ok bring_sum
abbrev bx (a0 a1 a2 a3 a4 a5 a6 a7 a8 a9 : Int) : Value := .agg ⟨[i64 a0, i64 a1, i64 a2, i64 a3, i64 a4, i64 a5, i64 a6, i64 a7, i64 a8, i64 a9]⟩
abbrev pt (p0 p1 p2 p3 : Int) : Value := .agg ⟨[i64 p0, i64 p1, i64 p2, i64 p3]⟩
def e2 (a b : Int) : Bool := decide (a > b)
def h3 (a b n : Int) : Bool := decide (a ≤ n) && decide (n ≤ b)
def w4 (a b c d : Int) : Bool := decide (a > b) || (decide (c ≤ a) && decide (b ≤ d))
def emptyB (a0 a1 a2 a3 a4 a5 a6 a7 a8 a9 : Int) : Bool := bif e2 a0 a1 then true else bif e2 a2 a3 then true else bif e2 a4 a5 then true else bif e2 a6 a7 then true else bif e2 a8 a9 then true else false
def hasB (a0 a1 a2 a3 a4 a5 a6 a7 a8 a9 p0 p1 p2 p3 n : Int) : Bool := bif !h3 a0 a1 p0 then false else bif !h3 a2 a3 p1 then false else bif !h3 a4 a5 p2 then false else bif !h3 a6 a7 p3 then false else h3 a8 a9 n
def withinB (a0 a1 a2 a3 a4 a5 a6 a7 a8 a9 b0 b1 b2 b3 b4 b5 b6 b7 b8 b9 : Int) : Bool := bif emptyB a0 a1 a2 a3 a4 a5 a6 a7 a8 a9 then true else bif !w4 a0 a1 b0 b1 then false else bif !w4 a2 a3 b2 b3 then false else bif !w4 a4 a5 b4 b5 then false else bif !w4 a6 a7 b6 b7 then false else bif !w4 a8 a9 b8 b9 then false else true
def cL (i p a b n : Int) : Int := bif p == i then cutLo a b n else a
def cH (i p a b n : Int) : Int := bif p == i then cutHi a b n else b
def dL (i p a b n : Int) : Int := bif p == i then cutLo' a b n else a
def dH (i p a b n : Int) : Int := bif p == i then cutHi' a b n else b
def bempty_F : List Value → Option (Value × List Prop)
 | [.agg ⟨[.int .i64 a0, .int .i64 a1, .int .i64 a2, .int .i64 a3, .int .i64 a4, .int .i64 a5, .int .i64 a6, .int .i64 a7, .int .i64 a8, .int .i64 a9]⟩] => some (.bool (emptyB a0 a1 a2 a3 a4 a5 a6 a7 a8 a9), [])
 | _ => none
theorem bempty_sum : SumOK Try.prog 33 (sumOf bempty_F) := by
 refine sumOf_ok (en Try.func33 rfl) fun args v ob h hob => ?_
 unfold bempty_F at h
 split at h
 ·obtain ⟨rfl, rfl⟩ := Prod.mk.inj (Option.some.inj h)
  exact calls_run0 hm (auto0_ok t_bring_ok) noHint [.go,.go,.fork,.go,.fork,.go,.fork,.go,.fork,.go,.fork] (by kernel_rfl)
 ·exact absurd h (by simp)
noncomputable def t_bempty : Sums := upd t_bring 33 (some (sumOf bempty_F))
theorem t_bempty_ok : SumsOK Try.prog t_bempty := sums_cons t_bring_ok bempty_sum
def bhas_F : List Value → Option (Value × List Prop)
 | [.agg ⟨[.int .i64 a0, .int .i64 a1, .int .i64 a2, .int .i64 a3, .int .i64 a4, .int .i64 a5, .int .i64 a6, .int .i64 a7, .int .i64 a8, .int .i64 a9]⟩, .agg ⟨[.int .i64 p0, .int .i64 p1, .int .i64 p2, .int .i64 p3]⟩, .int .i64 n] => some (.bool (hasB a0 a1 a2 a3 a4 a5 a6 a7 a8 a9 p0 p1 p2 p3 n), [])
 | _ => none
theorem bhas_sum : SumOK Try.prog 34 (sumOf bhas_F) := by
 refine sumOf_ok (en Try.func34 rfl) fun args v ob h hob => ?_
 unfold bhas_F at h
 split at h
 ·obtain ⟨rfl, rfl⟩ := Prod.mk.inj (Option.some.inj h)
  exact calls_run0 hm (auto0_ok t_bempty_ok) noHint [.go,.go,.fork,.go,.fork,.go,.fork,.go,.fork] (by kernel_rfl)
 ·exact absurd h (by simp)
noncomputable def t_bhas : Sums := upd t_bempty 34 (some (sumOf bhas_F))
theorem t_bhas_ok : SumsOK Try.prog t_bhas := sums_cons t_bempty_ok bhas_sum
def bwithin_F : List Value → Option (Value × List Prop)
 | [.agg ⟨[.int .i64 a0, .int .i64 a1, .int .i64 a2, .int .i64 a3, .int .i64 a4, .int .i64 a5, .int .i64 a6, .int .i64 a7, .int .i64 a8, .int .i64 a9]⟩, .agg ⟨[.int .i64 b0, .int .i64 b1, .int .i64 b2, .int .i64 b3, .int .i64 b4, .int .i64 b5, .int .i64 b6, .int .i64 b7, .int .i64 b8, .int .i64 b9]⟩] => some (.bool (withinB a0 a1 a2 a3 a4 a5 a6 a7 a8 a9 b0 b1 b2 b3 b4 b5 b6 b7 b8 b9), [])
 | _ => none
theorem bwithin_sum : SumOK Try.prog 30 (sumOf bwithin_F) := by
 refine sumOf_ok (en Try.func30 rfl) fun args v ob h hob => ?_
 unfold bwithin_F at h
 split at h
 ·obtain ⟨rfl, rfl⟩ := Prod.mk.inj (Option.some.inj h)
  exact calls_run0 hm (auto0_ok t_bhas_ok) noHint [.fork,.go,.go,.fork,.go,.fork,.go,.fork,.go,.fork,.go,.fork] (by kernel_rfl)
 ·exact absurd h (by simp)
noncomputable def t_bwithin : Sums := upd t_bhas 30 (some (sumOf bwithin_F))
theorem t_bwithin_ok : SumsOK Try.prog t_bwithin := sums_cons t_bhas_ok bwithin_sum
theorem cut_no {i p : Int} (h : p ≠ i) (a b n : Int) : cL i p a b n = a ∧ cH i p a b n = b ∧ dL i p a b n = a ∧ dH i p a b n = b := by
 have : (p == i) = false := by simpa using h
 simp [cL, cH, dL, dH, this]
abbrev cutPair (a0 a1 a2 a3 a4 a5 a6 a7 a8 a9 p n : Int) : Value := .tuple ⟨[bx (cL 0 p a0 a1 n) (cH 0 p a0 a1 n) (cL 1 p a2 a3 n) (cH 1 p a2 a3 n) (cL 2 p a4 a5 n) (cH 2 p a4 a5 n) (cL 3 p a6 a7 n) (cH 3 p a6 a7 n) (cL 4 p a8 a9 n) (cH 4 p a8 a9 n),
 bx (dL 0 p a0 a1 n) (dH 0 p a0 a1 n) (dL 1 p a2 a3 n) (dH 1 p a2 a3 n) (dL 2 p a4 a5 n) (dH 2 p a4 a5 n) (dL 3 p a6 a7 n) (dH 3 p a6 a7 n) (dL 4 p a8 a9 n) (dH 4 p a8 a9 n)]⟩
abbrev mx : Int := 9223372036854775807
def bcut_F : List Value → Option (Value × List Prop)
 | [.agg ⟨[.int .i64 a0, .int .i64 a1, .int .i64 a2, .int .i64 a3, .int .i64 a4, .int .i64 a5, .int .i64 a6, .int .i64 a7, .int .i64 a8, .int .i64 a9]⟩, .int .i64 p, .int .i64 n] => some (cutPair a0 a1 a2 a3 a4 a5 a6 a7 a8 a9 p n, [I64 n, a1 ≤ mx, a3 ≤ mx, a5 ≤ mx, a7 ≤ mx, a9 ≤ mx])
 | _ => none
theorem bcut_sum : SumOK Try.prog 29 (sumOf bcut_F) := by
 refine sumOf_ok (en Try.func29 rfl) fun args v ob h hob => ?_
 unfold bcut_F at h
 split at h
 ·rename_i a0 a1 a2 a3 a4 a5 a6 a7 a8 a9 p n
  obtain ⟨rfl, rfl⟩ := Prod.mk.inj (Option.some.inj h)
  clear h
  have hn := hob (I64 n) (by simp)
  have k1 := hob (a1 ≤ mx) (by simp)
  have k3 := hob (a3 ≤ mx) (by simp)
  have k5 := hob (a5 ≤ mx) (by simp)
  have k7 := hob (a7 ≤ mx) (by simp)
  have k9 := hob (a9 ≤ mx) (by simp)
  by_cases c0 : p = 0
  ·subst c0; exact calls_runO hm (auto0_ok t_bwithin_ok) noHint [] [I64 n, a1 ≤ mx] (by kernel_rfl) ⟨hn, k1, trivial⟩
  by_cases c1 : p = 1
  ·subst c1; exact calls_runO hm (auto0_ok t_bwithin_ok) noHint [] [I64 n, a3 ≤ mx] (by kernel_rfl) ⟨hn, k3, trivial⟩
  by_cases c2 : p = 2
  ·subst c2; exact calls_runO hm (auto0_ok t_bwithin_ok) noHint [] [I64 n, a5 ≤ mx] (by kernel_rfl) ⟨hn, k5, trivial⟩
  by_cases c3 : p = 3
  ·subst c3; exact calls_runO hm (auto0_ok t_bwithin_ok) noHint [] [I64 n, a7 ≤ mx] (by kernel_rfl) ⟨hn, k7, trivial⟩
  by_cases c4 : p = 4
  ·subst c4; exact calls_runO hm (auto0_ok t_bwithin_ok) noHint [] [I64 n, a9 ≤ mx] (by kernel_rfl) ⟨hn, k9, trivial⟩
  obtain ⟨q1, q2, q3, q4⟩ := cut_no c0 a0 a1 n
  obtain ⟨q5, q6, q7, q8⟩ := cut_no c1 a2 a3 n
  obtain ⟨r1, r2, r3, r4⟩ := cut_no c2 a4 a5 n
  obtain ⟨r5, r6, r7, r8⟩ := cut_no c3 a6 a7 n
  obtain ⟨s1, s2, s3, s4⟩ := cut_no c4 a8 a9 n
  simp only [cutPair, q1, q2, q3, q4, q5, q6, q7, q8, r1, r2, r3, r4, r5, r6, r7, r8, s1, s2, s3, s4]
  cases h : decide (p ≥ 0)
  ·exact calls_runO hm (auto0_ok t_bwithin_ok) (hints [(2, 1, ht false)]) [] [bb (decide (p ≥ 0)) false] (by kernel_rfl) ⟨bb_of h, trivial⟩
  ·have h' := of_decide_eq_true h
   exact calls_runO hm (auto0_ok t_bwithin_ok) (hints [(2, 1, ht true), (2, 4, ht false)]) [] [bb (decide (p < 5)) false, bb (decide (p ≥ 0)) true] (by kernel_rfl) ⟨bb_of (decide_eq_false (by omega)), bb_of h, trivial⟩
 ·exact absurd h (by simp)
noncomputable def t_bcut : Sums := upd t_bwithin 29 (some (sumOf bcut_F))
theorem t_bcut_ok : SumsOK Try.prog t_bcut := sums_cons t_bwithin_ok bcut_sum
def _root_.Go.Proofs.Ythbaccmhdffjdaa.Ev.Bx.lo (x : Bx) (k : Int) : Int := if k = 0 then x.a0 else if k = 1 then x.a1 else if k = 2 then x.a2 else if k = 3 then x.a3 else x.a4
def _root_.Go.Proofs.Ythbaccmhdffjdaa.Ev.Bx.hi (x : Bx) (k : Int) : Int := if k = 0 then x.b0 else if k = 1 then x.b1 else if k = 2 then x.b2 else if k = 3 then x.b3 else x.b4
def _root_.Go.Proofs.Ythbaccmhdffjdaa.Ev.Bx.low (x : Bx) (p n : Int) : Bx := ⟨cL 0 p x.a0 x.b0 n, cH 0 p x.a0 x.b0 n, cL 1 p x.a1 x.b1 n, cH 1 p x.a1 x.b1 n, cL 2 p x.a2 x.b2 n, cH 2 p x.a2 x.b2 n, cL 3 p x.a3 x.b3 n, cH 3 p x.a3 x.b3 n, cL 4 p x.a4 x.b4 n, cH 4 p x.a4 x.b4 n⟩
def _root_.Go.Proofs.Ythbaccmhdffjdaa.Ev.Bx.high (x : Bx) (p n : Int) : Bx := ⟨dL 0 p x.a0 x.b0 n, dH 0 p x.a0 x.b0 n, dL 1 p x.a1 x.b1 n, dH 1 p x.a1 x.b1 n, dL 2 p x.a2 x.b2 n, dH 2 p x.a2 x.b2 n, dL 3 p x.a3 x.b3 n, dH 3 p x.a3 x.b3 n, dL 4 p x.a4 x.b4 n, dH 4 p x.a4 x.b4 n⟩
def _root_.Go.Proofs.Ythbaccmhdffjdaa.Ev.Bx.I64s (x : Bx) : Prop := I64 x.a0 ∧ I64 x.b0 ∧ I64 x.a1 ∧ I64 x.b1 ∧ I64 x.a2 ∧ I64 x.b2 ∧ I64 x.a3 ∧ I64 x.b3 ∧ I64 x.a4 ∧ I64 x.b4
def _root_.Go.Proofs.Ythbaccmhdffjdaa.Ev.Bx.setHi (x : Bx) (k v : Int) : Bx := ⟨x.a0, if k = 0 then v else x.b0, x.a1, if k = 1 then v else x.b1, x.a2, if k = 2 then v else x.b2, x.a3, if k = 3 then v else x.b3, x.a4, if k = 4 then v else x.b4⟩
def _root_.Go.Proofs.Ythbaccmhdffjdaa.Ev.Bx.setLo (x : Bx) (k v : Int) : Bx := ⟨if k = 0 then v else x.a0, x.b0, if k = 1 then v else x.a1, x.b1, if k = 2 then v else x.a2, x.b2, if k = 3 then v else x.a3, x.b3, if k = 4 then v else x.a4, x.b4⟩
end Go.Proofs.Ythbaccmhdffjdaa.BoxF
namespace Go.Proofs.Ythbaccmhdffjdaa.Tr
open Go Go.RowKit Ev NodeE Tr BoxF
def rempty_F : List Value → Option (Value × List Prop)
 | [.agg ⟨[.int .i64 a0, .int .i64 a1, .int .i64 a2, .int .i64 a3, .int .i64 a4, .int .i64 a5, .int .i64 a6, .int .i64 a7, .int .i64 a8, .int .i64 a9]⟩] => some (.bool (emptyB a0 a1 a2 a3 a4 a5 a6 a7 a8 a9), [])
 | _ => none
theorem rempty_sum : SumOK Try.prog 25 (sumOf rempty_F) := by
 refine sumOf_ok (en Try.func25 rfl) fun args v ob h hob => ?_
 unfold rempty_F at h
 split at h
 ·obtain ⟨rfl, rfl⟩ := Prod.mk.inj (Option.some.inj h)
  exact calls_run0 hm (auto0_ok t_bcut_ok) noHint [.go,.go,.fork,.go,.fork,.go,.fork,.go,.fork,.go,.fork] (by kernel_rfl)
 ·exact absurd h (by simp)
noncomputable def t_rempty : Sums := upd t_bcut 25 (some (sumOf rempty_F))
theorem t_rempty_ok : SumsOK Try.prog t_rempty := sums_cons t_bcut_ok rempty_sum
def rmeet_F : List Value → Option (Value × List Prop)
 | [.agg ⟨[.int .i64 a, .int .i64 b]⟩, .agg ⟨[.int .i64 c, .int .i64 d]⟩] => some (sp (ofLo (maxI a c) (minI b d)) (ofHi (maxI a c) (minI b d)), [])
 | _ => none
theorem rmeet_sum : SumOK Try.prog 47 (sumOf rmeet_F) := by
 refine sumOf_ok (en Try.func47 rfl) fun args v ob h hob => ?_
 unfold rmeet_F at h
 split at h
 ·obtain ⟨rfl, rfl⟩ := Prod.mk.inj (Option.some.inj h)
  exact calls_run0 hm (auto0_ok t_rempty_ok) noHint [.fork] (by kernel_rfl)
 ·exact absurd h (by simp)
noncomputable def t_rmeet : Sums := upd t_rempty 47 (some (sumOf rmeet_F))
theorem t_rmeet_ok : SumsOK Try.prog t_rmeet := sums_cons t_rempty_ok rmeet_sum
noncomputable def t_ls1 : Sums := upd t_rmeet 43 (some (sumOf unpack_F))
theorem t_ls1_ok : SumsOK Try.prog t_ls1 := sums_cons t_rmeet_ok unpack_sum
noncomputable def t_ls2 : Sums := upd t_ls1 46 (some (sumOf runpack_F))
theorem t_ls2_ok : SumsOK Try.prog t_ls2 := sums_cons t_ls1_ok runpack_sum
noncomputable def t_ls3 : Sums := upd t_ls2 42 (some (roSum right_F))
theorem t_ls3_ok : SumsOK Try.prog t_ls3 := sums_cons t_ls2_ok right_sum
noncomputable def t_ls : Sums := upd t_ls3 45 (some (roSum right_F))
theorem t_ls_ok : SumsOK Try.prog t_ls := sums_cons t_ls3_ok rtree_sum
structure LS where
 i : Nat
 r : List Bx
 out : List Pc
def ouV (z : Nat) (out : List Pc) : Value := match z with | 0 => .slice none 0 0 | _ => .slice (some ⟨13, 0, none⟩) out.length mk
def fLs (t0 : Nat) (cs : List Value) (o n c : Nat) (Q : Nat → LS → Prop) : LoopF LS where
 ts _ := [5, 6, t0, t0 + 1, t0 + 2]
 hs z := match z with | 0 => [0, 10] | _ => [0, 10, 13]
 tv z := fun ⟨i, r, out⟩ => [.slice (some ⟨10, 0, none⟩) n n, ouV z out, .slice (some ⟨0, o, none⟩) n c, .int .i64 (n : Int), .int .i64 (i : Int)]
 hv z := fun ⟨i, r, out⟩ => match z with | 0 => [.ro cs, .cells (eBox.row r) 25] | _ => [.ro cs, .cells (eBox.row r) 25, .vec (ePc.row out) 27 11]
 inv := Q
 mu _ := fun ⟨i, r, out⟩ => n - i
 nx := 14
theorem fLs_ok (t0 : Nat) (cs : List Value) (o n c : Nat) (Q : Nat → LS → Prop) (hpl : ∀ x ∈ cs, leafG x = true) : (fLs t0 cs o n c Q).OK 1 := by
 refine ⟨(by decide : 1 ≤ 14), fun z i h k hk => ?_, fun z i h v hv k hk => ?_, fun z i h x hx => ?_⟩
 ·show k < 14
  match z with
  | 0 => simp [fLs] at hk; omega
  | z + 1 => simp [fLs] at hk; omega
 ·show k < 14
  match z with
  | 0 =>
   simp [fLs, ouV] at hv
   repeat' (refine Or.elim hv (fun hv => ?_) (fun hv => ?_))
   all_goals (subst hv; simp [nms, nm1, nm0] at hk; try omega)
  | z + 1 =>
   simp [fLs, ouV] at hv
   repeat' (refine Or.elim hv (fun hv => ?_) (fun hv => ?_))
   all_goals (subst hv; simp [nms, nm1, nm0] at hk; try omega)
 ·match z with
  | 0 =>
   simp [fLs] at hx
   rcases hx with rfl | rfl
   ·exact Blk.plain.namesLt (b := .ro cs) hpl _
   ·exact Blk.plain.namesLt (b := .cells _ 25) (Elt.row_pl _) _
  | z + 1 =>
   simp [fLs] at hx
   rcases hx with rfl | rfl | rfl
   ·exact Blk.plain.namesLt (b := .ro cs) hpl _
   ·exact Blk.plain.namesLt (b := .cells _ 25) (Elt.row_pl _) _
   ·exact Blk.plain.namesLt (b := .vec _ _ _) (Elt.row_pl _) _
end Go.Proofs.Ythbaccmhdffjdaa.Tr
namespace Go.Proofs.Ythbaccmhdffjdaa.Tr
open Go Go.RowKit Ev NodeE Tr BoxF
theorem lsNil (b : Bx)  {E : Env} (hE : EnvOK E Try.prog Try.f23 2 0 (.slice none 0 0) [] []) (hob : all ([Back (Value.slice none 0 0) (Value.slice none 0 0) [] [] [], plainR []])) : Sat E [.code (bodyOf Try.f23)] (st0 Try.f23 [.slice none 0 0, .agg ⟨b.cs⟩] (roRows []) 0) :=
 by_ret (T := auto0 t_ls) (h := hints []) (ws := []) (nx' := 0) hE hm (auto0_ok t_ls_ok) (by omega) (by simp) (by simp) (by kernel_rfl) hob
theorem lsNo (cs : List Value) (o n c : Nat) (b : Bx)  {E : Env} (hE : EnvOK E Try.prog Try.f23 2 1 (.slice none 0 0) [] []) (hob : all ([Back (Value.slice none 0 0) (Value.slice none 0 0) [] [] [], Value.bool (rightI (eWord.list cs o n) ((4 : Int))) = .bool false, plainR [cs], eWord.Row cs o n, ∀ (w : Int), w ∈ eWord.list cs o n → U64 w, n ≤ 65536])) : Sat E [.code (bodyOf Try.f23)] (st0 Try.f23 [.slice (some ⟨0, o, none⟩) n c, .agg ⟨b.cs⟩] (roRows [cs]) 1) :=
 by_ret (T := auto0 t_ls) (h := hints [(1, 1, {v := some (.bool false)})]) (ws := []) (nx' := 1) hE hm (auto0_ok t_ls_ok) (by omega) (by simp) (by simp) (by kernel_rfl) hob
theorem lsEm (cs : List Value) (o n c : Nat) (b : Bx)  {E : Env} (hE : EnvOK E Try.prog Try.f23 2 1 (.slice none 0 0) [] []) (hob : all ([Back (Value.slice none 0 0) (Value.slice none 0 0) [] [] [], Value.bool (emptyB b.a0 b.b0 b.a1 b.b1 b.a2 b.b2 b.a3 b.b3 b.a4 b.b4) = .bool true, Value.bool (rightI (eWord.list cs o n) ((4 : Int))) = .bool true, plainR [cs], eWord.Row cs o n, ∀ (w : Int), w ∈ eWord.list cs o n → U64 w, n ≤ 65536])) : Sat E [.code (bodyOf Try.f23)] (st0 Try.f23 [.slice (some ⟨0, o, none⟩) n c, .agg ⟨b.cs⟩] (roRows [cs]) 1) :=
 by_ret (T := auto0 t_ls) (h := hints [(1, 1, {v := some (.bool true)}), (1, 5, {v := some (.bool true)})]) (ws := []) (nx' := 1) hE hm (auto0_ok t_ls_ok) (by omega) (by simp) (by simp) (by kernel_rfl) hob
theorem lsIn (cs : List Value) (o n c : Nat) (Q : Nat → LS → Prop) (b : Bx) (zs r : List Bx)  {E rv rhs rhv} (hE : EnvOK E Try.prog Try.f23 2 1 rv rhs rhv) (hL : (fLs 24 cs o n c Q).OK 1) (hob : all ([SameK (atLp (lp Try.f23 0)) (atLp (lp Try.f23 0)), Enter (fLs 24 cs o n c Q) 0 none [.slice (some (Addr.mk 89 0 none)) ((n : Int)).toNat ((n : Int)).toNat, .slice none 0 0, .slice (some (Addr.mk 0 o none)) n c, .int .i64 ((n : Int)), .int .i64 ((0 : Int))] [Blk.ro cs, Blk.cells (eBox.row r) 25] [(10, 89), (0, 0)], lset (eBox.row zs) 0 [.int .i64 b.a0, .int .i64 b.b0, .int .i64 b.a1, .int .i64 b.b1, .int .i64 b.a2, .int .i64 b.b2, .int .i64 b.a3, .int .i64 b.b3, .int .i64 b.a4, .int .i64 b.b4] = some (eBox.row r), (0 : Int) ≤ (0 : Int) ∧ (0 : Int) < (n : Int), MkOK ((n : Int)) ((n : Int)) 80 [.int .i64 ((0 : Int)), .int .i64 ((0 : Int)), .int .i64 ((0 : Int)), .int .i64 ((0 : Int)), .int .i64 ((0 : Int)), .int .i64 ((0 : Int)), .int .i64 ((0 : Int)), .int .i64 ((0 : Int)), .int .i64 ((0 : Int)), .int .i64 ((0 : Int))] (eBox.row zs), Value.bool (emptyB b.a0 b.b0 b.a1 b.b1 b.a2 b.b2 b.a3 b.b3 b.a4 b.b4) = .bool false, Value.bool (rightI (eWord.list cs o n) ((4 : Int))) = .bool true, plainR [cs], eWord.Row cs o n, ∀ (w : Int), w ∈ eWord.list cs o n → U64 w, n ≤ 65536])) (hK : ∀ zz, (fLs 24 cs o n c Q).inv 0 zz → ltO ((fLs 24 cs o n c Q).mu 0 zz) none → Sat E (atLp (lp Try.f23 0)) ((fLs 24 cs o n c Q).st 0 zz)) : Sat E [.code (bodyOf Try.f23)] (st0 Try.f23 [.slice (some ⟨0, o, none⟩) n c, .agg ⟨b.cs⟩] (roRows [cs]) 1) :=
 by_to (T := auto0 t_ls) (h := hints [(1, 1, {v := some (.bool true)}), (1, 5, {v := some (.bool false)}), (3, 2, {c := some (eBox.row zs)}), (4, 2, {p := true}), (4, 3, {c := some (eBox.row r)})]) (ws := [.go, .stop]) (i0 := ⟨0, r, []⟩) hE hm (auto0_ok t_ls_ok) hL (by kernel_rfl) hob hK
theorem lsI0 (cs : List Value) (o n c : Nat) (Q : Nat → LS → Prop) (i : Nat) (r : List Bx) (bo b1 b2 : Bx) (r1 r2 : List Bx) (w f a x y : Int) (J : _) {E rv rhs rhv} (hE : EnvOK E Try.prog Try.f23 2 1 rv rhs rhv) (hL : (fLs 24 cs o n c Q).OK 1) (hob : all ([SameK (mkLp (lp Try.f23 0) J) (mkLp (lp Try.f23 0) J), Enter (fLs 24 cs o n c Q) 0 (some (n - i)) [.slice (some (Addr.mk 10 0 none)) n n, .slice none 0 0, .slice (some (Addr.mk 0 o none)) n c, .int .i64 ((n : Int)), .int .i64 (Int.ofNat i.succ)] [Blk.ro cs, Blk.cells (eBox.row r2) 25] [(10, 10), (0, 0)], Value.int IntKind.i64 (IntKind.i64.wrap (Int.ofNat i.succ)) = .int .i64 (Int.ofNat i.succ), lset (eBox.row r1) (0 + y.toNat * 10) b2.cs = some (eBox.row r2), (0 : Int) ≤ y ∧ y < (n : Int), lset (eBox.row r) (0 + x.toNat * 10) b1.cs = some (eBox.row r1), (0 : Int) ≤ x ∧ x < (n : Int), Value.tuple (Array.mk [.agg (Array.mk [.int .i64 (cL ((0 : Int)) f bo.a0 bo.b0 a), .int .i64 (cH ((0 : Int)) f bo.a0 bo.b0 a), .int .i64 (cL ((1 : Int)) f bo.a1 bo.b1 a), .int .i64 (cH ((1 : Int)) f bo.a1 bo.b1 a), .int .i64 (cL ((2 : Int)) f bo.a2 bo.b2 a), .int .i64 (cH ((2 : Int)) f bo.a2 bo.b2 a), .int .i64 (cL ((3 : Int)) f bo.a3 bo.b3 a), .int .i64 (cH ((3 : Int)) f bo.a3 bo.b3 a), .int .i64 (cL ((4 : Int)) f bo.a4 bo.b4 a), .int .i64 (cH ((4 : Int)) f bo.a4 bo.b4 a)]), .agg (Array.mk [.int .i64 (dL ((0 : Int)) f bo.a0 bo.b0 a), .int .i64 (dH ((0 : Int)) f bo.a0 bo.b0 a), .int .i64 (dL ((1 : Int)) f bo.a1 bo.b1 a), .int .i64 (dH ((1 : Int)) f bo.a1 bo.b1 a), .int .i64 (dL ((2 : Int)) f bo.a2 bo.b2 a), .int .i64 (dH ((2 : Int)) f bo.a2 bo.b2 a), .int .i64 (dL ((3 : Int)) f bo.a3 bo.b3 a), .int .i64 (dH ((3 : Int)) f bo.a3 bo.b3 a), .int .i64 (dL ((4 : Int)) f bo.a4 bo.b4 a), .int .i64 (dH ((4 : Int)) f bo.a4 bo.b4 a)])]) = Value.tuple (Array.mk [.agg (Array.mk [.int .i64 b1.a0, .int .i64 b1.b0, .int .i64 b1.a1, .int .i64 b1.b1, .int .i64 b1.a2, .int .i64 b1.b2, .int .i64 b1.a3, .int .i64 b1.b3, .int .i64 b1.a4, .int .i64 b1.b4]), .agg (Array.mk [.int .i64 b2.a0, .int .i64 b2.b0, .int .i64 b2.a1, .int .i64 b2.b1, .int .i64 b2.a2, .int .i64 b2.b2, .int .i64 b2.a3, .int .i64 b2.b3, .int .i64 b2.a4, .int .i64 b2.b4])]), I64 a, bo.b0 ≤ (9223372036854775807 : Int), bo.b1 ≤ (9223372036854775807 : Int), bo.b2 ≤ (9223372036854775807 : Int), bo.b3 ≤ (9223372036854775807 : Int), bo.b4 ≤ (9223372036854775807 : Int), readPart Try.prog 25 (eBox.row r) (0 + ((i : Int)).toNat * 10) = some (Value.agg (Array.mk [.int .i64 bo.a0, .int .i64 bo.b0, .int .i64 bo.a1, .int .i64 bo.b1, .int .i64 bo.a2, .int .i64 bo.b2, .int .i64 bo.a3, .int .i64 bo.b3, .int .i64 bo.a4, .int .i64 bo.b4])), (0 : Int) ≤ (i : Int) ∧ (i : Int) < (n : Int), Value.tuple (Array.mk [.agg (Array.mk [.bool (okB w && lfB w), .int .i64 (sV w), .int .i64 (sF w), .int .i64 (sA w), .int .i64 (sX w), .int .i64 (sY w)]), .bool (okB w)]) = Value.tuple (Array.mk [.agg (Array.mk [.bool false, .int .i64 ((0 : Int)), .int .i64 f, .int .i64 a, .int .i64 x, .int .i64 y]), .bool true]), U64 w, readPart Try.prog 83 cs (o + ((i : Int)).toNat * 1) = some (Value.int IntKind.u64 w), (0 : Int) ≤ (i : Int) ∧ (i : Int) < (n : Int), decide ((↑i : Int) < (↑n : Int)) = true])) (hK : ∀ zz, (fLs 24 cs o n c Q).inv 0 zz → ltO ((fLs 24 cs o n c Q).mu 0 zz) (some (n - i)) → Sat E (mkLp (lp Try.f23 0) J) ((fLs 24 cs o n c Q).st 0 zz)) : Sat E (inLp (lp Try.f23 0) J) ((fLs 24 cs o n c Q).st 0 ⟨i, r, []⟩) :=
 by_to (T := auto0 t_ls) (h := hints [(8, 1, {p := true}), (8, 2, {o := some (.int .u64 w)}), (9, 1, {v := some (.tuple ⟨[nd false 0 f a x y, .bool true]⟩)}), (11, 8, {p := true}), (11, 9, {o := some (.agg ⟨bo.cs⟩)}), (11, 14, {v := some (.tuple ⟨[.agg ⟨b1.cs⟩, .agg ⟨b2.cs⟩]⟩)}), (11, 18, {p := true}), (11, 19, {c := some (eBox.row r1)}), (11, 20, {p := true}), (11, 21, {c := some (eBox.row r2)}), (14, 0, {v := some (.int .i64 ((i + 1 : Nat) : Int))})]) (ws := [.b true]) (i0 := ⟨i + 1, r2, []⟩) hE hm (auto0_ok t_ls_ok) hL (by kernel_rfl) hob hK
theorem lsE0 (cs : List Value) (o n c : Nat) (Q : Nat → LS → Prop) (i : Nat) (r : List Bx) (bo : Bx) (w v : Int) (J : _) {E rv rhs rhv} (hE : EnvOK E Try.prog Try.f23 2 1 rv rhs rhv) (hL : (fLs 24 cs o n c Q).OK 1) (hob : all ([SameK (mkLp (lp Try.f23 0) J) (mkLp (lp Try.f23 0) J), Enter (fLs 24 cs o n c Q) 0 (some (n - i)) [.slice (some (Addr.mk 10 0 none)) n n, .slice none 0 0, .slice (some (Addr.mk 0 o none)) n c, .int .i64 ((n : Int)), .int .i64 (Int.ofNat i.succ)] [Blk.ro cs, Blk.cells (eBox.row r) 25] [(10, 10), (0, 0)], Value.int IntKind.i64 (IntKind.i64.wrap (Int.ofNat i.succ)) = .int .i64 (Int.ofNat i.succ), Value.bool (emptyB bo.a0 bo.b0 bo.a1 bo.b1 bo.a2 bo.b2 bo.a3 bo.b3 bo.a4 bo.b4) = .bool true, readPart Try.prog 25 (eBox.row r) (0 + ((i : Int)).toNat * 10) = some (Value.agg (Array.mk [.int .i64 bo.a0, .int .i64 bo.b0, .int .i64 bo.a1, .int .i64 bo.b1, .int .i64 bo.a2, .int .i64 bo.b2, .int .i64 bo.a3, .int .i64 bo.b3, .int .i64 bo.a4, .int .i64 bo.b4])), (0 : Int) ≤ (i : Int) ∧ (i : Int) < (n : Int), Value.tuple (Array.mk [.agg (Array.mk [.bool (okB w && lfB w), .int .i64 (sV w), .int .i64 (sF w), .int .i64 (sA w), .int .i64 (sX w), .int .i64 (sY w)]), .bool (okB w)]) = Value.tuple (Array.mk [.agg (Array.mk [.bool true, .int .i64 v, .int .i64 ((0 : Int)), .int .i64 ((0 : Int)), .int .i64 ((0 : Int)), .int .i64 ((0 : Int))]), .bool true]), U64 w, readPart Try.prog 83 cs (o + ((i : Int)).toNat * 1) = some (Value.int IntKind.u64 w), (0 : Int) ≤ (i : Int) ∧ (i : Int) < (n : Int), decide ((↑i : Int) < (↑n : Int)) = true])) (hK : ∀ zz, (fLs 24 cs o n c Q).inv 0 zz → ltO ((fLs 24 cs o n c Q).mu 0 zz) (some (n - i)) → Sat E (mkLp (lp Try.f23 0) J) ((fLs 24 cs o n c Q).st 0 zz)) : Sat E (inLp (lp Try.f23 0) J) ((fLs 24 cs o n c Q).st 0 ⟨i, r, []⟩) :=
 by_to (T := auto0 t_ls) (h := hints [(8, 1, {p := true}), (8, 2, {o := some (.int .u64 w)}), (9, 1, {v := some (.tuple ⟨[nd true v 0 0 0 0, .bool true]⟩)}), (12, 2, {p := true}), (12, 3, {o := some (.agg ⟨bo.cs⟩)}), (12, 4, {v := some (.bool true)}), (14, 0, {v := some (.int .i64 ((i + 1 : Nat) : Int))})]) (ws := [.b true]) (i0 := ⟨i + 1, r, []⟩) hE hm (auto0_ok t_ls_ok) hL (by kernel_rfl) hob hK
theorem lsF0 (cs : List Value) (o n c : Nat) (Q : Nat → LS → Prop) (i : Nat) (r : List Bx) (bo : Bx) (out2 : List Pc) (w v : Int) (J : _) {E rv rhs rhv} (hE : EnvOK E Try.prog Try.f23 2 1 rv rhs rhv) (hL : (fLs 24 cs o n c Q).OK 1) (hob : all ([SameK (mkLp (lp Try.f23 0) J) (mkLp (lp Try.f23 0) J), Enter (fLs 24 cs o n c Q) 1 (some (n - i)) [.slice (some (Addr.mk 10 0 none)) n n, .slice (some (Addr.mk 286 0 none)) 1 Ev.mark, .slice (some (Addr.mk 0 o none)) n c, .int .i64 ((n : Int)), .int .i64 (Int.ofNat i.succ)] [Blk.ro cs, Blk.cells (eBox.row r) 25, Blk.vec (ePc.row out2) 27 11] [(10, 10), (13, 286), (0, 0)], Value.int IntKind.i64 (IntKind.i64.wrap (Int.ofNat i.succ)) = .int .i64 (Int.ofNat i.succ), AppOK none 0 0 11 88 1 [.int .i64 bo.a0, .int .i64 bo.b0, .int .i64 bo.a1, .int .i64 bo.b1, .int .i64 bo.a2, .int .i64 bo.b2, .int .i64 bo.a3, .int .i64 bo.b3, .int .i64 bo.a4, .int .i64 bo.b4, .int .i64 v] 0 (ePc.row out2), readPart Try.prog 25 (eBox.row r) (0 + ((i : Int)).toNat * 10) = some (Value.agg (Array.mk [.int .i64 bo.a0, .int .i64 bo.b0, .int .i64 bo.a1, .int .i64 bo.b1, .int .i64 bo.a2, .int .i64 bo.b2, .int .i64 bo.a3, .int .i64 bo.b3, .int .i64 bo.a4, .int .i64 bo.b4])), (0 : Int) ≤ (i : Int) ∧ (i : Int) < (n : Int), Value.bool (emptyB bo.a0 bo.b0 bo.a1 bo.b1 bo.a2 bo.b2 bo.a3 bo.b3 bo.a4 bo.b4) = .bool false, readPart Try.prog 25 (eBox.row r) (0 + ((i : Int)).toNat * 10) = some (Value.agg (Array.mk [.int .i64 bo.a0, .int .i64 bo.b0, .int .i64 bo.a1, .int .i64 bo.b1, .int .i64 bo.a2, .int .i64 bo.b2, .int .i64 bo.a3, .int .i64 bo.b3, .int .i64 bo.a4, .int .i64 bo.b4])), (0 : Int) ≤ (i : Int) ∧ (i : Int) < (n : Int), Value.tuple (Array.mk [.agg (Array.mk [.bool (okB w && lfB w), .int .i64 (sV w), .int .i64 (sF w), .int .i64 (sA w), .int .i64 (sX w), .int .i64 (sY w)]), .bool (okB w)]) = Value.tuple (Array.mk [.agg (Array.mk [.bool true, .int .i64 v, .int .i64 ((0 : Int)), .int .i64 ((0 : Int)), .int .i64 ((0 : Int)), .int .i64 ((0 : Int))]), .bool true]), U64 w, readPart Try.prog 83 cs (o + ((i : Int)).toNat * 1) = some (Value.int IntKind.u64 w), (0 : Int) ≤ (i : Int) ∧ (i : Int) < (n : Int), decide ((↑i : Int) < (↑n : Int)) = true])) (hK : ∀ zz, (fLs 24 cs o n c Q).inv 1 zz → ltO ((fLs 24 cs o n c Q).mu 1 zz) (some (n - i)) → Sat E (mkLp (lp Try.f23 0) J) ((fLs 24 cs o n c Q).st 1 zz)) : Sat E (inLp (lp Try.f23 0) J) ((fLs 24 cs o n c Q).st 0 ⟨i, r, []⟩) :=
 by_to (T := auto0 t_ls) (h := hints [(8, 1, {p := true}), (8, 2, {o := some (.int .u64 w)}), (9, 1, {v := some (.tuple ⟨[nd true v 0 0 0 0, .bool true]⟩)}), (12, 2, {p := true}), (12, 3, {o := some (.agg ⟨bo.cs⟩)}), (12, 4, {v := some (.bool false)}), (13, 3, {p := true}), (13, 4, {o := some (.agg ⟨bo.cs⟩)}), (13, 9, {c := some (ePc.row out2)}), (14, 0, {v := some (.int .i64 ((i + 1 : Nat) : Int))})]) (ws := [.b true]) (i0 := ⟨i + 1, r, out2⟩) hE hm (auto0_ok t_ls_ok) hL (by kernel_rfl) hob hK
theorem lsI1 (cs : List Value) (o n c : Nat) (Q : Nat → LS → Prop) (i : Nat) (r : List Bx) (out : List Pc) (bo b1 b2 : Bx) (r1 r2 : List Bx) (w f a x y : Int) (J : _) {E rv rhs rhv} (hE : EnvOK E Try.prog Try.f23 2 1 rv rhs rhv) (hL : (fLs 24 cs o n c Q).OK 1) (hob : all ([SameK (mkLp (lp Try.f23 0) J) (mkLp (lp Try.f23 0) J), Enter (fLs 24 cs o n c Q) 1 (some (n - i)) [.slice (some (Addr.mk 10 0 none)) n n, .slice (some (Addr.mk 13 0 none)) out.length Ev.mark, .slice (some (Addr.mk 0 o none)) n c, .int .i64 ((n : Int)), .int .i64 (Int.ofNat i.succ)] [Blk.ro cs, Blk.cells (eBox.row r2) 25, Blk.vec (ePc.row out) 27 11] [(10, 10), (13, 13), (0, 0)], Value.int IntKind.i64 (IntKind.i64.wrap (Int.ofNat i.succ)) = .int .i64 (Int.ofNat i.succ), lset (eBox.row r1) (0 + y.toNat * 10) b2.cs = some (eBox.row r2), (0 : Int) ≤ y ∧ y < (n : Int), lset (eBox.row r) (0 + x.toNat * 10) b1.cs = some (eBox.row r1), (0 : Int) ≤ x ∧ x < (n : Int), Value.tuple (Array.mk [.agg (Array.mk [.int .i64 (cL ((0 : Int)) f bo.a0 bo.b0 a), .int .i64 (cH ((0 : Int)) f bo.a0 bo.b0 a), .int .i64 (cL ((1 : Int)) f bo.a1 bo.b1 a), .int .i64 (cH ((1 : Int)) f bo.a1 bo.b1 a), .int .i64 (cL ((2 : Int)) f bo.a2 bo.b2 a), .int .i64 (cH ((2 : Int)) f bo.a2 bo.b2 a), .int .i64 (cL ((3 : Int)) f bo.a3 bo.b3 a), .int .i64 (cH ((3 : Int)) f bo.a3 bo.b3 a), .int .i64 (cL ((4 : Int)) f bo.a4 bo.b4 a), .int .i64 (cH ((4 : Int)) f bo.a4 bo.b4 a)]), .agg (Array.mk [.int .i64 (dL ((0 : Int)) f bo.a0 bo.b0 a), .int .i64 (dH ((0 : Int)) f bo.a0 bo.b0 a), .int .i64 (dL ((1 : Int)) f bo.a1 bo.b1 a), .int .i64 (dH ((1 : Int)) f bo.a1 bo.b1 a), .int .i64 (dL ((2 : Int)) f bo.a2 bo.b2 a), .int .i64 (dH ((2 : Int)) f bo.a2 bo.b2 a), .int .i64 (dL ((3 : Int)) f bo.a3 bo.b3 a), .int .i64 (dH ((3 : Int)) f bo.a3 bo.b3 a), .int .i64 (dL ((4 : Int)) f bo.a4 bo.b4 a), .int .i64 (dH ((4 : Int)) f bo.a4 bo.b4 a)])]) = Value.tuple (Array.mk [.agg (Array.mk [.int .i64 b1.a0, .int .i64 b1.b0, .int .i64 b1.a1, .int .i64 b1.b1, .int .i64 b1.a2, .int .i64 b1.b2, .int .i64 b1.a3, .int .i64 b1.b3, .int .i64 b1.a4, .int .i64 b1.b4]), .agg (Array.mk [.int .i64 b2.a0, .int .i64 b2.b0, .int .i64 b2.a1, .int .i64 b2.b1, .int .i64 b2.a2, .int .i64 b2.b2, .int .i64 b2.a3, .int .i64 b2.b3, .int .i64 b2.a4, .int .i64 b2.b4])]), I64 a, bo.b0 ≤ (9223372036854775807 : Int), bo.b1 ≤ (9223372036854775807 : Int), bo.b2 ≤ (9223372036854775807 : Int), bo.b3 ≤ (9223372036854775807 : Int), bo.b4 ≤ (9223372036854775807 : Int), readPart Try.prog 25 (eBox.row r) (0 + ((i : Int)).toNat * 10) = some (Value.agg (Array.mk [.int .i64 bo.a0, .int .i64 bo.b0, .int .i64 bo.a1, .int .i64 bo.b1, .int .i64 bo.a2, .int .i64 bo.b2, .int .i64 bo.a3, .int .i64 bo.b3, .int .i64 bo.a4, .int .i64 bo.b4])), (0 : Int) ≤ (i : Int) ∧ (i : Int) < (n : Int), Value.tuple (Array.mk [.agg (Array.mk [.bool (okB w && lfB w), .int .i64 (sV w), .int .i64 (sF w), .int .i64 (sA w), .int .i64 (sX w), .int .i64 (sY w)]), .bool (okB w)]) = Value.tuple (Array.mk [.agg (Array.mk [.bool false, .int .i64 ((0 : Int)), .int .i64 f, .int .i64 a, .int .i64 x, .int .i64 y]), .bool true]), U64 w, readPart Try.prog 83 cs (o + ((i : Int)).toNat * 1) = some (Value.int IntKind.u64 w), (0 : Int) ≤ (i : Int) ∧ (i : Int) < (n : Int), decide ((↑i : Int) < (↑n : Int)) = true])) (hK : ∀ zz, (fLs 24 cs o n c Q).inv 1 zz → ltO ((fLs 24 cs o n c Q).mu 1 zz) (some (n - i)) → Sat E (mkLp (lp Try.f23 0) J) ((fLs 24 cs o n c Q).st 1 zz)) : Sat E (inLp (lp Try.f23 0) J) ((fLs 24 cs o n c Q).st 1 ⟨i, r, out⟩) :=
 by_to (T := auto0 t_ls) (h := hints [(8, 1, {p := true}), (8, 2, {o := some (.int .u64 w)}), (9, 1, {v := some (.tuple ⟨[nd false 0 f a x y, .bool true]⟩)}), (11, 8, {p := true}), (11, 9, {o := some (.agg ⟨bo.cs⟩)}), (11, 14, {v := some (.tuple ⟨[.agg ⟨b1.cs⟩, .agg ⟨b2.cs⟩]⟩)}), (11, 18, {p := true}), (11, 19, {c := some (eBox.row r1)}), (11, 20, {p := true}), (11, 21, {c := some (eBox.row r2)}), (14, 0, {v := some (.int .i64 ((i + 1 : Nat) : Int))})]) (ws := [.b true]) (i0 := ⟨i + 1, r2, out⟩) hE hm (auto0_ok t_ls_ok) hL (by kernel_rfl) hob hK
theorem lsE1 (cs : List Value) (o n c : Nat) (Q : Nat → LS → Prop) (i : Nat) (r : List Bx) (out : List Pc) (bo : Bx) (w v : Int) (J : _) {E rv rhs rhv} (hE : EnvOK E Try.prog Try.f23 2 1 rv rhs rhv) (hL : (fLs 24 cs o n c Q).OK 1) (hob : all ([SameK (mkLp (lp Try.f23 0) J) (mkLp (lp Try.f23 0) J), Enter (fLs 24 cs o n c Q) 1 (some (n - i)) [.slice (some (Addr.mk 10 0 none)) n n, .slice (some (Addr.mk 13 0 none)) out.length Ev.mark, .slice (some (Addr.mk 0 o none)) n c, .int .i64 ((n : Int)), .int .i64 (Int.ofNat i.succ)] [Blk.ro cs, Blk.cells (eBox.row r) 25, Blk.vec (ePc.row out) 27 11] [(10, 10), (13, 13), (0, 0)], Value.int IntKind.i64 (IntKind.i64.wrap (Int.ofNat i.succ)) = .int .i64 (Int.ofNat i.succ), Value.bool (emptyB bo.a0 bo.b0 bo.a1 bo.b1 bo.a2 bo.b2 bo.a3 bo.b3 bo.a4 bo.b4) = .bool true, readPart Try.prog 25 (eBox.row r) (0 + ((i : Int)).toNat * 10) = some (Value.agg (Array.mk [.int .i64 bo.a0, .int .i64 bo.b0, .int .i64 bo.a1, .int .i64 bo.b1, .int .i64 bo.a2, .int .i64 bo.b2, .int .i64 bo.a3, .int .i64 bo.b3, .int .i64 bo.a4, .int .i64 bo.b4])), (0 : Int) ≤ (i : Int) ∧ (i : Int) < (n : Int), Value.tuple (Array.mk [.agg (Array.mk [.bool (okB w && lfB w), .int .i64 (sV w), .int .i64 (sF w), .int .i64 (sA w), .int .i64 (sX w), .int .i64 (sY w)]), .bool (okB w)]) = Value.tuple (Array.mk [.agg (Array.mk [.bool true, .int .i64 v, .int .i64 ((0 : Int)), .int .i64 ((0 : Int)), .int .i64 ((0 : Int)), .int .i64 ((0 : Int))]), .bool true]), U64 w, readPart Try.prog 83 cs (o + ((i : Int)).toNat * 1) = some (Value.int IntKind.u64 w), (0 : Int) ≤ (i : Int) ∧ (i : Int) < (n : Int), decide ((↑i : Int) < (↑n : Int)) = true])) (hK : ∀ zz, (fLs 24 cs o n c Q).inv 1 zz → ltO ((fLs 24 cs o n c Q).mu 1 zz) (some (n - i)) → Sat E (mkLp (lp Try.f23 0) J) ((fLs 24 cs o n c Q).st 1 zz)) : Sat E (inLp (lp Try.f23 0) J) ((fLs 24 cs o n c Q).st 1 ⟨i, r, out⟩) :=
 by_to (T := auto0 t_ls) (h := hints [(8, 1, {p := true}), (8, 2, {o := some (.int .u64 w)}), (9, 1, {v := some (.tuple ⟨[nd true v 0 0 0 0, .bool true]⟩)}), (12, 2, {p := true}), (12, 3, {o := some (.agg ⟨bo.cs⟩)}), (12, 4, {v := some (.bool true)}), (14, 0, {v := some (.int .i64 ((i + 1 : Nat) : Int))})]) (ws := [.b true]) (i0 := ⟨i + 1, r, out⟩) hE hm (auto0_ok t_ls_ok) hL (by kernel_rfl) hob hK
theorem lsF1 (cs : List Value) (o n c : Nat) (Q : Nat → LS → Prop) (i : Nat) (r : List Bx) (out : List Pc) (bo : Bx) (out2 : List Pc) (w v : Int) (J : _) {E rv rhs rhv} (hE : EnvOK E Try.prog Try.f23 2 1 rv rhs rhv) (hL : (fLs 24 cs o n c Q).OK 1) (hob : all ([SameK (mkLp (lp Try.f23 0) J) (mkLp (lp Try.f23 0) J), Enter (fLs 24 cs o n c Q) 1 (some (n - i)) [.slice (some (Addr.mk 10 0 none)) n n, .slice (some (Addr.mk 286 0 none)) (out.length + 1) Ev.mark, .slice (some (Addr.mk 0 o none)) n c, .int .i64 ((n : Int)), .int .i64 (Int.ofNat i.succ)] [Blk.ro cs, Blk.cells (eBox.row r) 25, Blk.vec (ePc.row out2) 27 11] [(10, 10), (13, 286), (0, 0)], Value.int IntKind.i64 (IntKind.i64.wrap (Int.ofNat i.succ)) = .int .i64 (Int.ofNat i.succ), AppOK (some (Blk.vec (ePc.row out) 27 11)) out.length Ev.mark 11 88 1 [.int .i64 bo.a0, .int .i64 bo.b0, .int .i64 bo.a1, .int .i64 bo.b1, .int .i64 bo.a2, .int .i64 bo.b2, .int .i64 bo.a3, .int .i64 bo.b3, .int .i64 bo.a4, .int .i64 bo.b4, .int .i64 v] 0 (ePc.row out2), readPart Try.prog 25 (eBox.row r) (0 + ((i : Int)).toNat * 10) = some (Value.agg (Array.mk [.int .i64 bo.a0, .int .i64 bo.b0, .int .i64 bo.a1, .int .i64 bo.b1, .int .i64 bo.a2, .int .i64 bo.b2, .int .i64 bo.a3, .int .i64 bo.b3, .int .i64 bo.a4, .int .i64 bo.b4])), (0 : Int) ≤ (i : Int) ∧ (i : Int) < (n : Int), Value.bool (emptyB bo.a0 bo.b0 bo.a1 bo.b1 bo.a2 bo.b2 bo.a3 bo.b3 bo.a4 bo.b4) = .bool false, readPart Try.prog 25 (eBox.row r) (0 + ((i : Int)).toNat * 10) = some (Value.agg (Array.mk [.int .i64 bo.a0, .int .i64 bo.b0, .int .i64 bo.a1, .int .i64 bo.b1, .int .i64 bo.a2, .int .i64 bo.b2, .int .i64 bo.a3, .int .i64 bo.b3, .int .i64 bo.a4, .int .i64 bo.b4])), (0 : Int) ≤ (i : Int) ∧ (i : Int) < (n : Int), Value.tuple (Array.mk [.agg (Array.mk [.bool (okB w && lfB w), .int .i64 (sV w), .int .i64 (sF w), .int .i64 (sA w), .int .i64 (sX w), .int .i64 (sY w)]), .bool (okB w)]) = Value.tuple (Array.mk [.agg (Array.mk [.bool true, .int .i64 v, .int .i64 ((0 : Int)), .int .i64 ((0 : Int)), .int .i64 ((0 : Int)), .int .i64 ((0 : Int))]), .bool true]), U64 w, readPart Try.prog 83 cs (o + ((i : Int)).toNat * 1) = some (Value.int IntKind.u64 w), (0 : Int) ≤ (i : Int) ∧ (i : Int) < (n : Int), decide ((↑i : Int) < (↑n : Int)) = true])) (hK : ∀ zz, (fLs 24 cs o n c Q).inv 1 zz → ltO ((fLs 24 cs o n c Q).mu 1 zz) (some (n - i)) → Sat E (mkLp (lp Try.f23 0) J) ((fLs 24 cs o n c Q).st 1 zz)) : Sat E (inLp (lp Try.f23 0) J) ((fLs 24 cs o n c Q).st 1 ⟨i, r, out⟩) :=
 by_to (T := auto0 t_ls) (h := hints [(8, 1, {p := true}), (8, 2, {o := some (.int .u64 w)}), (9, 1, {v := some (.tuple ⟨[nd true v 0 0 0 0, .bool true]⟩)}), (12, 2, {p := true}), (12, 3, {o := some (.agg ⟨bo.cs⟩)}), (12, 4, {v := some (.bool false)}), (13, 3, {p := true}), (13, 4, {o := some (.agg ⟨bo.cs⟩)}), (13, 9, {c := some (ePc.row out2)}), (14, 0, {v := some (.int .i64 ((i + 1 : Nat) : Int))})]) (ws := [.b true]) (i0 := ⟨i + 1, r, out2⟩) hE hm (auto0_ok t_ls_ok) hL (by kernel_rfl) hob hK
theorem lsX0 (cs : List Value) (o n c : Nat) (Q : Nat → LS → Prop) (i : Nat) (r : List Bx) (J : _) {E : Env} (hE : EnvOK E Try.prog Try.f23 2 1 (.slice none 0 0) [] []) (hob : all ([Back (Value.slice none 0 0) (Value.slice none 0 0) [] [] [], decide ((↑i : Int) < (↑n : Int)) = false])) : Sat E (inLp (lp Try.f23 0) J) ((fLs 24 cs o n c Q).st 0 ⟨i, r, []⟩) :=
 by_ret (T := auto0 t_ls) (h := hints []) (ws := [.b false]) (nx' := 101) hE hm (auto0_ok t_ls_ok) (by omega) (by simp) (by simp) (by kernel_rfl) hob
theorem lsX1 (cs : List Value) (o n c : Nat) (Q : Nat → LS → Prop) (i : Nat) (r : List Bx) (out : List Pc) (J : _) {E : Env} (hE : EnvOK E Try.prog Try.f23 2 1 (.slice (some ⟨100, 0, none⟩) out.length mk) [100] [.vec (ePc.row out) 27 11]) (hob : all ([Back (Value.slice (some (Addr.mk 13 0 none)) out.length Ev.mark) (Value.slice (some (Addr.mk 100 0 none)) out.length Ev.mark) [Blk.vec (ePc.row out) 27 11] [Blk.vec (ePc.row out) 27 11] [(100, 13)], decide ((↑i : Int) < (↑n : Int)) = false])) : Sat E (inLp (lp Try.f23 0) J) ((fLs 24 cs o n c Q).st 1 ⟨i, r, out⟩) :=
 by_ret (T := auto0 t_ls) (h := hints []) (ws := [.b false]) (nx' := 101) hE hm (auto0_ok t_ls_ok) (by omega) (by simp) (by intro x hx; simp at hx; subst hx; exact Blk.plain.namesLt (b := .vec _ _ _) (Elt.row_pl _) _) (by kernel_rfl) hob
end Go.Proofs.Ythbaccmhdffjdaa.Tr
namespace Go.Proofs.Ythbaccmhdffjdaa.Tr
open Go Go.RowKit Ev NodeE Tr BoxF
def _root_.Go.Proofs.Ythbaccmhdffjdaa.Ev.Bx.zero : Bx := ⟨0, 0, 0, 0, 0, 0, 0, 0, 0, 0⟩
def _root_.Go.Proofs.Ythbaccmhdffjdaa.Ev.Bx.emp (x : Bx) : Bool := emptyB x.a0 x.b0 x.a1 x.b1 x.a2 x.b2 x.a3 x.b3 x.a4 x.b4
def bxS (i : Nat) (w : Int) (s : List Bx × List Pc) : List Bx × List Pc :=
 bif lfB w then (s.1, bif (s.1.getD i Bx.zero).emp then s.2 else s.2 ++ [⟨s.1.getD i Bx.zero, low32 w⟩])
 else ((s.1.set (uX w).toNat ((s.1.getD i Bx.zero).low (uF w) (low32 w))).set (uY w).toNat ((s.1.getD i Bx.zero).high (uF w) (low32 w)), s.2)
def bxGo : Nat → List Int → List Bx × List Pc → List Bx × List Pc
 | _, [], s => s
 | i, w :: ws, s => bxGo (i + 1) ws (bxS i w s)
theorem bxGo_app : ∀ (l m : List Int) (i : Nat) (s : List Bx × List Pc), bxGo i (l ++ m) s = bxGo (i + l.length) m (bxGo i l s)
 | [], m, i, s => rfl
 | w :: l, m, i, s => by
  simp only [List.cons_append, bxGo, bxGo_app l m (i + 1), List.length_cons]
  rw [show i + (l.length + 1) = i + 1 + l.length by omega]
def bx0 (n : Nat) (b : Bx) : List Bx × List Pc := ((List.replicate n Bx.zero).set 0 b, [])
def pcsI (ws : List Int) (b : Bx) : List Pc := (bxGo 0 ws (bx0 ws.length b)).2
def listP (ws : List Int) (b : Bx) : List Pc := bif rightI ws 4 && !b.emp then pcsI ws b else []
structure BsOK (n : Nat) (r : List Bx) : Prop where
 len : r.length = n
 rr : ∀ x ∈ r, x.I64s
theorem zero_ok : Bx.zero.I64s := by simp [Bx.zero, Bx.I64s, I64]
theorem cut_ok {a b n : Int} (ha : I64 a) (hb : I64 b) (hn : I64 n) (i p : Int) : I64 (cL i p a b n) ∧ I64 (cH i p a b n) ∧ I64 (dL i p a b n) ∧ I64 (dH i p a b n) := by
 simp only [cL, cH, dL, dH]
 cases p == i
 ·exact ⟨ha, hb, ha, hb⟩
 ·have := cut_cases a b n
  simp only [cond_true]
  unfold I64 at *
  omega
theorem low_ok {x : Bx} (h : x.I64s) {n : Int} (hn : I64 n) (p : Int) : (x.low p n).I64s ∧ (x.high p n).I64s := by
 obtain ⟨c0, c1, c2, c3, c4, c5, c6, c7, c8, c9⟩ := h
 obtain ⟨x0, x1, x2, x3⟩ := cut_ok c0 c1 hn 0 p
 obtain ⟨y0, y1, y2, y3⟩ := cut_ok c2 c3 hn 1 p
 obtain ⟨z0, z1, z2, z3⟩ := cut_ok c4 c5 hn 2 p
 obtain ⟨u0, u1, u2, u3⟩ := cut_ok c6 c7 hn 3 p
 obtain ⟨v0, v1, v2, v3⟩ := cut_ok c8 c9 hn 4 p
 exact ⟨⟨x0, x1, y0, y1, z0, z1, u0, u1, v0, v1⟩, ⟨x2, x3, y2, y3, z2, z3, u2, u3, v2, v3⟩⟩
theorem getB {r : List Bx} {i : Nat} (h : i < r.length) : r.getD i Bx.zero ∈ r ∧ r[i]? = some (r.getD i Bx.zero) := by
 have e : r.getD i Bx.zero = r[i] := by rw [List.getD_eq_getElem?_getD, List.getElem?_eq_getElem h]; rfl
 rw [e]
 exact ⟨List.getElem_mem h, List.getElem?_eq_getElem h⟩
theorem set_ok {n : Nat} {r : List Bx} {x : Bx} (h : BsOK n r) (hx : x.I64s) (k : Nat) : BsOK n (r.set k x) := by
 refine ⟨by rw [List.length_set]; exact h.len, fun y hy => ?_⟩
 rcases List.mem_or_eq_of_mem_set hy with hy | rfl
 ·exact h.rr y hy
 ·exact hx
theorem low32_64 (w : Int) : I64 (low32 w) := by
 have := low32_r w
 unfold I64
 omega
theorem bxS_ok {n i : Nat} {s : List Bx × List Pc} (w : Int) (h : BsOK n s.1) (hi : i < n) : BsOK n (bxS i w s).1 := by
 have hg := getB (r := s.1) (i := i) (by rw [h.len]; exact hi)
 obtain ⟨h1, h2⟩ := low_ok (h.rr _ hg.1) (low32_64 w) (uF w)
 simp only [bxS]
 cases lfB w
 ·exact set_ok (set_ok h h1 _) h2 _
 ·exact h
theorem bx0_ok (n : Nat) {b : Bx} (h : b.I64s) : BsOK n (bx0 n b).1 := by
 refine set_ok ⟨List.length_replicate, fun x hx => ?_⟩ h 0
 rw [List.eq_of_mem_replicate hx]
 exact zero_ok
def _root_.Go.Proofs.Ythbaccmhdffjdaa.Ev.Bx.put (x : Bx) (p l h : Int) : Bx := (x.setLo p l).setHi p h
def lsQ (n : Nat) (ws : List Int) (b : Bx) : Nat → LS → Prop := fun z s => s.i ≤ n ∧ BsOK n s.r ∧ (s.r, s.out) = bxGo 0 (ws.take s.i) (bx0 n b) ∧ s.out.length ≤ s.i ∧ ((z = 0 ∧ s.out = []) ∨ (z = 1 ∧ s.out ≠ []))
theorem lset_all (cs vs : List Value) (h : cs.length = vs.length) : lset cs 0 vs = some vs := by
 rw [lset_of (by omega), List.take_zero, List.nil_append, Nat.zero_add, List.drop_of_length_le (by omega), List.append_nil]
theorem ls_loop {cs : List Value} {o n c : Nat} {b : Bx} (hr : eWord.Row cs o n) (hpl : ∀ x ∈ cs, leafG x = true) (hU : ∀ w ∈ eWord.list cs o n, U64 w) (hn : n ≤ 65536) (hR : rightI (eWord.list cs o n) 4 = true) (hb : b.I64s) (hem : b.emp = false) {E rv rhs rhv} (hE : EnvOK E Try.prog Try.f23 2 1 rv rhs rhv)
  (hX0 : pcsI (eWord.list cs o n) b = [] → ∀ r J, Sat E (inLp (lp Try.f23 0) J) ((fLs 24 cs o n c (lsQ n (eWord.list cs o n) b)).st 0 ⟨n, r, []⟩)) (hX1 : pcsI (eWord.list cs o n) b ≠ [] → ∀ r J, Sat E (inLp (lp Try.f23 0) J) ((fLs 24 cs o n c (lsQ n (eWord.list cs o n) b)).st 1 ⟨n, r, pcsI (eWord.list cs o n) b⟩)) :
  Sat E [.code (bodyOf Try.f23)] (st0 Try.f23 [.slice (some ⟨0, o, none⟩) n c, .agg ⟨b.cs⟩] (roRows [cs]) 1) := by
 have okL := fLs_ok 24 cs o n c (lsQ n (eWord.list cs o n) b) hpl
 have hQ : ∀ z s, (s.i ≤ n ∧ BsOK n s.r ∧ (s.r, s.out) = bxGo 0 ((eWord.list cs o n).take s.i) (bx0 n b) ∧ s.out.length ≤ s.i ∧ ((z = 0 ∧ s.out = []) ∨ (z = 1 ∧ s.out ≠ []))) → (fLs 24 cs o n c (lsQ n (eWord.list cs o n) b)).inv z s := fun z s h => h
 have hlen : (eWord.list cs o n).length = n := Elt.list_len _ _ _
 have hUl : ∀ w ∈ eWord.list cs o n, U64 w := hU
 have hr1 : Value.bool (rightI (eWord.list cs o n) 4) = .bool true := by rw [hR]
 generalize hws : eWord.list cs o n = ws at hU hlen hR hX0 hX1
 obtain ⟨⟨hn1, hn31⟩, hgood, hone⟩ := right_parts.1 hR
 have rnr : ∀ f : Nat → Nat, Blk.rnB f (.ro cs) = .ro cs := fun f => Blk.plain.rnB (b := .ro cs) hpl f
 rw [hws] at hQ okL
 have hz : repl [.int .i64 0, .int .i64 0, .int .i64 0, .int .i64 0, .int .i64 0, .int .i64 0, .int .i64 0, .int .i64 0, .int .i64 0, .int .i64 0] n = eBox.row (List.replicate n Bx.zero) := repl_row (e := eBox) (x := Bx.zero) rfl _
 have hst : lset (eBox.row (List.replicate n Bx.zero)) 0 b.cs = some (eBox.row ((List.replicate n Bx.zero).set 0 b)) := lsetE (e := eBox) (l := List.replicate n Bx.zero) (k := 0) (f := 0) (x := b) (y := Bx.zero) (by rw [List.getElem?_replicate, if_pos (by omega)]) (lset_all _ _ rfl) (by simp)
 have rni : ∀ (f : Nat → Nat) (l : List Bx), Blk.rnB f (.cells (eBox.row l) 25) = .cells (eBox.row l) 25 := fun f l => Blk.plain.rnB (b := .cells (eBox.row l) 25) (Elt.row_pl _) f
 have rnv : ∀ (f : Nat → Nat) (l : List Pc), Blk.rnB f (.vec (ePc.row l) 27 11) = .vec (ePc.row l) 27 11 := fun f l => Blk.plain.rnB (b := .vec (ePc.row l) 27 11) (Elt.row_pl _) f
 refine lsIn cs o n c (lsQ n ws b) b (List.replicate n Bx.zero) ((List.replicate n Bx.zero).set 0 b) hE okL ⟨rfl, ⟨⟨0, (List.replicate n Bx.zero).set 0 b, []⟩, hQ 0 ⟨0, _, []⟩ ⟨Nat.zero_le _, bx0_ok n hb, rfl, Nat.le_refl _, Or.inl ⟨rfl, rfl⟩⟩, trivial, rfl, (by first | (simp only [fLs, ouV, List.map_cons, List.map_nil, rnr, rni, rnv]) | (simp only [fLs, List.map_cons, List.map_nil, rnr, rni]))⟩, hst, ⟨by decide, by omega⟩, ⟨rfl, Int.natCast_nonneg _, by show (n : Int) ≤ _; omega, by show (80 : Int) * (n : Int) ≤ _; omega, hz.symm⟩, (congrArg Value.bool hem), hr1, plain1 hpl, hr, hUl, hn, trivial⟩ fun zz hz _ => by_loop (fLs 24 cs o n c (lsQ n ws b)) (lp Try.f23 0) ?_ 0 zz hz
 rintro z ⟨i, r, out⟩ hinv J hJ
 have hinv : i ≤ n ∧ BsOK n r ∧ (r, out) = bxGo 0 (ws.take i) (bx0 n b) ∧ out.length ≤ i ∧ ((z = 0 ∧ out = []) ∨ (z = 1 ∧ out ≠ [])) := hinv
 obtain ⟨k1, k2, k3, k4, k5⟩ := hinv
 have hJ' : ∀ b' zz, (fLs 24 cs o n c (lsQ n ws b)).inv b' zz → ltO ((fLs 24 cs o n c (lsQ n ws b)).mu b' zz) (some (n - i)) → Sat E (mkLp (lp Try.f23 0) J) ((fLs 24 cs o n c (lsQ n ws b)).st b' zz) := fun b' zz h1 h2 => hJ b' zz h1 h2
 have hrl : r.length = n := k2.len
 by_cases hin : i < n
 ·have hlt : decide ((i : Int) < (n : Int)) = true := decide_eq_true (by omega)
  obtain ⟨w, hw⟩ : ∃ w, ws[i]? = some w := ⟨_, List.getElem?_eq_getElem (by rw [hlen]; omega)⟩
  have hrd := hr.read1 (P := Try.prog) (ty := 83) (by kernel_rfl) rfl (i := i) (x := w) (by rw [hws]; exact hw) rfl rfl
  rw [← Nat.mul_one i] at hrd
  have htk : ws.take (i + 1) = ws.take i ++ [w] := by rw [List.take_add_one, hw]; rfl
  have ho := right_ok hR w (List.mem_of_getElem? hw)
  have htl : (ws.take i).length = i := by rw [List.length_take, hlen]; omega
  have hmu : n - (i + 1) < n - i := by omega
  obtain ⟨g1, g2⟩ := getB (r := r) (i := i) (by omega)
  have gI := k2.rr _ g1
  have hnx : bxGo 0 (ws.take (i + 1)) (bx0 n b) = bxS i w (r, out) := by rw [htk, bxGo_app, ← k3, htl, Nat.zero_add]; rfl
  have hok := bxS_ok (s := (r, out)) w k2 hin
  cases hl : lfB w
  ·obtain ⟨_, d1, d2, d3, d4, d5, d6⟩ := good_inner (hgood i w hw) hl
   obtain ⟨⟨d0, _⟩, _⟩ := inner_bounds ho hl
   have d0b : uF w < 5 := by omega
   rw [hlen] at d5 d6
   obtain ⟨X, hX⟩ := Int.eq_ofNat_of_zero_le (show 0 ≤ uX w by omega)
   obtain ⟨Y, hY⟩ := Int.eq_ofNat_of_zero_le (show 0 ≤ uY w by omega)
   have hun := unp_inner ho hl
   rw [hX, hY] at hun
   have s1 := lsetE (e := eBox) (l := r) (k := X) (f := 0) (o := 0 + X * 10) (x := (r.getD i Bx.zero).low (uF w) (low32 w)) (vs := ((r.getD i Bx.zero).low (uF w) (low32 w)).cs) (List.getElem?_eq_getElem (by omega)) (lset_all _ _ rfl) (by show _ = _ * 10 + 0; omega)
   have s2 := lsetE (e := eBox) (l := r.set X ((r.getD i Bx.zero).low (uF w) (low32 w))) (k := Y) (f := 0) (o := 0 + Y * 10) (x := (r.getD i Bx.zero).high (uF w) (low32 w)) (vs := ((r.getD i Bx.zero).high (uF w) (low32 w)).cs) (List.getElem?_eq_getElem (by rw [List.length_set]; omega)) (lset_all _ _ rfl) (by show _ = _ * 10 + 0; omega)
   have hdS : bxS i w (r, out) = ((r.set X ((r.getD i Bx.zero).low (uF w) (low32 w))).set Y ((r.getD i Bx.zero).high (uF w) (low32 w)), out) := by
    simp only [bxS, hl, cond_false, hX, hY, Int.toNat_natCast]
   rw [hdS] at hnx hok
   rcases k5 with ⟨rfl, ko⟩ | ⟨rfl, ko⟩
   ·subst ko
    exact lsI0 cs o n c (lsQ n ws b) i r (r.getD i Bx.zero) _ _ _ _ w (uF w) (low32 w) X Y J hE okL ⟨rfl, ⟨⟨i + 1, _, []⟩, hQ 0 ⟨i + 1, _, []⟩ ⟨hin, hok, hnx.symm, (by simp only [List.length_nil] at *; show _ ≤ i + 1; first | omega | exact Nat.zero_le _), Or.inl ⟨rfl, rfl⟩⟩, hmu, rfl, (by first | (simp only [fLs, ouV, List.map_cons, List.map_nil, rnr, rni, rnv]) | (simp only [fLs, List.map_cons, List.map_nil, rnr, rni]))⟩, i64_succ (by omega), s2, ⟨Int.natCast_nonneg _, Int.ofNat_lt.2 (by omega)⟩, s1, ⟨Int.natCast_nonneg _, Int.ofNat_lt.2 (by omega)⟩, rfl, low32_64 w, gI.2.1.2, gI.2.2.2.1.2, gI.2.2.2.2.2.1.2, gI.2.2.2.2.2.2.2.1.2, gI.2.2.2.2.2.2.2.2.2.2, read_row (e := eBox) (by kernel_rfl) (by kernel_rfl) g2, ⟨Int.natCast_nonneg _, Int.ofNat_lt.2 hin⟩, hun, hU w (List.mem_of_getElem? hw), hrd, ⟨Int.natCast_nonneg _, Int.ofNat_lt.2 hin⟩, hlt, trivial⟩ (hJ' 0)
   ·exact lsI1 cs o n c (lsQ n ws b) i r out (r.getD i Bx.zero) _ _ _ _ w (uF w) (low32 w) X Y J hE okL ⟨rfl, ⟨⟨i + 1, _, out⟩, hQ 1 ⟨i + 1, _, out⟩ ⟨hin, hok, hnx.symm, (by simp only [List.length_nil] at *; show _ ≤ i + 1; first | omega | exact Nat.zero_le _), Or.inr ⟨rfl, ko⟩⟩, hmu, rfl, (by first | (simp only [fLs, ouV, List.map_cons, List.map_nil, rnr, rni, rnv]) | (simp only [fLs, List.map_cons, List.map_nil, rnr, rni]))⟩, i64_succ (by omega), s2, ⟨Int.natCast_nonneg _, Int.ofNat_lt.2 (by omega)⟩, s1, ⟨Int.natCast_nonneg _, Int.ofNat_lt.2 (by omega)⟩, rfl, low32_64 w, gI.2.1.2, gI.2.2.2.1.2, gI.2.2.2.2.2.1.2, gI.2.2.2.2.2.2.2.1.2, gI.2.2.2.2.2.2.2.2.2.2, read_row (e := eBox) (by kernel_rfl) (by kernel_rfl) g2, ⟨Int.natCast_nonneg _, Int.ofNat_lt.2 hin⟩, hun, hU w (List.mem_of_getElem? hw), hrd, ⟨Int.natCast_nonneg _, Int.ofNat_lt.2 hin⟩, hlt, trivial⟩ (hJ' 1)
  ·cases he : (r.getD i Bx.zero).emp
   ·have hdS : bxS i w (r, out) = (r, out ++ [⟨r.getD i Bx.zero, low32 w⟩]) := by simp only [bxS, hl, he, cond_true, cond_false]
    rw [hdS] at hnx hok
    rcases k5 with ⟨rfl, ko⟩ | ⟨rfl, ko⟩
    ·subst ko
     exact lsF0 cs o n c (lsQ n ws b) i r (r.getD i Bx.zero) [(⟨r.getD i Bx.zero, low32 w⟩ : Pc)] w (low32 w) J hE okL ⟨rfl, ⟨⟨i + 1, r, [(⟨r.getD i Bx.zero, low32 w⟩ : Pc)]⟩, hQ 1 ⟨i + 1, r, [(⟨r.getD i Bx.zero, low32 w⟩ : Pc)]⟩ ⟨hin, hok, hnx.symm, (by simp; try omega), Or.inr ⟨rfl, by simp⟩⟩, hmu, rfl, (by first | (simp only [fLs, ouV, List.map_cons, List.map_nil, rnr, rni, rnv]) | (simp only [fLs, List.map_cons, List.map_nil, rnr, rni]))⟩, i64_succ (by omega), appOK_nil (e := ePc) (new := [(⟨r.getD i Bx.zero, low32 w⟩ : Pc)]) rfl rfl rfl rfl (by decide) (by decide) (by decide), read_row (e := eBox) (by kernel_rfl) (by kernel_rfl) g2, ⟨Int.natCast_nonneg _, Int.ofNat_lt.2 hin⟩, (congrArg Value.bool he), read_row (e := eBox) (by kernel_rfl) (by kernel_rfl) g2, ⟨Int.natCast_nonneg _, Int.ofNat_lt.2 hin⟩, unp_leaf ho hl, hU w (List.mem_of_getElem? hw), hrd, ⟨Int.natCast_nonneg _, Int.ofNat_lt.2 hin⟩, hlt, trivial⟩ (hJ' 1)
    ·exact lsF1 cs o n c (lsQ n ws b) i r out (r.getD i Bx.zero) (out ++ [(⟨r.getD i Bx.zero, low32 w⟩ : Pc)]) w (low32 w) J hE okL ⟨rfl, ⟨⟨i + 1, r, (out ++ [(⟨r.getD i Bx.zero, low32 w⟩ : Pc)])⟩, hQ 1 ⟨i + 1, r, (out ++ [(⟨r.getD i Bx.zero, low32 w⟩ : Pc)])⟩ ⟨hin, hok, hnx.symm, (by simp; try omega), Or.inr ⟨rfl, by simp⟩⟩, hmu, (by simp [fLs, ouV]; first | rfl | exact ⟨rfl, rfl, rfl, rfl, rfl⟩), (by first | (simp only [fLs, ouV, List.map_cons, List.map_nil, rnr, rni, rnv]) | (simp only [fLs, List.map_cons, List.map_nil, rnr, rni]))⟩, i64_succ (by omega), appOK (e := ePc) (L := out) (new := [(⟨r.getD i Bx.zero, low32 w⟩ : Pc)]) rfl rfl rfl rfl (Nat.le_refl _) (by simp) (by decide) (by omega) (by omega), read_row (e := eBox) (by kernel_rfl) (by kernel_rfl) g2, ⟨Int.natCast_nonneg _, Int.ofNat_lt.2 hin⟩, (congrArg Value.bool he), read_row (e := eBox) (by kernel_rfl) (by kernel_rfl) g2, ⟨Int.natCast_nonneg _, Int.ofNat_lt.2 hin⟩, unp_leaf ho hl, hU w (List.mem_of_getElem? hw), hrd, ⟨Int.natCast_nonneg _, Int.ofNat_lt.2 hin⟩, hlt, trivial⟩ (hJ' 1)
   ·have hdS : bxS i w (r, out) = (r, out) := by simp only [bxS, hl, he, cond_true]
    rw [hdS] at hnx hok
    rcases k5 with ⟨rfl, ko⟩ | ⟨rfl, ko⟩
    ·subst ko
     exact lsE0 cs o n c (lsQ n ws b) i r (r.getD i Bx.zero) w (low32 w) J hE okL ⟨rfl, ⟨⟨i + 1, r, []⟩, hQ 0 ⟨i + 1, r, []⟩ ⟨hin, hok, hnx.symm, (by simp only [List.length_nil] at *; show _ ≤ i + 1; first | omega | exact Nat.zero_le _), Or.inl ⟨rfl, rfl⟩⟩, hmu, rfl, (by first | (simp only [fLs, ouV, List.map_cons, List.map_nil, rnr, rni, rnv]) | (simp only [fLs, List.map_cons, List.map_nil, rnr, rni]))⟩, i64_succ (by omega), (congrArg Value.bool he), read_row (e := eBox) (by kernel_rfl) (by kernel_rfl) g2, ⟨Int.natCast_nonneg _, Int.ofNat_lt.2 hin⟩, unp_leaf ho hl, hU w (List.mem_of_getElem? hw), hrd, ⟨Int.natCast_nonneg _, Int.ofNat_lt.2 hin⟩, hlt, trivial⟩ (hJ' 0)
    ·exact lsE1 cs o n c (lsQ n ws b) i r out (r.getD i Bx.zero) w (low32 w) J hE okL ⟨rfl, ⟨⟨i + 1, r, out⟩, hQ 1 ⟨i + 1, r, out⟩ ⟨hin, hok, hnx.symm, (by simp only [List.length_nil] at *; show _ ≤ i + 1; first | omega | exact Nat.zero_le _), Or.inr ⟨rfl, ko⟩⟩, hmu, rfl, (by first | (simp only [fLs, ouV, List.map_cons, List.map_nil, rnr, rni, rnv]) | (simp only [fLs, List.map_cons, List.map_nil, rnr, rni]))⟩, i64_succ (by omega), (congrArg Value.bool he), read_row (e := eBox) (by kernel_rfl) (by kernel_rfl) g2, ⟨Int.natCast_nonneg _, Int.ofNat_lt.2 hin⟩, unp_leaf ho hl, hU w (List.mem_of_getElem? hw), hrd, ⟨Int.natCast_nonneg _, Int.ofNat_lt.2 hin⟩, hlt, trivial⟩ (hJ' 1)
 ·obtain rfl : i = n := by omega
  rw [List.take_of_length_le (by omega)] at k3
  have hp : pcsI ws b = out := by unfold pcsI; rw [hlen, ← k3]
  rcases k5 with ⟨rfl, ko⟩ | ⟨rfl, ko⟩
  ·rw [ko]
   exact hX0 (by rw [hp, ko]) r J
  ·have := hX1 (by rw [hp]; exact ko) r J
   rw [hp] at this
   exact this
end Go.Proofs.Ythbaccmhdffjdaa.Tr
namespace Go.Proofs.Ythbaccmhdffjdaa.Lv
open Go Go.RowKit Ev NodeE Tr BoxF
def _root_.Go.Proofs.Ythbaccmhdffjdaa.Ev.Bx.In (x : Bx) (p : Pt) (t : Int) : Prop := (x.a0 ≤ p.p0 ∧ p.p0 ≤ x.b0) ∧ (x.a1 ≤ p.p1 ∧ p.p1 ≤ x.b1) ∧ (x.a2 ≤ p.p2 ∧ p.p2 ≤ x.b2) ∧ (x.a3 ≤ p.p3 ∧ p.p3 ≤ x.b3) ∧ (x.a4 ≤ t ∧ t ≤ x.b4)
def _root_.Go.Proofs.Ythbaccmhdffjdaa.Ev.Bx.hs (x : Bx) (p : Pt) (t : Int) : Bool := BoxF.hasB x.a0 x.b0 x.a1 x.b1 x.a2 x.b2 x.a3 x.b3 x.a4 x.b4 p.p0 p.p1 p.p2 p.p3 t
def _root_.Go.Proofs.Ythbaccmhdffjdaa.Ev.Bx.Le (x y : Bx) : Prop := (y.a0 ≤ x.a0 ∧ x.b0 ≤ y.b0) ∧ (y.a1 ≤ x.a1 ∧ x.b1 ≤ y.b1) ∧ (y.a2 ≤ x.a2 ∧ x.b2 ≤ y.b2) ∧ (y.a3 ≤ x.a3 ∧ x.b3 ≤ y.b3) ∧ (y.a4 ≤ x.a4 ∧ x.b4 ≤ y.b4)
theorem hs_iff {x : Bx} {p : Pt} {t : Int} : x.hs p t = true ↔ x.In p t := by
 simp [Bx.hs, Bx.In, BoxF.hasB, h3, cond_eq_ite]
theorem emp_iff {x : Bx} : x.emp = false ↔ x.a0 ≤ x.b0 ∧ x.a1 ≤ x.b1 ∧ x.a2 ≤ x.b2 ∧ x.a3 ≤ x.b3 ∧ x.a4 ≤ x.b4 := by
 simp [Bx.emp, emptyB, e2, cond_eq_ite]
theorem in_emp {x : Bx} {p : Pt} {t : Int} (h : x.In p t) : x.emp = false := by
 obtain ⟨h0, h1, h2, h3, h4⟩ := h
 exact emp_iff.2 ⟨by omega, by omega, by omega, by omega, by omega⟩
def _root_.Go.Proofs.Ythbaccmhdffjdaa.Ev.Bx.pt (x : Bx) : Pt := ⟨x.a0, x.a1, x.a2, x.a3⟩
def _root_.Go.Proofs.Ythbaccmhdffjdaa.Ev.Bx.top (x : Bx) : Pt := ⟨x.b0, x.b1, x.b2, x.b3⟩
theorem pt_in {x : Bx} (h : x.emp = false) : x.In x.pt x.a4 ∧ x.In x.top x.b4 := by
 obtain ⟨h0, h1, h2, h3, h4⟩ := emp_iff.1 h
 exact ⟨⟨⟨Int.le_refl _, h0⟩, ⟨Int.le_refl _, h1⟩, ⟨Int.le_refl _, h2⟩, ⟨Int.le_refl _, h3⟩, ⟨Int.le_refl _, h4⟩⟩, ⟨⟨h0, Int.le_refl _⟩, ⟨h1, Int.le_refl _⟩, ⟨h2, Int.le_refl _⟩, ⟨h3, Int.le_refl _⟩, ⟨h4, Int.le_refl _⟩⟩⟩
theorem le_refl (x : Bx) : x.Le x := ⟨⟨Int.le_refl _, Int.le_refl _⟩, ⟨Int.le_refl _, Int.le_refl _⟩, ⟨Int.le_refl _, Int.le_refl _⟩, ⟨Int.le_refl _, Int.le_refl _⟩, ⟨Int.le_refl _, Int.le_refl _⟩⟩
theorem le_trans {x y z : Bx} (h : x.Le y) (g : y.Le z) : x.Le z := by
 obtain ⟨h0, h1, h2, h3, h4⟩ := h
 obtain ⟨g0, g1, g2, g3, g4⟩ := g
 exact ⟨by omega, by omega, by omega, by omega, by omega⟩
theorem le_in {x y : Bx} {p : Pt} {t : Int} (h : x.Le y) (g : x.In p t) : y.In p t := by
 obtain ⟨h0, h1, h2, h3, h4⟩ := h
 obtain ⟨g0, g1, g2, g3, g4⟩ := g
 exact ⟨by omega, by omega, by omega, by omega, by omega⟩
theorem le_emp {x y : Bx} (h : x.Le y) (g : x.emp = false) : y.emp = false := in_emp (le_in h (pt_in g).1)
theorem span_low (a b n v : Int) : (cutLo a b n ≤ v ∧ v ≤ cutHi a b n) ↔ (a ≤ v ∧ v ≤ b) ∧ v ≤ n := by
 have := cut_cases a b n; omega
theorem span_high (a b n v : Int) : (cutLo' a b n ≤ v ∧ v ≤ cutHi' a b n) ↔ (a ≤ v ∧ v ≤ b) ∧ n < v := by
 have := cut_cases a b n; omega
theorem span_le (a b n : Int) : (cutLo a b n ≤ cutHi a b n → a ≤ cutLo a b n ∧ cutHi a b n ≤ b) ∧ (cutLo' a b n ≤ cutHi' a b n → a ≤ cutLo' a b n ∧ cutHi' a b n ≤ b) := by
 have := cut_cases a b n; omega
theorem in_low (x : Bx) (p : Pt) (t n : Int) {f : Int} (h0 : 0 ≤ f) (h4 : f < 4) : (x.low f n).In p t ↔ x.In p t ∧ p.at f ≤ n := by
 have : f = 0 ∨ f = 1 ∨ f = 2 ∨ f = 3 := by omega
 rcases this with h | h | h | h <;> subst h <;> simp [Bx.low, Bx.In, cL, cH, Pt.at, span_low] <;> omega
theorem in_high (x : Bx) (p : Pt) (t n : Int) {f : Int} (h0 : 0 ≤ f) (h4 : f < 4) : (x.high f n).In p t ↔ x.In p t ∧ n < p.at f := by
 have : f = 0 ∨ f = 1 ∨ f = 2 ∨ f = 3 := by omega
 rcases this with h | h | h | h <;> subst h <;> simp [Bx.high, Bx.In, dL, dH, Pt.at, span_high] <;> omega
theorem cut_le {x : Bx} {n : Int} {f : Int} (h0 : 0 ≤ f) (h5 : f < 5) : ((x.low f n).emp = false → (x.low f n).Le x) ∧ ((x.high f n).emp = false → (x.high f n).Le x) := by
 rw [emp_iff, emp_iff]
 obtain ⟨l0, l1, l2, l3, l4⟩ := le_refl x
 have : f = 0 ∨ f = 1 ∨ f = 2 ∨ f = 3 ∨ f = 4 := by omega
 rcases this with h | h | h | h | h <;> subst h
 ·exact ⟨fun e => ⟨(span_le _ _ _).1 e.1, l1, l2, l3, l4⟩, fun e => ⟨(span_le _ _ _).2 e.1, l1, l2, l3, l4⟩⟩
 ·exact ⟨fun e => ⟨l0, (span_le _ _ _).1 e.2.1, l2, l3, l4⟩, fun e => ⟨l0, (span_le _ _ _).2 e.2.1, l2, l3, l4⟩⟩
 ·exact ⟨fun e => ⟨l0, l1, (span_le _ _ _).1 e.2.2.1, l3, l4⟩, fun e => ⟨l0, l1, (span_le _ _ _).2 e.2.2.1, l3, l4⟩⟩
 ·exact ⟨fun e => ⟨l0, l1, l2, (span_le _ _ _).1 e.2.2.2.1, l4⟩, fun e => ⟨l0, l1, l2, (span_le _ _ _).2 e.2.2.2.1, l4⟩⟩
 ·exact ⟨fun e => ⟨l0, l1, l2, l3, (span_le _ _ _).1 e.2.2.2.2⟩, fun e => ⟨l0, l1, l2, l3, (span_le _ _ _).2 e.2.2.2.2⟩⟩
theorem named_once {ws : List Int} {dim : Int} (h : rightI ws dim = true) {i j : Nat} {w v c : Int} (hij : i < j) (hw : ws[i]? = some w) (hv : ws[j]? = some v) (h1 : c ∈ namesW w) (h2 : c ∈ namesW v) : False := by
 have hj := (List.getElem?_eq_some_iff.1 hv).1
 have hc : 1 ≤ c ∧ c < ws.length := by
  cases hl : lfB w
  ·obtain ⟨_, _, _, a, b, p, q⟩ := good_inner ((right_parts.1 h).2.1 i w hw) hl
   simp only [namesW, hl, cond_false, List.mem_cons, List.not_mem_nil, or_false] at h1
   omega
  ·simp [namesW, hl] at h1
 obtain ⟨k, rfl⟩ := Int.eq_ofNat_of_zero_le (show 0 ≤ c by omega)
 have ho := (right_parts.1 h).2.2 k (by omega) (by omega)
 have e : ws = ws.take j ++ (v :: ws.drop (j + 1)) := by
  conv => lhs; rw [← List.take_append_drop j ws]
  rw [List.drop_eq_getElem_cons hj, (List.getElem?_eq_some_iff.1 hv).2]
 have c1 : 1 ≤ ((ws.take j).flatMap namesW).count (k : Int) := List.count_pos_iff.2 (List.mem_flatMap.2 ⟨w, List.mem_of_getElem? (i := i) (by rw [List.getElem?_take, if_pos hij]; exact hw), h1⟩)
 have c2 : 1 ≤ (namesW v).count (k : Int) := List.count_pos_iff.2 h2
 unfold named at ho
 rw [e, List.flatMap_append, List.flatMap_cons, List.count_append, List.count_append] at ho
 omega
structure Boxes (ws : List Int) (b : Bx) (R : List Bx) : Prop where
 len : R.length = ws.length
 root : R[0]? = some b
 left : ∀ (i : Nat) (w : Int) (x : Bx), ws[i]? = some w → lfB w = false → R[i]? = some x → R[(uX w).toNat]? = some (x.low (uF w) (low32 w))
 right : ∀ (i : Nat) (w : Int) (x : Bx), ws[i]? = some w → lfB w = false → R[i]? = some x → R[(uY w).toNat]? = some (x.high (uF w) (low32 w))
def outR (R : List Bx) : Nat → List Int → List Pc
 | _, [] => []
 | i, w :: ws => (bif lfB w && !(R.getD i Bx.zero).emp then [⟨R.getD i Bx.zero, low32 w⟩] else []) ++ outR R (i + 1) ws
theorem outR_congr {R S : List Bx} : ∀ {ws : List Int} {i : Nat}, (∀ k, k < ws.length → R[i + k]? = S[i + k]?) → outR R i ws = outR S i ws
 | [], _, _ => rfl
 | w :: ws, i, h => by
  have h0 := h 0 (by simp)
  have e : R.getD i Bx.zero = S.getD i Bx.zero := by
   rw [List.getD_eq_getElem?_getD, List.getD_eq_getElem?_getD]
   rw [Nat.add_zero] at h0
   rw [h0]
  simp only [outR, e]
  have hr := outR_congr (R := R) (S := S) (ws := ws) (i := i + 1) fun k hk => by
   have := h (k + 1) (by rw [List.length_cons]; omega)
   rw [show i + (k + 1) = i + 1 + k by omega] at this
   exact this
  rw [hr]
theorem outR_app {R : List Bx} : ∀ (l m : List Int) (i : Nat), outR R i (l ++ m) = outR R i l ++ outR R (i + l.length) m
 | [], m, i => by simp [outR]
 | w :: l, m, i => by
  simp only [List.cons_append, outR, outR_app l m (i + 1), List.length_cons, List.append_assoc]
  rw [show i + (l.length + 1) = i + 1 + l.length by omega]
theorem boxes_at {ws : List Int} {dim : Int} (h : rightI ws dim = true) (b : Bx) : ∀ i, i ≤ ws.length → ∃ R : List Bx, ∃ O : List Pc, bxGo 0 (ws.take i) (bx0 ws.length b) = (R, O) ∧ R.length = ws.length ∧ R[0]? = some b ∧
  (∀ (j : Nat) (w : Int) (x : Bx), j < i → ws[j]? = some w → lfB w = false → R[j]? = some x → R[(uX w).toNat]? = some (x.low (uF w) (low32 w)) ∧ R[(uY w).toNat]? = some (x.high (uF w) (low32 w))) ∧ O = outR R 0 (ws.take i)
 | 0, _ => by
  obtain ⟨⟨h1, _⟩, _, _⟩ := right_parts.1 h
  refine ⟨_, _, rfl, by simp, ?_, fun j w x hj => absurd hj (Nat.not_lt_zero _), rfl⟩
  rw [List.getElem?_set_self (by simp; omega)]
 | i + 1, hi => by
  obtain ⟨R, O, e, l, r0, hb, ho⟩ := boxes_at h b i (by omega)
  obtain ⟨w, hw⟩ : ∃ w, ws[i]? = some w := ⟨_, List.getElem?_eq_getElem (by omega)⟩
  have htk : ws.take (i + 1) = ws.take i ++ [w] := by rw [List.take_add_one, hw]; rfl
  have htl : (ws.take i).length = i := by rw [List.length_take]; omega
  have en : bxGo 0 (ws.take (i + 1)) (bx0 ws.length b) = bxS i w (R, O) := by rw [htk, bxGo_app, e, htl, Nat.zero_add]; rfl
  have eo : ∀ S : List Bx, outR S 0 (ws.take (i + 1)) = outR S 0 (ws.take i) ++ outR S i [w] := fun S => by rw [htk, outR_app, htl, Nat.zero_add]
  cases hl : lfB w
  ·obtain ⟨_, d1, d2, d3, d4, d5, d6⟩ := good_inner ((right_parts.1 h).2.1 i w hw) hl
   obtain ⟨X, hX⟩ := Int.eq_ofNat_of_zero_le (show 0 ≤ uX w by omega)
   obtain ⟨Y, hY⟩ := Int.eq_ofNat_of_zero_le (show 0 ≤ uY w by omega)
   obtain ⟨x, hx⟩ : ∃ x, R[i]? = some x := ⟨_, List.getElem?_eq_getElem (by omega)⟩
   have hg : R.getD i Bx.zero = x := by rw [List.getD_eq_getElem?_getD, hx]; rfl
   have es : bxS i w (R, O) = ((R.set X (x.low (uF w) (low32 w))).set Y (x.high (uF w) (low32 w)), O) := by
    simp only [bxS, hl, cond_false, hX, hY, Int.toNat_natCast, hg]
   have get : ∀ k, k ≠ X → k ≠ Y → ((R.set X (x.low (uF w) (low32 w))).set Y (x.high (uF w) (low32 w)))[k]? = R[k]? := fun k k1 k2 => by
    rw [List.getElem?_set_ne (by omega), List.getElem?_set_ne (by omega)]
   have getX : ((R.set X (x.low (uF w) (low32 w))).set Y (x.high (uF w) (low32 w)))[X]? = some (x.low (uF w) (low32 w)) := by
    rw [List.getElem?_set_ne (by omega), List.getElem?_set_self (by omega)]
   have getY : ((R.set X (x.low (uF w) (low32 w))).set Y (x.high (uF w) (low32 w)))[Y]? = some (x.high (uF w) (low32 w)) := by
    rw [List.getElem?_set_self (by rw [List.length_set]; omega)]
   refine ⟨_, _, en.trans es, by simp [l], by rw [get 0 (by omega) (by omega)]; exact r0, fun j v z hj hv hvl hz => ?_, ?_⟩
   ·by_cases hji : j = i
    ·subst hji
     rw [hw] at hv
     injection hv with hv
     subst hv
     rw [get j (by omega) (by omega), hx] at hz
     injection hz with hz
     subst hz
     rw [hX, hY, Int.toNat_natCast, Int.toNat_natCast]
     exact ⟨getX, getY⟩
    ·rw [get j (by omega) (by omega)] at hz
     obtain ⟨c1, c2⟩ := hb j v z (by omega) hv hvl hz
     obtain ⟨_, f1, f2, f3, f4, f5, f6⟩ := good_inner ((right_parts.1 h).2.1 j v hv) hvl
     have n1 : ∀ c, c ∈ namesW v → c ≠ uX w ∧ c ≠ uY w := fun c hc => by
      constructor
      ·intro h1; subst h1; exact named_once h (show j < i by omega) hv hw hc (by simp [namesW, hl])
      ·intro h1; subst h1; exact named_once h (show j < i by omega) hv hw hc (by simp [namesW, hl])
     obtain ⟨a1, a2⟩ := n1 (uX v) (by simp [namesW, hvl])
     obtain ⟨a3, a4⟩ := n1 (uY v) (by simp [namesW, hvl])
     rw [get _ (by omega) (by omega), get _ (by omega) (by omega)]
     exact ⟨c1, c2⟩
   ·rw [eo, ho]
    have e1 : outR ((R.set X (x.low (uF w) (low32 w))).set Y (x.high (uF w) (low32 w))) i [w] = [] := by simp [outR, hl]
    rw [e1, List.append_nil]
    exact outR_congr fun k hk => by rw [htl] at hk; rw [Nat.zero_add, get k (by omega) (by omega)]
  ·have es : bxS i w (R, O) = (R, O ++ outR R i [w]) := by
    simp only [bxS, hl, cond_true, outR, Bool.true_and, List.append_nil]
    cases (R.getD i Bx.zero).emp <;> simp
   refine ⟨_, _, en.trans es, l, r0, fun j v z hj hv hvl hz => ?_, by rw [eo, ho]⟩
   by_cases hji : j = i
   ·subst hji
    rw [hw] at hv
    injection hv with hv
    subst hv
    rw [hl] at hvl
    exact absurd hvl (by simp)
   ·exact hb j v z (by omega) hv hvl hz
theorem boxes {ws : List Int} {dim : Int} (h : rightI ws dim = true) (b : Bx) : ∃ R, Boxes ws b R ∧ pcsI ws b = outR R 0 ws := by
 obtain ⟨R, O, e, l, r0, hb, ho⟩ := boxes_at h b ws.length (Nat.le_refl _)
 rw [List.take_length] at e ho
 exact ⟨R, ⟨l, r0, fun i w x hw hl hx => (hb i w x (List.getElem?_eq_some_iff.1 hw).1 hw hl hx).1, fun i w x hw hl hx => (hb i w x (List.getElem?_eq_some_iff.1 hw).1 hw hl hx).2⟩, by unfold pcsI; rw [e, ho]⟩
inductive On (ws : List Int) (p : Pt) : Nat → Prop
 | root : On ws p 0
 | step (i : Nat) (w : Int) : On ws p i → ws[i]? = some w → lfB w = false → On ws p (goes p w).toNat
theorem on_go {ws : List Int} {dim : Int} (h : rightI ws dim = true) {p : Pt} {j : Nat} (ho : On ws p j) : ∃ t, t ≤ j ∧ ∀ k, goW ws p (t + k) 0 = goW ws p k j := by
 induction ho with
 | root => exact ⟨0, Nat.le_refl _, fun k => by rw [Nat.zero_add]⟩
 | step i w _ hw hl ih =>
  obtain ⟨t, ht, he⟩ := ih
  have hn := goes_next h (p := p) hw hl
  refine ⟨t + 1, by omega, fun k => ?_⟩
  rw [show t + 1 + k = t + (k + 1) by omega, he, goW_step hw (right_ok h w (List.mem_of_getElem? hw)) hl]
theorem on_lt {ws : List Int} {dim : Int} (h : rightI ws dim = true) {p : Pt} {j : Nat} (ho : On ws p j) : j < ws.length := by
 cases ho with
 | root => have := (right_parts.1 h).1; omega
 | step i w _ hw hl => exact (goes_next h (p := p) hw hl).2
theorem on_leaf {ws : List Int} {dim : Int} (h : rightI ws dim = true) {p : Pt} {j : Nat} {w : Int} (ho : On ws p j) (hw : ws[j]? = some w) (hl : lfB w = true) : goW ws p 31 0 = some j := by
 obtain ⟨t, ht, he⟩ := on_go h ho
 have hj := on_lt h ho
 have h31 := (right_parts.1 h).1
 have := he (31 - t - 1 + 1)
 rw [show t + (31 - t - 1 + 1) = 31 by omega, goW_leaf hw (right_ok h w (List.mem_of_getElem? hw)) hl] at this
 exact this
theorem go_on {ws : List Int} {p : Pt} : ∀ {k i j : Nat}, On ws p i → goW ws p k i = some j → On ws p j
 | 0, i, j, _, h => by simp [goW] at h
 | k + 1, i, j, ho, h => by
  cases hw : ws[i]? with
  | none => simp only [goW, hw] at h; exact absurd h (by simp)
  | some w =>
   cases hk : okB w with
   | false => rw [goW_bad hw hk] at h; exact absurd h (by simp)
   | true =>
    cases hl : lfB w with
    | false => rw [goW_step hw hk hl] at h; exact go_on (On.step i w ho hw hl) h
    | true => rw [goW_leaf hw hk hl] at h; injection h with h; subst h; exact ho
section
variable {ws : List Int} {dim : Int} {b : Bx} {R : List Bx}
theorem in_on (h : rightI ws dim = true) (hB : Boxes ws b R) {p : Pt} {t : Int} (hb : b.In p t) {j : Nat} (ho : On ws p j) : ∃ x, R[j]? = some x ∧ x.In p t := by
 induction ho with
 | root => exact ⟨b, hB.root, hb⟩
 | step i w _ hw hl ih =>
  obtain ⟨x, hx, hin⟩ := ih
  obtain ⟨⟨f0, f4⟩, _⟩ := inner_bounds (right_ok h w (List.mem_of_getElem? hw)) hl
  cases hg : decide (p.at (uF w) ≤ low32 w)
  ·have := of_decide_eq_false hg
   refine ⟨_, by unfold goes; rw [hg]; exact hB.right i w x hw hl hx, (in_high x p t _ f0 f4).2 ⟨hin, by omega⟩⟩
  ·have := of_decide_eq_true hg
   exact ⟨_, by unfold goes; rw [hg]; exact hB.left i w x hw hl hx, (in_low x p t _ f0 f4).2 ⟨hin, this⟩⟩
theorem parent (h : rightI ws dim = true) {j : Nat} (h1 : 1 ≤ j) (h2 : j < ws.length) : ∃ i w, i < j ∧ ws[i]? = some w ∧ lfB w = false ∧ ((uX w).toNat = j ∨ (uY w).toNat = j) := by
 have hn := (right_parts.1 h).2.2 j h1 h2
 have hm : (j : Int) ∈ ws.flatMap namesW := List.count_pos_iff.1 (by unfold named at hn; omega)
 obtain ⟨w, hw, hj⟩ := List.mem_flatMap.1 hm
 obtain ⟨i, hi⟩ := List.mem_iff_getElem?.1 hw
 cases hl : lfB w
 ·obtain ⟨_, d1, d2, d3, d4, d5, d6⟩ := good_inner ((right_parts.1 h).2.1 i w hi) hl
  simp only [namesW, hl, cond_false, List.mem_cons, List.not_mem_nil, or_false] at hj
  exact ⟨i, w, by omega, hi, hl, by omega⟩
 ·simp [namesW, hl] at hj
theorem on_in (h : rightI ws dim = true) (hB : Boxes ws b R) {p : Pt} {t : Int} : ∀ (j : Nat) (x : Bx), R[j]? = some x → x.In p t → On ws p j ∧ b.In p t := by
 intro j
 induction j using Nat.strongRecOn with
 | ind j ih =>
  intro x hx hin
  have hj := (List.getElem?_eq_some_iff.1 hx).1
  rw [hB.len] at hj
  by_cases h0 : j = 0
  ·subst h0
   have := hB.root
   rw [hx] at this
   injection this with this
   subst this
   exact ⟨On.root, hin⟩
  ·obtain ⟨i, w, hij, hw, hl, hc⟩ := parent h (show 1 ≤ j by omega) hj
   obtain ⟨y, hy⟩ : ∃ y, R[i]? = some y := ⟨_, List.getElem?_eq_getElem (by rw [hB.len]; omega)⟩
   obtain ⟨⟨f0, f4⟩, _⟩ := inner_bounds (right_ok h w (List.mem_of_getElem? hw)) hl
   rcases hc with hc | hc
   ·have := hB.left i w y hw hl hy
    rw [hc, hx] at this
    injection this with this
    subst this
    obtain ⟨g1, g2⟩ := (in_low y p t _ f0 f4).1 hin
    obtain ⟨o, hb⟩ := ih i hij y hy g1
    have := On.step i w o hw hl
    unfold goes at this
    rw [decide_eq_true g2, cond_true, hc] at this
    exact ⟨this, hb⟩
   ·have := hB.right i w y hw hl hy
    rw [hc, hx] at this
    injection this with this
    subst this
    obtain ⟨g1, g2⟩ := (in_high y p t _ f0 f4).1 hin
    obtain ⟨o, hb⟩ := ih i hij y hy g1
    have := On.step i w o hw hl
    unfold goes at this
    rw [decide_eq_false (by omega), cond_false, hc] at this
    exact ⟨this, hb⟩
theorem box_le (h : rightI ws dim = true) (hB : Boxes ws b R) : ∀ (j : Nat) (x : Bx), R[j]? = some x → x.emp = false → x.Le b := by
 intro j
 induction j using Nat.strongRecOn with
 | ind j ih =>
  intro x hx he
  have hj := (List.getElem?_eq_some_iff.1 hx).1
  rw [hB.len] at hj
  by_cases h0 : j = 0
  ·subst h0
   have := hB.root
   rw [hx] at this
   injection this with this
   subst this
   exact le_refl _
  ·obtain ⟨i, w, hij, hw, hl, hc⟩ := parent h (show 1 ≤ j by omega) hj
   obtain ⟨y, hy⟩ : ∃ y, R[i]? = some y := ⟨_, List.getElem?_eq_getElem (by rw [hB.len]; omega)⟩
   obtain ⟨⟨f0, f4⟩, _⟩ := inner_bounds (right_ok h w (List.mem_of_getElem? hw)) hl
   rcases hc with hc | hc
   ·have := hB.left i w y hw hl hy
    rw [hc, hx] at this
    injection this with this
    subst this
    have hle := (cut_le f0 (by omega)).1 he
    exact le_trans hle (ih i hij y hy (le_emp hle he))
   ·have := hB.right i w y hw hl hy
    rw [hc, hx] at this
    injection this with this
    subst this
    have hle := (cut_le f0 (by omega)).2 he
    exact le_trans hle (ih i hij y hy (le_emp hle he))
theorem mem_outR {y : Pc} : ∀ {ws : List Int} {i : Nat}, y ∈ outR R i ws ↔ ∃ k w, ws[k]? = some w ∧ lfB w = true ∧ (R.getD (i + k) Bx.zero).emp = false ∧ y = ⟨R.getD (i + k) Bx.zero, low32 w⟩
 | [], i => by simp [outR]
 | w :: ws, i => by
  rw [outR, List.mem_append, mem_outR (ws := ws) (i := i + 1)]
  constructor
  ·rintro (h | ⟨k, v, h1, h2, h3, h4⟩)
   ·cases hc : lfB w && !(R.getD i Bx.zero).emp
    ·rw [hc] at h; simp at h
    ·rw [hc] at h
     simp at h hc
     exact ⟨0, w, rfl, hc.1, hc.2, h⟩
   ·exact ⟨k + 1, v, by simpa using h1, h2, by rw [show i + (k + 1) = i + 1 + k by omega]; exact h3, by rw [show i + (k + 1) = i + 1 + k by omega]; exact h4⟩
  ·rintro ⟨k, v, h1, h2, h3, h4⟩
   cases k with
   | zero =>
    simp at h1
    subst h1
    left
    rw [Nat.add_zero] at h3 h4
    rw [h2, h3]
    simp [h4]
   | succ k =>
    right
    exact ⟨k, v, by simpa using h1, h2, by rw [show i + 1 + k = i + (k + 1) by omega]; exact h3, by rw [show i + 1 + k = i + (k + 1) by omega]; exact h4⟩
theorem mem_out {y : Pc} (hB : Boxes ws b R) (hy : y ∈ outR R 0 ws) : ∃ (j : Nat) (w : Int), ws[j]? = some w ∧ lfB w = true ∧ R[j]? = some y.box ∧ y.box.emp = false ∧ y.val = low32 w := by
 obtain ⟨k, w, h1, h2, h3, h4⟩ := mem_outR.1 hy
 rw [Nat.zero_add] at h3 h4
 have hk := (List.getElem?_eq_some_iff.1 h1).1
 have e := (getB (r := R) (i := k) (by rw [hB.len]; exact hk)).2
 subst h4
 exact ⟨k, w, h1, h2, e, h3, rfl⟩
theorem out_mem (hB : Boxes ws b R) {j : Nat} {w : Int} {x : Bx} (hw : ws[j]? = some w) (hl : lfB w = true) (hx : R[j]? = some x) (he : x.emp = false) : (⟨x, low32 w⟩ : Pc) ∈ outR R 0 ws := by
 have hj := (List.getElem?_eq_some_iff.1 hw).1
 have e := (getB (r := R) (i := j) (by rw [hB.len]; exact hj)).2
 rw [hx] at e
 injection e with e
 refine mem_outR.2 ⟨j, w, hw, hl, ?_, ?_⟩
 ·rw [Nat.zero_add, ← e]; exact he
 ·rw [Nat.zero_add, ← e]
theorem piece_val (h : rightI ws dim = true) (hB : Boxes ws b R) {p : Pt} {t : Int} {y : Pc} (hy : y ∈ outR R 0 ws) (hin : y.box.In p t) : y.val = endV ws p ∧ b.In p t := by
 obtain ⟨j, w, hw, hl, hx, he, hv⟩ := mem_out hB hy
 obtain ⟨ho, hb⟩ := on_in h hB j y.box hx hin
 have hg := on_leaf h ho hw hl
 obtain ⟨_, hend, _⟩ := end_some hg
 refine ⟨?_, hb⟩
 rw [hv, hend, List.getD_eq_getElem?_getD, hw]
 rfl
theorem piece_is (h : rightI ws dim = true) (hB : Boxes ws b R) {p : Pt} {t : Int} (hb : b.In p t) : ∃ y ∈ outR R 0 ws, y.box.In p t := by
 obtain ⟨j, hj⟩ := walk_ends h p
 obtain ⟨w, hw, _, hl⟩ := goW_is hj
 obtain ⟨x, hx, hin⟩ := in_on h hB hb (go_on On.root hj)
 exact ⟨⟨x, low32 w⟩, out_mem hB hw hl hx (in_emp hin), hin⟩
theorem count_outR {f : Pc → Bool} {j : Nat} : ∀ {ws : List Int} {i : Nat}, i ≤ j → (∀ k w, ws[k]? = some w → lfB w = true → (R.getD (i + k) Bx.zero).emp = false → f ⟨R.getD (i + k) Bx.zero, low32 w⟩ = decide (i + k = j)) → (∃ w, ws[j - i]? = some w ∧ lfB w = true ∧ (R.getD j Bx.zero).emp = false) → (outR R i ws).countP f = 1
 | [], i, _, _, ⟨w, h, _⟩ => by simp at h
 | w :: ws, i, hij, hf, ⟨v, h1, h2, h3⟩ => by
  rw [outR, List.countP_append]
  by_cases he : i = j
  ·subst he
   rw [Nat.sub_self] at h1
   simp at h1
   subst h1
   have hf0 := hf 0 w rfl h2 (by simpa using h3)
   simp only [Nat.add_zero, decide_true] at hf0
   rw [h2, h3]
   have hz : (outR R (i + 1) ws).countP f = 0 := by
    rw [List.countP_eq_zero]
    intro y hy
    obtain ⟨k, u, g1, g2, g3, g4⟩ := mem_outR.1 hy
    have := hf (k + 1) u (by simpa using g1) g2 (by rw [show i + (k + 1) = i + 1 + k by omega]; exact g3)
    rw [show i + (k + 1) = i + 1 + k by omega] at this
    rw [g4, this]
    simp
    omega
   rw [hz]
   rw [List.getD_eq_getElem?_getD] at hf0
   simp [hf0]
  ·have hrest := count_outR (ws := ws) (i := i + 1) (f := f) (j := j) (by omega) (fun k u g1 g2 g3 => by
    have := hf (k + 1) u (by simpa using g1) g2 (by rw [show i + (k + 1) = i + 1 + k by omega]; exact g3)
    rw [show i + (k + 1) = i + 1 + k by omega] at this
    exact this) ⟨v, by rw [show j - i = (j - (i + 1)) + 1 by omega] at h1; simpa using h1, h2, h3⟩
   rw [hrest]
   cases hc : lfB w && !(R.getD i Bx.zero).emp
   ·simp
   ·simp at hc
    have := hf 0 w rfl hc.1 (by simpa using hc.2)
    rw [Nat.add_zero, List.getD_eq_getElem?_getD, decide_eq_false he] at this
    simp [this]
theorem piece_one (h : rightI ws dim = true) (hB : Boxes ws b R) {p : Pt} {t : Int} (hb : b.In p t) : (outR R 0 ws).countP (fun y => y.box.hs p t) = 1 := by
 obtain ⟨j, hj⟩ := walk_ends h p
 obtain ⟨w, hw, _, hl⟩ := goW_is hj
 obtain ⟨x, hx, hin⟩ := in_on h hB hb (go_on On.root hj)
 have hxd : R.getD j Bx.zero = x := by rw [List.getD_eq_getElem?_getD, hx]; rfl
 refine count_outR (j := j) (Nat.zero_le _) (fun k v hv hvl he => ?_) ⟨w, hw, hl, by rw [hxd]; exact in_emp hin⟩
 rw [Nat.zero_add] at he ⊢
 have hk := (List.getElem?_eq_some_iff.1 hv).1
 have hR := (getB (r := R) (i := k) (by rw [hB.len]; exact hk)).2
 by_cases hkj : k = j
 ·subst hkj
  rw [decide_eq_true rfl, hxd]
  exact hs_iff.2 hin
 ·rw [decide_eq_false hkj]
  cases hh : (R.getD k Bx.zero).hs p t
  ·rfl
  ·obtain ⟨ho, _⟩ := on_in h hB k _ hR (hs_iff.1 hh)
   have := on_leaf h ho hv hvl
   rw [hj] at this
   injection this with this
   exact absurd this.symm hkj
end
def _root_.Go.Proofs.Ythbaccmhdffjdaa.Ev.Bx.join (x y : Bx) : Bx := ⟨minI x.a0 y.a0, maxI x.b0 y.b0, minI x.a1 y.a1, maxI x.b1 y.b1, minI x.a2 y.a2, maxI x.b2 y.b2, minI x.a3 y.a3, maxI x.b3 y.b3, minI x.a4 y.a4, maxI x.b4 y.b4⟩
section
variable {ws : List Int} {dim : Int} {b : Bx}
theorem list_pcs (h : rightI ws 4 = true) (he : b.emp = false) : listP ws b = pcsI ws b := by simp only [listP, h, he, Bool.not_false, Bool.and_self, cond_true]
theorem list_ne (h : rightI ws 4 = true) (he : b.emp = false) : listP ws b ≠ [] := by
 obtain ⟨R, hB, hp⟩ := boxes h b
 rw [list_pcs h he, hp]
 obtain ⟨y, hy, _⟩ := piece_is h hB (pt_in he).1
 intro hn
 rw [hn] at hy
 simp at hy
theorem list_in (h : rightI ws 4 = true) (he : b.emp = false) : ∀ y ∈ listP ws b, y.box.emp = false ∧ y.box.Le b := by
 obtain ⟨R, hB, hp⟩ := boxes h b
 rw [list_pcs h he, hp]
 intro y hy
 obtain ⟨j, w, _, _, hx, hye, _⟩ := mem_out hB hy
 exact ⟨hye, box_le h hB j _ hx hye⟩
theorem list_val (h : rightI ws 4 = true) (he : b.emp = false) {p : Pt} {t : Int} : ∀ y ∈ listP ws b, y.box.In p t → y.val = endV ws p := by
 obtain ⟨R, hB, hp⟩ := boxes h b
 rw [list_pcs h he, hp]
 exact fun y hy hin => (piece_val h hB hy hin).1
theorem list_one (h : rightI ws 4 = true) {p : Pt} {t : Int} (hb : b.In p t) : (listP ws b).countP (fun y => y.box.hs p t) = 1 := by
 obtain ⟨R, hB, hp⟩ := boxes h b
 rw [list_pcs h (in_emp hb), hp]
 exact piece_one h hB hb
end
end Go.Proofs.Ythbaccmhdffjdaa.Lv
namespace Go.Proofs.Ythbaccmhdffjdaa.Fo
open Go Go.RowKit Ev NodeE BoxF Within PickE Tn Fo
theorem rg1 (PV : Value → Int → Int) (R0 : List Value) (c0 b0 b1 b2 : Int) (zm zs : Option Addr) (lm cm ns cs : Nat) (l0 h0 : Int)  {E : Env} (hE : EnvOK E Try.prog Try.f28 2 2 (.agg ⟨[.int .i64 l0, .int .i64 h0, .int .i64 0, .int .i64 0, .int .i64 0, .int .i64 0, .int .i64 0, .int .i64 0, .int .i64 0, .int .i64 0]⟩) [] []) (hob : all ([Back (Value.agg (Array.mk [.int .i64 l0, .int .i64 h0, .int .i64 ((0 : Int)), .int .i64 ((0 : Int)), .int .i64 ((0 : Int)), .int .i64 ((0 : Int)), .int .i64 ((0 : Int)), .int .i64 ((0 : Int)), .int .i64 ((0 : Int)), .int .i64 ((0 : Int))])) (Value.agg (Array.mk [.int .i64 l0, .int .i64 h0, .int .i64 ((0 : Int)), .int .i64 ((0 : Int)), .int .i64 ((0 : Int)), .int .i64 ((0 : Int)), .int .i64 ((0 : Int)), .int .i64 ((0 : Int)), .int .i64 ((0 : Int)), .int .i64 ((0 : Int))])) [] [] [], Value.int IntKind.i64 (IntKind.i64.wrap (l0 + withinS (PV (Value.slice zs ns cs) (IntKind.i64.wrap (IntKind.i64.wrap (2 * 0) + 1))) ((0 : Int)) ((11 : Int)))) = .int .i64 h0, I64 (PV (Value.slice zs ns cs) (IntKind.i64.wrap (IntKind.i64.wrap (2 * 0) + 1))), (-2305843009213693952 : Int) ≤ (0 : Int), (0 : Int) ≤ (11 : Int), (11 : Int) ≤ (2305843009213693952 : Int), PickOK PV (Value.slice zs ns cs) ((1 : Int)) 0 (some (Blk.ro R0)), Value.int IntKind.i64 (withinS (PV (Value.slice zs ns cs) (IntKind.i64.wrap (2 * 0))) ((-2 : Int)) ((9 : Int))) = .int .i64 l0, I64 (PV (Value.slice zs ns cs) (IntKind.i64.wrap (2 * 0))), (-2305843009213693952 : Int) ≤ (-2 : Int), (-2 : Int) ≤ (9 : Int), (9 : Int) ≤ (2305843009213693952 : Int), PickOK PV (Value.slice zs ns cs) ((0 : Int)) 0 (some (Blk.ro R0))])) : Sat E [.code (bodyOf Try.f28)] (st0 Try.f28 [.agg ⟨[.int .i64 1, .int .i64 c0, .int .i64 b0, .int .i64 b1, .int .i64 b2, .slice zm lm cm]⟩, .slice zs ns cs] (roRows [R0]) 2) :=
 by_ret (T := auto0 (t_rg PV)) (h := hintsC [(5, 5, 4, {v := some (.int .i64 l0)}), (6, 6, 9, {v := some (.int .i64 h0)})] (hints [])) (ws := []) (nx' := 2) hE hm (auto0_ok (t_rg_ok PV)) (by omega) (by simp) (by simp) (by kernel_rfl) hob
theorem rg2 (PV : Value → Int → Int) (R0 : List Value) (c0 b0 b1 b2 : Int) (zm zs : Option Addr) (lm cm ns cs : Nat) (l0 h0 l1 h1 : Int)  {E : Env} (hE : EnvOK E Try.prog Try.f28 2 2 (.agg ⟨[.int .i64 l0, .int .i64 h0, .int .i64 l1, .int .i64 h1, .int .i64 0, .int .i64 0, .int .i64 0, .int .i64 0, .int .i64 0, .int .i64 0]⟩) [] []) (hob : all ([Back (Value.agg (Array.mk [.int .i64 l0, .int .i64 h0, .int .i64 l1, .int .i64 h1, .int .i64 ((0 : Int)), .int .i64 ((0 : Int)), .int .i64 ((0 : Int)), .int .i64 ((0 : Int)), .int .i64 ((0 : Int)), .int .i64 ((0 : Int))])) (Value.agg (Array.mk [.int .i64 l0, .int .i64 h0, .int .i64 l1, .int .i64 h1, .int .i64 ((0 : Int)), .int .i64 ((0 : Int)), .int .i64 ((0 : Int)), .int .i64 ((0 : Int)), .int .i64 ((0 : Int)), .int .i64 ((0 : Int))])) [] [] [], Value.int IntKind.i64 (IntKind.i64.wrap (l1 + withinS (PV (Value.slice zs ns cs) (IntKind.i64.wrap (IntKind.i64.wrap (2 * IntKind.i64.wrap (0 + 1)) + 1))) ((0 : Int)) ((11 : Int)))) = .int .i64 h1, I64 (PV (Value.slice zs ns cs) (IntKind.i64.wrap (IntKind.i64.wrap (2 * IntKind.i64.wrap (0 + 1)) + 1))), (-2305843009213693952 : Int) ≤ (0 : Int), (0 : Int) ≤ (11 : Int), (11 : Int) ≤ (2305843009213693952 : Int), PickOK PV (Value.slice zs ns cs) ((3 : Int)) 0 (some (Blk.ro R0)), Value.int IntKind.i64 (withinS (PV (Value.slice zs ns cs) (IntKind.i64.wrap (2 * IntKind.i64.wrap (0 + 1)))) ((-2 : Int)) ((9 : Int))) = .int .i64 l1, I64 (PV (Value.slice zs ns cs) (IntKind.i64.wrap (2 * IntKind.i64.wrap (0 + 1)))), (-2305843009213693952 : Int) ≤ (-2 : Int), (-2 : Int) ≤ (9 : Int), (9 : Int) ≤ (2305843009213693952 : Int), PickOK PV (Value.slice zs ns cs) ((2 : Int)) 0 (some (Blk.ro R0)), Value.int IntKind.i64 (IntKind.i64.wrap (l0 + withinS (PV (Value.slice zs ns cs) (IntKind.i64.wrap (IntKind.i64.wrap (2 * 0) + 1))) ((0 : Int)) ((11 : Int)))) = .int .i64 h0, I64 (PV (Value.slice zs ns cs) (IntKind.i64.wrap (IntKind.i64.wrap (2 * 0) + 1))), (-2305843009213693952 : Int) ≤ (0 : Int), (0 : Int) ≤ (11 : Int), (11 : Int) ≤ (2305843009213693952 : Int), PickOK PV (Value.slice zs ns cs) ((1 : Int)) 0 (some (Blk.ro R0)), Value.int IntKind.i64 (withinS (PV (Value.slice zs ns cs) (IntKind.i64.wrap (2 * 0))) ((-2 : Int)) ((9 : Int))) = .int .i64 l0, I64 (PV (Value.slice zs ns cs) (IntKind.i64.wrap (2 * 0))), (-2305843009213693952 : Int) ≤ (-2 : Int), (-2 : Int) ≤ (9 : Int), (9 : Int) ≤ (2305843009213693952 : Int), PickOK PV (Value.slice zs ns cs) ((0 : Int)) 0 (some (Blk.ro R0))])) : Sat E [.code (bodyOf Try.f28)] (st0 Try.f28 [.agg ⟨[.int .i64 2, .int .i64 c0, .int .i64 b0, .int .i64 b1, .int .i64 b2, .slice zm lm cm]⟩, .slice zs ns cs] (roRows [R0]) 2) :=
 by_ret (T := auto0 (t_rg PV)) (h := hintsC [(5, 5, 4, {v := some (.int .i64 l0)}), (6, 6, 9, {v := some (.int .i64 h0)}), (10, 5, 4, {v := some (.int .i64 l1)}), (11, 6, 9, {v := some (.int .i64 h1)})] (hints [])) (ws := []) (nx' := 2) hE hm (auto0_ok (t_rg_ok PV)) (by omega) (by simp) (by simp) (by kernel_rfl) hob
theorem rg3 (PV : Value → Int → Int) (R0 : List Value) (c0 b0 b1 b2 : Int) (zm zs : Option Addr) (lm cm ns cs : Nat) (l0 h0 l1 h1 l2 h2 : Int)  {E : Env} (hE : EnvOK E Try.prog Try.f28 2 2 (.agg ⟨[.int .i64 l0, .int .i64 h0, .int .i64 l1, .int .i64 h1, .int .i64 l2, .int .i64 h2, .int .i64 0, .int .i64 0, .int .i64 0, .int .i64 0]⟩) [] []) (hob : all ([Back (Value.agg (Array.mk [.int .i64 l0, .int .i64 h0, .int .i64 l1, .int .i64 h1, .int .i64 l2, .int .i64 h2, .int .i64 ((0 : Int)), .int .i64 ((0 : Int)), .int .i64 ((0 : Int)), .int .i64 ((0 : Int))])) (Value.agg (Array.mk [.int .i64 l0, .int .i64 h0, .int .i64 l1, .int .i64 h1, .int .i64 l2, .int .i64 h2, .int .i64 ((0 : Int)), .int .i64 ((0 : Int)), .int .i64 ((0 : Int)), .int .i64 ((0 : Int))])) [] [] [], Value.int IntKind.i64 (IntKind.i64.wrap (l2 + withinS (PV (Value.slice zs ns cs) (IntKind.i64.wrap (IntKind.i64.wrap (2 * IntKind.i64.wrap (IntKind.i64.wrap (0 + 1) + 1)) + 1))) ((0 : Int)) ((11 : Int)))) = .int .i64 h2, I64 (PV (Value.slice zs ns cs) (IntKind.i64.wrap (IntKind.i64.wrap (2 * IntKind.i64.wrap (IntKind.i64.wrap (0 + 1) + 1)) + 1))), (-2305843009213693952 : Int) ≤ (0 : Int), (0 : Int) ≤ (11 : Int), (11 : Int) ≤ (2305843009213693952 : Int), PickOK PV (Value.slice zs ns cs) ((5 : Int)) 0 (some (Blk.ro R0)), Value.int IntKind.i64 (withinS (PV (Value.slice zs ns cs) (IntKind.i64.wrap (2 * IntKind.i64.wrap (IntKind.i64.wrap (0 + 1) + 1)))) ((-2 : Int)) ((9 : Int))) = .int .i64 l2, I64 (PV (Value.slice zs ns cs) (IntKind.i64.wrap (2 * IntKind.i64.wrap (IntKind.i64.wrap (0 + 1) + 1)))), (-2305843009213693952 : Int) ≤ (-2 : Int), (-2 : Int) ≤ (9 : Int), (9 : Int) ≤ (2305843009213693952 : Int), PickOK PV (Value.slice zs ns cs) ((4 : Int)) 0 (some (Blk.ro R0)), Value.int IntKind.i64 (IntKind.i64.wrap (l1 + withinS (PV (Value.slice zs ns cs) (IntKind.i64.wrap (IntKind.i64.wrap (2 * IntKind.i64.wrap (0 + 1)) + 1))) ((0 : Int)) ((11 : Int)))) = .int .i64 h1, I64 (PV (Value.slice zs ns cs) (IntKind.i64.wrap (IntKind.i64.wrap (2 * IntKind.i64.wrap (0 + 1)) + 1))), (-2305843009213693952 : Int) ≤ (0 : Int), (0 : Int) ≤ (11 : Int), (11 : Int) ≤ (2305843009213693952 : Int), PickOK PV (Value.slice zs ns cs) ((3 : Int)) 0 (some (Blk.ro R0)), Value.int IntKind.i64 (withinS (PV (Value.slice zs ns cs) (IntKind.i64.wrap (2 * IntKind.i64.wrap (0 + 1)))) ((-2 : Int)) ((9 : Int))) = .int .i64 l1, I64 (PV (Value.slice zs ns cs) (IntKind.i64.wrap (2 * IntKind.i64.wrap (0 + 1)))), (-2305843009213693952 : Int) ≤ (-2 : Int), (-2 : Int) ≤ (9 : Int), (9 : Int) ≤ (2305843009213693952 : Int), PickOK PV (Value.slice zs ns cs) ((2 : Int)) 0 (some (Blk.ro R0)), Value.int IntKind.i64 (IntKind.i64.wrap (l0 + withinS (PV (Value.slice zs ns cs) (IntKind.i64.wrap (IntKind.i64.wrap (2 * 0) + 1))) ((0 : Int)) ((11 : Int)))) = .int .i64 h0, I64 (PV (Value.slice zs ns cs) (IntKind.i64.wrap (IntKind.i64.wrap (2 * 0) + 1))), (-2305843009213693952 : Int) ≤ (0 : Int), (0 : Int) ≤ (11 : Int), (11 : Int) ≤ (2305843009213693952 : Int), PickOK PV (Value.slice zs ns cs) ((1 : Int)) 0 (some (Blk.ro R0)), Value.int IntKind.i64 (withinS (PV (Value.slice zs ns cs) (IntKind.i64.wrap (2 * 0))) ((-2 : Int)) ((9 : Int))) = .int .i64 l0, I64 (PV (Value.slice zs ns cs) (IntKind.i64.wrap (2 * 0))), (-2305843009213693952 : Int) ≤ (-2 : Int), (-2 : Int) ≤ (9 : Int), (9 : Int) ≤ (2305843009213693952 : Int), PickOK PV (Value.slice zs ns cs) ((0 : Int)) 0 (some (Blk.ro R0))])) : Sat E [.code (bodyOf Try.f28)] (st0 Try.f28 [.agg ⟨[.int .i64 3, .int .i64 c0, .int .i64 b0, .int .i64 b1, .int .i64 b2, .slice zm lm cm]⟩, .slice zs ns cs] (roRows [R0]) 2) :=
 by_ret (T := auto0 (t_rg PV)) (h := hintsC [(5, 5, 4, {v := some (.int .i64 l0)}), (6, 6, 9, {v := some (.int .i64 h0)}), (10, 5, 4, {v := some (.int .i64 l1)}), (11, 6, 9, {v := some (.int .i64 h1)}), (15, 5, 4, {v := some (.int .i64 l2)}), (16, 6, 9, {v := some (.int .i64 h2)})] (hints [])) (ws := []) (nx' := 2) hE hm (auto0_ok (t_rg_ok PV)) (by omega) (by simp) (by simp) (by kernel_rfl) hob
end Go.Proofs.Ythbaccmhdffjdaa.Fo
namespace Go.Proofs.Ythbaccmhdffjdaa.Tn
open Go Go.RowKit Ev NodeE BoxF Within PickE Tn
def Rw.sz (r : Rw) (k : Nat) : Option Addr := bif r.z then some ⟨k, 0, none⟩ else none
def Rw.sm (r : Rw) : Nat := bif r.z then r.n else 0
def Rw.sc (r : Rw) : Nat := bif r.z then r.c else 0
theorem Rw.sv (r : Rw) (k : Nat) : Value.slice (r.sz k) r.sm r.sc = r.v k := by
 unfold Rw.sz Rw.sm Rw.sc Rw.v
 cases r.z <;> rfl
theorem Rw.v_nm (r : Rw) (k : Nat) : ∀ j ∈ nm0 (r.v k), j = k := by
 intro j hj
 unfold Rw.v at hj
 cases h : r.z <;> rw [h] at hj <;> simp [nm0] at hj
 exact hj
theorem Rw.v_rn (r : Rw) (k : Nat) (f : Nat → Nat) : rn f (r.v k) = r.v (f k) := by
 unfold Rw.v
 cases r.z <;> rfl
def RwOn (r : Rw) (x : Option Blk) : Prop := r.good ∧ (r.z = false → r.cs = []) ∧ ∃ b, x = some b ∧ b.row = some r.cs
theorem RwOn.pl {r : Rw} {x : Option Blk} (h : RwOn r x) : ∀ c ∈ r.cs, leafG c = true := by
 cases hz : r.z with
 | false => rw [h.2.1 hz]; intro c hc; simp at hc
 | true => exact (h.1 hz).2.2
theorem Rw.good64 {r : Rw} (h : r.good) : ∀ z ∈ r.l, I64 z := by
 intro z hz
 unfold Rw.l at hz
 cases h' : r.z <;> rw [h'] at hz
 ·simp at hz
 ·exact (h h').2.1 z hz
end Go.Proofs.Ythbaccmhdffjdaa.Tn
namespace Go.Proofs.Ythbaccmhdffjdaa.Fo
open Go Go.RowKit Ev NodeE BoxF Within PickE Tn Fo Tr
def rgLo (l : List Int) (i : Int) : Int := withinS (pickI l (2 * i)) (-2) 9
def rgHi (l : List Int) (i : Int) : Int := rgLo l i + withinS (pickI l (2 * i + 1)) 0 11
def regI (l : List Int) (dim : Int) : Bx := ⟨if 0 < dim then rgLo l 0 else 0, if 0 < dim then rgHi l 0 else 0, if 1 < dim then rgLo l 1 else 0, if 1 < dim then rgHi l 1 else 0, if 2 < dim then rgLo l 2 else 0, if 2 < dim then rgHi l 2 else 0, 0, 0, 0, 0⟩
theorem rg_in (l : List Int) (i : Int) : -2 ≤ rgLo l i ∧ rgLo l i ≤ rgHi l i ∧ rgHi l i ≤ 20 := by
 have h1 := within_range (pickI l (2 * i)) (show (-2 : Int) ≤ 9 by decide)
 have h2 := within_range (pickI l (2 * i + 1)) (show (0 : Int) ≤ 11 by decide)
 unfold rgHi rgLo
 omega
theorem reg_in (l : List Int) (dim : Int) : let b := regI l dim; (-2 ≤ b.a0 ∧ b.a0 ≤ b.b0 ∧ b.b0 ≤ 20) ∧ (-2 ≤ b.a1 ∧ b.a1 ≤ b.b1 ∧ b.b1 ≤ 20) ∧ (-2 ≤ b.a2 ∧ b.a2 ≤ b.b2 ∧ b.b2 ≤ 20) ∧ (-2 ≤ b.a3 ∧ b.a3 ≤ b.b3 ∧ b.b3 ≤ 20) ∧ (-2 ≤ b.a4 ∧ b.a4 ≤ b.b4 ∧ b.b4 ≤ 20) := by
 have h0 := rg_in l 0
 have h1 := rg_in l 1
 have h2 := rg_in l 2
 unfold regI
 refine ⟨?_, ?_, ?_, (by show (-2 : Int) ≤ 0 ∧ (0 : Int) ≤ 0 ∧ (0 : Int) ≤ 20; decide), (by show (-2 : Int) ≤ 0 ∧ (0 : Int) ≤ 0 ∧ (0 : Int) ≤ 20; decide)⟩
 ·show -2 ≤ (if (0 : Int) < dim then _ else _) ∧ (if (0 : Int) < dim then _ else _) ≤ (if (0 : Int) < dim then _ else _) ∧ (if (0 : Int) < dim then _ else _) ≤ (20 : Int)
  split <;> omega
 ·show -2 ≤ (if (1 : Int) < dim then _ else _) ∧ (if (1 : Int) < dim then _ else _) ≤ (if (1 : Int) < dim then _ else _) ∧ (if (1 : Int) < dim then _ else _) ≤ (20 : Int)
  split <;> omega
 ·show -2 ≤ (if (2 : Int) < dim then _ else _) ∧ (if (2 : Int) < dim then _ else _) ≤ (if (2 : Int) < dim then _ else _) ∧ (if (2 : Int) < dim then _ else _) ≤ (20 : Int)
  split <;> omega
def insX (l : List Int) (i a b : Int) : Int := withinS (pickI l i) a (maxI a b)
def insI (l : List Int) (b : Bx) : Pt := ⟨insX l 0 b.a0 b.b0, insX l 1 b.a1 b.b1, insX l 2 b.a2 b.b2, insX l 3 b.a3 b.b3⟩
theorem pick0 {r : Rw} (h : r.good) {i : Int} (hi : 0 ≤ i) : PickOK (fun _ i => pickI r.l i) (.slice (r.sz 0) r.sm r.sc) i 0 (some (.ro r.cs)) := ⟨r, ⟨Rw.sv r 0, h, fun _ => ⟨_, rfl, rfl⟩⟩, rfl, hi⟩
theorem region_spec (r : Rw) (hg : r.good) (dim c0 b0 b1 b2 : Int) (h1 : 1 ≤ dim) (h2 : dim ≤ 3) (zm : Option Addr) (lm cm : Nat) :
  CallSpec Try.prog 28 [.agg ⟨[.int .i64 dim, .int .i64 c0, .int .i64 b0, .int .i64 b1, .int .i64 b2, .slice zm lm cm]⟩, r.v 0] (roRows [r.cs]) 2 (.agg ⟨(regI r.l dim).cs⟩) (assocN [] []) := by
 refine spec_of_sat Try.func28 rfl fun E hE => ?_
 rw [← Rw.sv]
 have h3 : dim = 1 ∨ dim = 2 ∨ dim = 3 := by omega
 rcases h3 with rfl | rfl | rfl
 ·exact rg1 (fun _ i => pickI r.l i) r.cs c0 b0 b1 b2 zm (r.sz 0) lm cm r.sm r.sc (rgLo r.l 0) (rgHi r.l 0) hE ⟨⟨rfl, rfl⟩, i64_id rfl (by have := rg_in r.l 0; show -9223372036854775808 ≤ rgHi r.l 0; omega) (by have := rg_in r.l 0; show rgHi r.l 0 ≤ 9223372036854775807; omega), pick_i64 (Rw.good64 hg) _, by decide, by decide, by decide, pick0 hg (i := 1) (by decide), rfl, pick_i64 (Rw.good64 hg) _, by decide, by decide, by decide, pick0 hg (i := 0) (by decide), trivial⟩
 ·exact rg2 (fun _ i => pickI r.l i) r.cs c0 b0 b1 b2 zm (r.sz 0) lm cm r.sm r.sc (rgLo r.l 0) (rgHi r.l 0) (rgLo r.l 1) (rgHi r.l 1) hE ⟨⟨rfl, rfl⟩, i64_id rfl (by have := rg_in r.l 1; show -9223372036854775808 ≤ rgHi r.l 1; omega) (by have := rg_in r.l 1; show rgHi r.l 1 ≤ 9223372036854775807; omega), pick_i64 (Rw.good64 hg) _, by decide, by decide, by decide, pick0 hg (i := 3) (by decide), rfl, pick_i64 (Rw.good64 hg) _, by decide, by decide, by decide, pick0 hg (i := 2) (by decide), i64_id rfl (by have := rg_in r.l 0; show -9223372036854775808 ≤ rgHi r.l 0; omega) (by have := rg_in r.l 0; show rgHi r.l 0 ≤ 9223372036854775807; omega), pick_i64 (Rw.good64 hg) _, by decide, by decide, by decide, pick0 hg (i := 1) (by decide), rfl, pick_i64 (Rw.good64 hg) _, by decide, by decide, by decide, pick0 hg (i := 0) (by decide), trivial⟩
 ·exact rg3 (fun _ i => pickI r.l i) r.cs c0 b0 b1 b2 zm (r.sz 0) lm cm r.sm r.sc (rgLo r.l 0) (rgHi r.l 0) (rgLo r.l 1) (rgHi r.l 1) (rgLo r.l 2) (rgHi r.l 2) hE ⟨⟨rfl, rfl⟩, i64_id rfl (by have := rg_in r.l 2; show -9223372036854775808 ≤ rgHi r.l 2; omega) (by have := rg_in r.l 2; show rgHi r.l 2 ≤ 9223372036854775807; omega), pick_i64 (Rw.good64 hg) _, by decide, by decide, by decide, pick0 hg (i := 5) (by decide), rfl, pick_i64 (Rw.good64 hg) _, by decide, by decide, by decide, pick0 hg (i := 4) (by decide), i64_id rfl (by have := rg_in r.l 1; show -9223372036854775808 ≤ rgHi r.l 1; omega) (by have := rg_in r.l 1; show rgHi r.l 1 ≤ 9223372036854775807; omega), pick_i64 (Rw.good64 hg) _, by decide, by decide, by decide, pick0 hg (i := 3) (by decide), rfl, pick_i64 (Rw.good64 hg) _, by decide, by decide, by decide, pick0 hg (i := 2) (by decide), i64_id rfl (by have := rg_in r.l 0; show -9223372036854775808 ≤ rgHi r.l 0; omega) (by have := rg_in r.l 0; show rgHi r.l 0 ≤ 9223372036854775807; omega), pick_i64 (Rw.good64 hg) _, by decide, by decide, by decide, pick0 hg (i := 1) (by decide), rfl, pick_i64 (Rw.good64 hg) _, by decide, by decide, by decide, pick0 hg (i := 0) (by decide), trivial⟩
def RegOK (b : Bx) (q : Nat) (xs : List Value) (x : Option Blk) : Prop :=
 ∃ (dim c0 b0 b1 b2 : Int) (zm : Option Nat) (lm cm : Nat) (r : Rw), xs = [.agg ⟨[.int .i64 dim, .int .i64 c0, .int .i64 b0, .int .i64 b1, .int .i64 b2, .slice (zm.map fun j => ⟨j, 0, none⟩) lm cm]⟩, r.v q] ∧ 1 ≤ dim ∧ dim ≤ 3 ∧ RwOn r x ∧ b = regI r.l dim
def region_F (b : Bx) (q : Nat) : List Value → Heap → Nat → Option Res := fun xs H nm => some ⟨.agg ⟨b.cs⟩, [], [q], [RegOK b q xs (H q)]⟩
theorem bcs_pl (b : Bx) : ∀ c ∈ b.cs, leafG c = true := by
 intro c hc
 simp only [Bx.cs, List.mem_cons, List.not_mem_nil, or_false] at hc
 rcases hc with rfl | rfl | rfl | rfl | rfl | rfl | rfl | rfl | rfl | rfl <;> rfl
theorem one_lt {cs : List Value} {j : Nat} {b : Blk} (h : roRows [cs] j = some b) : j = 0 ∧ b = .ro cs := by
 match j with
 | 0 => exact ⟨rfl, (Option.some.inj h).symm⟩
 | j + 1 => simp [roRows] at h
theorem region_sum (b : Bx) (q : Nat) : SumOK Try.prog 28 (region_F b q) := by
 refine gen_sum (en Try.func28 rfl) (fun xs H nm r h hob => ?_) (fun xs H nm r h H' hH => ?_)
 ·unfold region_F at h
  simp only [Option.some.injEq] at h
  subst h
  obtain ⟨dim, c0, b0, b1, b2, zm, lm, cm, r, rfl, h1, h2, hr, rfl⟩ := hob _ (List.mem_cons_self ..)
  obtain ⟨bq, hq1, hq2⟩ := hr.2.2
  have hpl := hr.pl
  have hrow : ∀ (f : Nat → Nat), mapL (rn0 f) r.cs = r.cs := fun f => mapL_id fun c hc => rn0_leafG f (hpl c hc)
  have hnb : ∀ j ∈ nms (Value.agg ⟨(regI r.l dim).cs⟩), False := fun j hj => by
   obtain ⟨c, hc, hj⟩ := mem_nmL' (f := nm0) (show j ∈ nmL nm0 (regI r.l dim).cs from hj)
   rw [nm0_leafG (bcs_pl _ c hc)] at hj
   simp at hj
  cases zm with
  | none =>
   refine ⟨⟨[.agg ⟨[.int .i64 dim, .int .i64 c0, .int .i64 b0, .int .i64 b1, .int .i64 b2, .slice none lm cm]⟩, r.v 0], roRows [r.cs], 2, .agg ⟨(regI r.l dim).cs⟩, assocN [] [], [(0, q)], [], region_spec r hr.1 dim c0 b0 b1 b2 h1 h2 none lm cm, by simp, by simp, fun j k h => ?_, fun j k h => ?_, fun j b hb => ?_, fun m k h => by simp at h, fun j hj => (hnb j hj).elim, fun u hu j hj => ?_, ?_, rfl, rfl⟩⟩
   ·simp at h
    obtain ⟨rfl, rfl⟩ := h
    refine ⟨by omega, fun b0 hb0 => ?_⟩
    obtain ⟨_, rfl⟩ := one_lt hb0
    exact ⟨bq, r.cs, hq1, by rw [hq2, hrow], rfl, fun c hc i hi => by rw [nm0_leafG (hpl c hc)] at hi; simp at hi⟩
   ·simp at h
    obtain ⟨rfl, rfl⟩ := h
    exact Or.inl ⟨bq, hq1⟩
   ·obtain ⟨rfl, _⟩ := one_lt hb
    exact ⟨q, by simp⟩
   ·simp only [List.mem_cons, List.not_mem_nil, or_false] at hu
    rcases hu with rfl | rfl
    ·simp [nms, nm1, nmL, nm0] at hj
    ·have : j = 0 := Rw.v_nm r 0 j (by unfold Rw.v at hj ⊢; cases hz : r.z <;> rw [hz] at hj <;> exact hj)
     subst this
     exact ⟨q, by simp⟩
   ·show _ = [rn _ _, rn _ (r.v 0)]
    rw [Rw.v_rn]
    rfl
  | some jm =>
   refine ⟨⟨[.agg ⟨[.int .i64 dim, .int .i64 c0, .int .i64 b0, .int .i64 b1, .int .i64 b2, .slice (some ⟨1, 0, none⟩) lm cm]⟩, r.v 0], roRows [r.cs], 2, .agg ⟨(regI r.l dim).cs⟩, assocN [] [], [(0, q), (1, jm)], [], region_spec r hr.1 dim c0 b0 b1 b2 h1 h2 _ lm cm, by simp, by simp, fun j k h => ?_, fun j k h => ?_, fun j b hb => ?_, fun m k h => by simp at h, fun j hj => (hnb j hj).elim, fun u hu j hj => ?_, ?_, rfl, rfl⟩⟩
   ·simp at h
    rcases h with ⟨rfl, rfl⟩ | ⟨rfl, rfl⟩
    ·refine ⟨by omega, fun b0 hb0 => ?_⟩
     obtain ⟨_, rfl⟩ := one_lt hb0
     exact ⟨bq, r.cs, hq1, by rw [hq2, hrow], rfl, fun c hc i hi => by rw [nm0_leafG (hpl c hc)] at hi; simp at hi⟩
    ·refine ⟨by omega, fun b0 hb0 => ?_⟩
     obtain ⟨h, _⟩ := one_lt hb0
     omega
   ·simp at h
    rcases h with ⟨rfl, rfl⟩ | ⟨rfl, rfl⟩
    ·exact Or.inl ⟨bq, hq1⟩
    ·exact Or.inr (Or.inl ⟨_, List.mem_cons_self .., by simp [nms, nm1, nmL, nm0]⟩)
   ·obtain ⟨rfl, _⟩ := one_lt hb
    exact ⟨q, by simp⟩
   ·simp only [List.mem_cons, List.not_mem_nil, or_false] at hu
    rcases hu with rfl | rfl
    ·simp [nms, nm1, nmL, nm0] at hj
     subst hj
     exact ⟨jm, by simp⟩
    ·have : j = 0 := Rw.v_nm r 0 j (by unfold Rw.v at hj ⊢; cases hz : r.z <;> rw [hz] at hj <;> exact hj)
     subst this
     exact ⟨q, by simp⟩
   ·show _ = [rn _ _, rn _ (r.v 0)]
    rw [Rw.v_rn]
    rfl
 ·unfold region_F at h ⊢
  simp only [Option.some.injEq] at h
  subst h
  simp only [hH q (by simp)]
end Go.Proofs.Ythbaccmhdffjdaa.Fo

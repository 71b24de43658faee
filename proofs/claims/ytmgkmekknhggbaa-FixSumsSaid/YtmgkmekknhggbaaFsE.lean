/-
  Roomy and Intact: what they answer. No condition.
-/
import Derived.Test.YtmgkmekknhggbaaFsD
set_option linter.unusedVariables false
set_option linter.unusedSimpArgs false
set_option maxRecDepth 100000
namespace Go.Proofs.Ytmgkmekknhggbaa.Fs
open Go Go.RowKit Go.Proofs.Ytmgkmekknhggbaa.Ev Go.Proofs.Ytmgkmekknhggbaa.Within Go.Proofs.Ytmgkmekknhggbaa.FixA Go.Proofs.Ytmgkmekknhggbaa.BitLib Go.Proofs.Ytmgkmekknhggbaa.Fs
def fullR (L : List Int) (k : Int) (i : Nat) : List Value := eInt.row (L ++ List.replicate (i - L.length) k ++ List.replicate (L.length + 80 - i) 0)
theorem roomy_spec (cs : List Value) (o n c : Nat) (k : Int) (hr : eInt.Row cs o n) (hpl : ∀ x ∈ cs, leafG x = true) (hn : n ≤ 65536) :
    CallSpec Try.prog 26 [.slice (some ⟨0, o, none⟩) n c, .int .i64 k] (roRows [cs]) 1 (.slice (some ⟨100, 0, none⟩) (n + 80) (n + 80)) (assocN [100] [.cells (eInt.row (eInt.list cs o n ++ List.replicate 80 k)) 3]) := by
  refine spec_of_sat Try.func26 rfl fun E hE => ?_
  have hlen : (eInt.list cs o n).length = n := Elt.list_len _ _ _
  let Q : Nat → List Value → Prop := fun i r => n ≤ i ∧ i ≤ n + 80 ∧ r = fullR (eInt.list cs o n) k i
  have hQ : ∀ i r, Q i r → ∀ x ∈ r, leafG x = true := fun i r h => by rw [h.2.2]; exact Elt.row_pl _
  have okL := rmL_ok (n + 80) k Q hQ
  have rnr : ∀ (f : Nat → Nat) (l : List Int), Blk.rnB f (.cells (eInt.row l) 3) = .cells (eInt.row l) 3 := fun f l => Blk.plain.rnB (b := .cells (eInt.row l) 3) (Elt.row_pl _) f
  have hz : repl [Value.int .i64 0] (n + 80) = eInt.row (List.replicate (n + 80) 0) := repl_row (e := eInt) (x := 0) rfl _
  have hcopy : CopyOK n (n + 80) 1 0 cs o (eInt.row (List.replicate (n + 80) 0)) (fullR (eInt.list cs o n) k n) := copyOK (e := eInt) hr rfl (by omega) (by simp) hpl (congrArg eInt.row (by rw [hlen, Nat.sub_self]; simp [List.drop_replicate]))
  refine rmIn Q cs o n c (n + 80) k (n : Int) (eInt.row (List.replicate (n + 80) 0)) (fullR (eInt.list cs o n) k n) hE okL
    ⟨rfl, ⟨(n, _), ⟨Nat.le_refl _, by omega, rfl⟩, trivial, rfl, by simp [rmL, fullR, rnr]⟩, hcopy, ⟨rfl, by show (0 : Int) ≤ ((n + 80 : Nat) : Int); omega, by show ((n + 80 : Nat) : Int) ≤ _; omega, by show (8 : Int) * ((n + 80 : Nat) : Int) ≤ _; omega, hz.symm⟩, (i64_id (by show (n : Int) + 80 = ((n + 80 : Nat) : Int); omega) (by show _ ≤ ((n + 80 : Nat) : Int); omega) (by show ((n + 80 : Nat) : Int) ≤ _; omega)), rfl, trivial⟩ fun zz hz _ => by_loop (rmL (n + 80) k Q) (lp Try.f26 0) ?_ 0 zz hz
  rintro b ⟨i, r⟩ hinv J hJ
  have hinv : n ≤ i ∧ i ≤ n + 80 ∧ r = fullR (eInt.list cs o n) k i := hinv
  obtain ⟨k1, k2, k3⟩ := hinv
  show Sat E (inLp (lp Try.f26 0) J) ((rmL (n + 80) k Q).st 0 (i, r))
  have hJ' : ∀ zz, (rmL (n + 80) k Q).inv 0 zz → ltO ((rmL (n + 80) k Q).mu 0 zz) (some (n + 80 - i)) → Sat E (mkLp (lp Try.f26 0) J) ((rmL (n + 80) k Q).st 0 zz) := fun zz h1 h2 => hJ 0 zz h1 h2
  by_cases hin : i < n + 80
  · have hlt : decide ((i : Int) < ((n + 80 : Nat) : Int)) = true := decide_eq_true (by omega)
    have hset : lset r (0 + ((i : Int)).toNat * 1) [.int .i64 k] = some (fullR (eInt.list cs o n) k (i + 1)) := by
      rw [k3]
      have hget : (eInt.list cs o n ++ List.replicate (i - (eInt.list cs o n).length) k ++ List.replicate ((eInt.list cs o n).length + 80 - i) 0)[i]? = some 0 := by
        rw [hlen, List.getElem?_append_right (by simp [hlen]; omega)]
        rw [List.getElem?_replicate, if_pos (by simp [hlen]; omega)]
      have := lsetE (e := eInt) (x := k) (f := 0) (vs := [.int .i64 k]) (o := 0 + ((i : Int)).toNat * 1) hget rfl (by simp [eInt])
      unfold fullR
      rw [this]
      congr 2
      rw [hlen, show n + 80 - i = (n + 80 - (i + 1)) + 1 by omega, show i + 1 - n = (i - n) + 1 by omega, List.replicate_succ, List.replicate_succ']
      rw [List.set_append_right _ _ (by simp [hlen]; omega)]
      have : i - (eInt.list cs o n ++ List.replicate (i - n) k).length = 0 := by simp [hlen]; omega
      rw [this]
      simp
    exact rmB Q (n + 80) i k r _ J hE okL ⟨rfl, ⟨(i + 1, _), ⟨by omega, by omega, rfl⟩, (by show n + 80 - (i + 1) < n + 80 - i; omega), rfl, by simp [rmL, fullR, rnr]⟩, i64_succ (by omega), hset, ⟨Int.natCast_nonneg _, Int.ofNat_lt.2 hin⟩, hlt, trivial⟩ hJ'
  · have hlt : decide ((i : Int) < ((n + 80 : Nat) : Int)) = false := decide_eq_false (by omega)
    have hi : i = n + 80 := by omega
    have hfin : r = eInt.row (eInt.list cs o n ++ List.replicate 80 k) := by
      rw [k3, hi]; unfold fullR; rw [hlen]; congr 1; simp
    subst hfin
    exact rmE Q (n + 80) i k _ (Elt.row_pl _) J hE ⟨⟨rfl, by simp [rnr]⟩, hlt, trivial⟩
def roomy_F (N8 : Nat → Nat) : RoF := fun xs css => match xs, css with
  | [.slice (some ⟨0, o, none⟩) n c, .int .i64 k], [cs] => some (.slice (some ⟨100, 0, none⟩) (N8 n) (N8 n), [.cells (eInt.row (eInt.list cs o n ++ List.replicate 80 k)) 3], [eInt.Row cs o n, n ≤ 65536, N8 = fun n => n + 80])
  | _, _ => none
theorem roomy_sum (N8 : Nat → Nat) : SumOK Try.prog 26 (roSum (roomy_F N8)) := by
  refine roSum_ok (en Try.func26 rfl) ?_ (fun xs css r h => ?_)
  · intro xs css v blks ob h hob hpl hl
    unfold roomy_F at h
    split at h
    · rename_i o n c k cs
      simp only [Option.some.injEq, Prod.mk.injEq] at h
      obtain ⟨rfl, rfl, rfl⟩ := h
      obtain rfl : N8 = fun n => n + 80 := hob _ (by simp)
      refine ⟨by simp, fun x hx => by simp at hx; subst hx; exact ⟨Elt.row_pl _, rfl⟩, fun j hj => by simp [nms, nm1, nm0] at hj; subst hj; simp, ?_⟩
      exact roomy_spec cs o n c k (hob _ (List.mem_cons_self ..)) (hpl cs (by simp)) (hob _ (by simp))
    · simp at h
  · unfold roomy_F at h
    split at h <;> simp at h <;> simp
/-- Intact, where it says true. -/
theorem intact_spec (cs ds : List Value) (o n c p m d : Nat) (k : Int) (hr : eInt.Row cs o n) (hr2 : eInt.Row ds p m) (hpl : ∀ x ∈ cs, leafG x = true) (hpl2 : ∀ x ∈ ds, leafG x = true) (hn : n ≤ 65536) (hnc : n ≤ c) (hcm : c ≤ 16777216) (heq : eInt.list cs o n = eInt.list ds p m ++ List.replicate 80 k) :
    CallSpec Try.prog 27 [.slice (some ⟨0, o, none⟩) n c, .slice (some ⟨1, p, none⟩) m d, .int .i64 k] (roRows [cs, ds]) 2 (.bool true) (assocN [] []) := by
  refine spec_of_sat Try.func27 rfl fun E hE => ?_
  have hlen : (eInt.list cs o n).length = n := Elt.list_len _ _ _
  have hlen2 : (eInt.list ds p m).length = m := Elt.list_len _ _ _
  have hnm : n = m + 80 := by have := congrArg List.length heq; simp [hlen, hlen2] at this; omega
  obtain ⟨hrm, htake⟩ := hr.take (m := m) (by omega)
  have hsame : eInt.list cs o m = eInt.list ds p m := by rw [htake, heq, List.take_left' hlen2]
  have okL := itL_ok cs o n c k m hpl
  have rnr : ∀ f : Nat → Nat, Blk.rnB f (.ro cs) = .ro cs := fun f => Blk.plain.rnB (b := .ro cs) hpl f
  have hcm' : c < Ev.mark := by unfold Ev.mark; omega
  refine itIn cs ds o n c p m d k (m : Int) hE okL ⟨rfl, ⟨m, ⟨Nat.le_refl _, by omega⟩, trivial, rfl, by simp [itL, rnr]⟩, (congrArg _ (decide_eq_true hsame)), plain2 hpl hpl2, hrm, hr2, (by omega),
    ⟨0, m, rfl, rfl, Nat.zero_le _, by omega, Or.inr ⟨hcm', hnc, if h0 : c = 0 then Or.inl ⟨h0, by simp⟩ else Or.inr ⟨h0, by simp⟩⟩⟩, (congrArg _ (bne_self_eq_false _)), (i64_id (by show (m : Int) + 80 = (n : Int); omega) (by show _ ≤ (n : Int); omega) (by show (n : Int) ≤ _; omega)), rfl, trivial⟩ fun zz hz _ => by_loop (itL cs o n c k m) (lp Try.f27 0) ?_ 0 zz hz
  rintro b i hinv J hJ
  have hinv : m ≤ i ∧ i ≤ n := hinv
  obtain ⟨k1, k2⟩ := hinv
  show Sat E (inLp (lp Try.f27 0) J) ((itL cs o n c k m).st 0 i)
  have hJ' : ∀ zz, (itL cs o n c k m).inv 0 zz → ltO ((itL cs o n c k m).mu 0 zz) (some (n - i)) → Sat E (mkLp (lp Try.f27 0) J) ((itL cs o n c k m).st 0 zz) := fun zz h1 h2 => hJ 0 zz h1 h2
  by_cases hin : i < n
  · have hlt : decide ((i : Int) < (n : Int)) = true := decide_eq_true (by omega)
    have hx : (eInt.list cs o n)[i]? = some k := by
      rw [heq, List.getElem?_append_right (by omega), List.getElem?_replicate, if_pos (by omega)]
    have hrd := hr.read1 (P := Try.prog) (ty := 3) (by kernel_rfl) rfl (i := i) hx rfl rfl
    rw [← Nat.mul_one i] at hrd
    exact itB cs o n c k m i J hE okL ⟨rfl, ⟨i + 1, ⟨by omega, by omega⟩, (by show n - (i + 1) < n - i; omega), rfl, by simp [itL, rnr]⟩, i64_succ (by omega), (congrArg _ (bne_self_eq_false _)), hrd, ⟨Int.natCast_nonneg _, Int.ofNat_lt.2 hin⟩, hlt, trivial⟩ hJ'
  · have hlt : decide ((i : Int) < (n : Int)) = false := decide_eq_false (by omega)
    exact itE cs o n c k m i J hE ⟨⟨rfl, rfl⟩, hlt, trivial⟩
def intact_F : RoF := fun xs css => match xs, css with
  | [.slice (some ⟨0, o, none⟩) n c, .slice (some ⟨1, p, none⟩) m d, .int .i64 k], [cs, ds] => some (.bool true, [], [eInt.Row cs o n, eInt.Row ds p m, n ≤ 65536, n ≤ c, c ≤ 16777216, eInt.list cs o n = eInt.list ds p m ++ List.replicate 80 k])
  | _, _ => none
theorem intact_sum : SumOK Try.prog 27 (roSum intact_F) := by
  refine roSum_ok (en Try.func27 rfl) ?_ (fun xs css r h => ?_)
  · intro xs css v blks ob h hob hpl hl
    unfold intact_F at h
    split at h
    · rename_i o n c p m d k cs ds
      simp only [Option.some.injEq, Prod.mk.injEq] at h
      obtain ⟨rfl, rfl, rfl⟩ := h
      refine ⟨by simp, by simp, fun j hj => by simp [nms, nm1, nm0] at hj, ?_⟩
      exact intact_spec cs ds o n c p m d k (hob _ (by simp)) (hob _ (by simp)) (hpl cs (by simp)) (hpl ds (by simp)) (hob _ (by simp)) (hob _ (by simp)) (hob _ (by simp)) (hob _ (by simp))
    · simp at h
  · unfold intact_F at h
    split at h <;> simp at h <;> simp
noncomputable def t_fix0 (N8 : Nat → Nat) : Sums := upd t_sum 26 (some (roSum (roomy_F N8)))
theorem t_fix0_ok (N8 : Nat → Nat) : SumsOK Try.prog (t_fix0 N8) := sums_cons t_sum_ok (roomy_sum N8)
noncomputable def t_fix (N8 : Nat → Nat) : Sums := upd (t_fix0 N8) 27 (some (roSum intact_F))
theorem t_fix_ok (N8 : Nat → Nat) : SumsOK Try.prog (t_fix N8) := sums_cons (t_fix0_ok N8) intact_sum
def fsL (a b w : Int) (M : List Int) : LoopF Unit where
  ts _ := [1, 2, 3, 9]
  hs _ := [10]
  tv z _ := [.int .i64 a, .int .i64 b, .int .i64 w, match z with | 0 => .slice (some ⟨10, 0, none⟩) 0 0 | _ => .slice (some ⟨10, 0, none⟩) M.length mk]
  hv z _ := match z with | 0 => [.cells [] 3] | _ => [.vec (eInt.row M) 3 1]
  inv _ _ := True
  mu _ _ := 0
  nx := 11
theorem fsL_ok (a b w : Int) (M : List Int) : (fsL a b w M).OK 1 := by
  refine ⟨(by decide : 1 ≤ 11), fun z i h k hk => ?_, fun z i h v hv k hk => ?_, fun z i h x hx => ?_⟩
  · show k < 11
    simp [fsL] at hk; omega
  · show k < 11
    match z with
    | 0 =>
      simp [fsL] at hv
      rcases hv with rfl | rfl | rfl | rfl <;> simp [nms, nm1, nm0] at hk <;> omega
    | z + 1 =>
      simp [fsL] at hv
      rcases hv with rfl | rfl | rfl | rfl <;> simp [nms, nm1, nm0] at hk <;> omega
  · match z with
    | 0 =>
      simp [fsL] at hx
      subst hx
      exact Blk.plain.namesLt (b := .cells [] _) (fun c hc => by simp at hc) _
    | z + 1 =>
      simp [fsL] at hx
      subst hx
      exact Blk.plain.namesLt (b := .vec _ _ _) (Elt.row_pl _) _
end Go.Proofs.Ytmgkmekknhggbaa.Fs


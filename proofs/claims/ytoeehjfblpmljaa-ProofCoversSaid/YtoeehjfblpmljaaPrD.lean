/-
  proof.deep, Right and Deep: what they hand back. No condition.
-/
import Derived.Test.YtoeehjfblpmljaaPrC
set_option linter.unusedVariables false
set_option linter.unusedSimpArgs false
set_option maxRecDepth 100000
namespace Go.Proofs.Ytoeehjfblpmljaa.PrA
open Go Go.RowKit Go.Proofs.Ytoeehjfblpmljaa.Ev Go.Proofs.Ytoeehjfblpmljaa.PickE Go.Proofs.Ytoeehjfblpmljaa.BoxF
def deep_F : RoF := fun xs css => match xs, css with
  | [.slice none 0 0], [] => some (.int .i64 (deepI []), [], [])
  | [.slice (some ⟨0, off, none⟩) n c], [cs] => some (.int .i64 (deepI (eStp.list cs off n)), [], [eStp.Row cs off n])
  | _, _ => none
theorem deep_spec (cs : List Value) (off n c : Nat) (hr : eStp.Row cs off n) (hpl : ∀ x ∈ cs, leafG x = true) : CallSpec Try.prog 19 [.slice (some ⟨0, off, none⟩) n c] (roRows [cs]) 1 (.int .i64 (deepI (eStp.list cs off n))) (assocN [] []) := by
  refine spec_of_sat Try.func19 rfl fun E hE => ?_
  have hlen : (eStp.list cs off n).length = n := Elt.list_len cs off n
  generalize hL : eStp.list cs off n = L at *
  by_cases hlong : 65536 < n
  · have e : deepI L = 0 := by simp [deepI, hlen, hlong]
    rw [e] at hE
    exact dLong cs off n c hE ⟨⟨rfl, rfl⟩, decide_eq_true (by omega), trivial⟩
  have hdI : deepI L = deepR (deepGo L 1 1) := by
    unfold deepI
    rw [if_neg (by omega)]
  refine dIn cs off n c hE (deepL_ok cs off n c hpl) ⟨rfl, ⟨(0, 1, 1), ?_, trivial, rfl, ?_⟩, decide_eq_false (by omega), trivial⟩ fun i hi _ => by_loop (deepL cs off n c) (lp Try.f19 0) ?_ 0 i hi
  · simp only [deepL, hL]
    refine ⟨by omega, by omega, rfl, by omega, by omega, by omega, by omega⟩
  · simp [deepL, Blk.plain.rnB (b := .ro cs) hpl]
  rintro b ⟨i, l, m⟩ hi J hJ
  show Sat E (inLp (lp Try.f19 0) J) ((deepL cs off n c).st 0 (i, l, m))
  simp only [deepL, hL] at hi
  obtain ⟨h1, h2, h3, h4, h5, h6, h7⟩ := hi
  have nx : ∀ i' l' m', (deepL cs off n c).inv 0 (i', l', m') → n - i' < n - i → Sat E (mkLp (lp Try.f19 0) J) ((deepL cs off n c).st 0 (i', l', m')) := fun i' l' m' h h' => hJ 0 (i', l', m') h h'
  by_cases hin : i < n
  · have hiL : i < L.length := by omega
    rcases hs : L[i] with ⟨s, p, a⟩
    have hget : L[i]? = some ⟨s, p, a⟩ := by rw [List.getElem?_eq_getElem hiL, hs]
    have hdrop : L.drop i = ⟨s, p, a⟩ :: L.drop (i + 1) := by rw [List.drop_eq_getElem_cons hiL, hs]
    have hread : readPart Try.prog 23 cs (off + ((i : Int)).toNat * 3) = some (.agg ⟨[.bool s, .int .i64 p, .int .i64 a]⟩) := by
      have := hr.read (P := Try.prog) (ty := 23) (by kernel_rfl) (by kernel_rfl) (i := i) (by rw [hL]; exact hget)
      simpa [eStp] using this
    have hlt : decide ((i : Int) < (n : Int)) = true := decide_eq_true (by omega)
    rw [hdrop] at h3
    simp only [deepGo] at h3
    by_cases hl0 : l = 0
    · rw [if_pos (Or.inl hl0)] at h3
      have e : deepI L = 0 := by rw [hdI, ← h3]; rfl
      rw [e] at hE
      subst hl0
      exact dBad1 cs off n c i 0 m s p a J hE ⟨⟨rfl, rfl⟩, rfl, rfl, rfl, rfl, hread, by omega, hlt, trivial⟩
    have hl1 : (l == (0 : Int)) = false := by simpa using hl0
    have hl2 : ((l == (0 : Int)) == false) = true := by rw [hl1]; rfl
    cases hrs : rightS ⟨s, p, a⟩ with
    | false =>
      rw [if_pos (Or.inr hrs)] at h3
      have e : deepI L = 0 := by rw [hdI, ← h3]; rfl
      rw [e] at hE
      exact dBad2 cs off n c i l m s p a J hE ⟨⟨rfl, rfl⟩, by rw [hrs]; rfl, hl1, hl2, hl2, by intro x hx; simp at hx, hl2, hread, by omega, hlt, trivial⟩
    | true =>
      rw [if_neg (by rw [hrs]; simp [hl0])] at h3
      cases s with
      | true =>
        simp only [if_true] at h3
        refine dSum cs off n c i l m p a J hE (deepL_ok cs off n c hpl) ⟨rfl, ⟨(i + 1, l - 1, m), ?_, ?_, rfl, ?_⟩, i64_succ (by omega), i64_id rfl (by omega) (by omega), by rw [hrs]; rfl, hl1, hl2, hl2, by intro x hx; simp at hx, hl2, hread, by omega, hlt, trivial⟩ fun zz hz hz' => hJ 0 zz hz hz'
        · simp only [deepL, hL]
          exact ⟨by omega, h2, h3, by omega, by omega, by omega, by omega⟩
        · simp only [deepL, ltO]; omega
        · simp [deepL, Blk.plain.rnB (b := .ro cs) hpl]
      | false =>
        simp only [Bool.false_eq_true, if_false] at h3
        refine dCut cs off n c i l m p a J hE (deepL_ok cs off n c hpl) ⟨rfl, ⟨(i + 1, l + 1, max m (l + 1)), ?_, ?_, rfl, ?_⟩, i64_succ (by omega), ?_, i64_id rfl (by omega) (by omega), by rw [hrs]; rfl, hl1, hl2, hl2, by intro x hx; simp at hx, hl2, hread, by omega, hlt, trivial⟩ fun zz hz hz' => hJ 0 zz hz hz'
        · simp only [deepL, hL]
          exact ⟨by omega, h2, h3, by omega, by omega, by omega, by omega⟩
        · simp only [deepL, ltO]; omega
        · simp [deepL, Blk.plain.rnB (b := .ro cs) hpl]
        · congr 1
          simp only [maxI]
          split <;> omega
  · have hi' : i = n := by omega
    have hlt : decide ((i : Int) < (n : Int)) = false := decide_eq_false (by omega)
    have hd : L.drop i = [] := by rw [List.drop_eq_nil_iff]; omega
    rw [hd] at h3
    simp only [deepGo] at h3
    rw [← h3] at hdI
    simp only [deepR] at hdI
    by_cases hl0 : l = 0
    · subst hl0
      by_cases hm : m ≤ 200
      · rw [if_pos ⟨rfl, hm⟩] at hdI
        rw [hdI] at hE
        exact dEnd cs off n c i 0 m J hE ⟨⟨rfl, rfl⟩, decide_eq_false (by omega), rfl, rfl, rfl, hlt, trivial⟩
      · rw [if_neg (fun h => hm h.2)] at hdI
        rw [hdI] at hE
        exact dEnd2 cs off n c i 0 m J hE ⟨⟨rfl, rfl⟩, decide_eq_true (by omega), rfl, rfl, rfl, hlt, trivial⟩
    · rw [if_neg (fun h => hl0 h.1)] at hdI
      rw [hdI] at hE
      have hl1 : (l != (0 : Int)) = true := by simpa using hl0
      exact dEnd1 cs off n c i l m J hE ⟨⟨rfl, rfl⟩, hl1, by rw [hl1]; rfl, by rw [hl1]; rfl, hlt, trivial⟩
theorem deep_sum : SumOK Try.prog 19 (roSum deep_F) := by
  refine roSum_ok (en Try.func19 rfl) ?_ (fun xs css r h => ?_)
  · intro xs css v blks ob h hob hpl hl
    unfold deep_F at h
    split at h
    · simp only [Option.some.injEq, Prod.mk.injEq] at h
      obtain ⟨rfl, rfl, rfl⟩ := h
      refine ⟨by simp, by simp, fun j hj => by simp [nms, nm1, nm0] at hj, ?_⟩
      exact spec_of_sat Try.func19 rfl fun E hE => dNil () hE ⟨⟨rfl, rfl⟩, trivial⟩
    · rename_i off n c cs
      simp only [Option.some.injEq, Prod.mk.injEq] at h
      obtain ⟨rfl, rfl, rfl⟩ := h
      refine ⟨by simp, by simp, fun j hj => by simp [nms, nm1, nm0] at hj, ?_⟩
      exact deep_spec cs off n c (hob _ (List.mem_cons_self ..)) (hpl cs (by simp))
    · simp at h
  · unfold deep_F at h
    split at h <;> simp at h <;> simp
noncomputable def t_deep : Sums := upd t_right 19 (some (roSum deep_F))
theorem t_deep_ok : SumsOK Try.prog t_deep := sums_cons t_right_ok deep_sum
end Go.Proofs.Ytoeehjfblpmljaa.PrA


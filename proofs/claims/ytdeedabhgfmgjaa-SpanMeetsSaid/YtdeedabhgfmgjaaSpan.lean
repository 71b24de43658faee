/-
  Contracts of the package span (none, of, Empty, Has, Meet, Cut, Within): what each answers, for all spans of numbers of 64 bits; what was there stays.
-/
import Derived.Test.YtdeedabhgfmgjaaRowLib
import Derived.Test.YtdeedabhgfmgjaaRows
import Derived.WalkKit
import Derived.WalkLawsBesides
import Derived.WalkSpells
import Derived.KernelRfl
import Derived.Lib.Hide
import Derived.Deep.RegionWith
import Derived.Deep.QuietTactic
import Derived.BigQuiet
import Derived.Outline
import Derived.Test.YtdeedabhgfmgjaaMem
import Derived.Test.YtdeedabhgfmgjaaWWords
import Derived.Test.YtdeedabhgfmgjaaWLast
set_option linter.unusedVariables false
set_option linter.unusedSimpArgs false
namespace Go.Proofs.Ytdeedabhgfmgjaa.Span
open Go Go.RowKit Go.Proofs.YtdeedabhgfmgjaaW.PrintWords Go.Proofs.YtdeedabhgfmgjaaW.PrintLast

theorem none_calls (w : World) : Calls Try.prog 36 #[] w fun e w' => e = .returned (.agg #[.int .i64 1, .int .i64 0]) ∧ Below w.heap.size w w' := by
  go_enter Try.func36, Try.ntmps36
  go_wp2
  exact bodyPost_ret (v := .agg #[.int .i64 1, .int .i64 0]) (by simp [results, Try.results36, go_sem, *]) rfl ⟨by rfl, by repeat (first | exact Below.refl _ _ | refine below_call (by assumption) ?_ | refine below_alloc ?_ _ | refine below_drew ?_ | refine Below.setCell ?_ (by first | exact Nat.le_refl _ | (simp; done) | (simp; omega) | omega) _)⟩
/-- A span of two ends: none, if they are not in order. -/
def ofS (lo hi : Int) : Int × Int := if lo > hi then (1, 0) else (lo, hi)
theorem of_calls (lo hi : Int) (w : World) : Calls Try.prog 35 #[.int .i64 lo, .int .i64 hi] w fun e w' => e = .returned (.agg #[.int .i64 (ofS lo hi).1, .int .i64 (ofS lo hi).2]) ∧ Below w.heap.size w w' := by
  by_cases h : hi < lo
  · have H : Hid (ofS lo hi = (1, 0)) := Lib.hid (if_pos h)
    have h' : decide (hi < lo) = true := decide_eq_true h
    clear h
    go_enter Try.func35, Try.ntmps35
    go_wp2_with (go_at_call 36; refine (none_calls  _).mono ?_; rintro e w1 ⟨rfl, hb⟩; obtain ⟨hc, hf⟩ := bcell hb; have hz := hb.size; try simp at hz)
    exact bodyPost_ret (v := .agg #[.int .i64 1, .int .i64 0]) (by simp [results, Try.results35, go_sem, *]) rfl ⟨by rw [H.out], by repeat (first | exact Below.refl _ _ | refine below_call (by assumption) ?_ | refine below_alloc ?_ _ | refine below_drew ?_ | refine Below.setCell ?_ (by first | exact Nat.le_refl _ | (simp; done) | (simp; omega) | omega) _)⟩
  · have H : Hid (ofS lo hi = (lo, hi)) := Lib.hid (if_neg h)
    have h' : decide (hi < lo) = false := decide_eq_false h
    clear h
    go_enter Try.func35, Try.ntmps35
    go_wp2
    exact bodyPost_ret (v := .agg #[.int .i64 lo, .int .i64 hi]) (by simp [results, Try.results35, go_sem, *]) rfl ⟨by rw [H.out], by repeat (first | exact Below.refl _ _ | refine below_call (by assumption) ?_ | refine below_alloc ?_ _ | refine below_drew ?_ | refine Below.setCell ?_ (by first | exact Nat.le_refl _ | (simp; done) | (simp; omega) | omega) _)⟩
theorem empty_calls (lo hi : Int) (w : World) : Calls Try.prog 23 #[.agg #[.int .i64 lo, .int .i64 hi]] w fun e w' => e = .returned (.bool (decide (hi < lo))) ∧ Below w.heap.size w w' := by
  go_enter Try.func23, Try.ntmps23
  go_wp2
  go_ret
  exact ⟨by rfl, by repeat (first | exact Below.refl _ _ | refine below_call (by assumption) ?_ | refine below_alloc ?_ _ | refine below_drew ?_ | refine Below.setCell ?_ (by first | exact Nat.le_refl _ | (simp; done) | (simp; omega) | omega) _)⟩
theorem has_calls (lo hi n : Int) (w : World) : Calls Try.prog 25 #[.agg #[.int .i64 lo, .int .i64 hi], .int .i64 n] w fun e w' => e = .returned (.bool (decide (lo ≤ n) && decide (n ≤ hi))) ∧ Below w.heap.size w w' := by
  by_cases h : lo ≤ n
  all_goals
    go_enter Try.func25, Try.ntmps25
    go_wp2
    all_goals (go_ret; exact ⟨by first | rfl | (simp [h]; done) | (simp; omega), by repeat (first | exact Below.refl _ _ | refine below_call (by assumption) ?_ | refine below_alloc ?_ _ | refine below_drew ?_ | refine Below.setCell ?_ (by first | exact Nat.le_refl _ | (simp; done) | (simp; omega) | omega) _)⟩)
def meetS (a b : Int × Int) : Int × Int := ofS (if a.1 < b.1 then b.1 else a.1) (if b.2 < a.2 then b.2 else a.2)
theorem meet_calls (a0 a1 b0 b1 : Int) (w : World) : Calls Try.prog 20 #[.agg #[.int .i64 a0, .int .i64 a1], .agg #[.int .i64 b0, .int .i64 b1]] w fun e w' => e = .returned (.agg #[.int .i64 (meetS (a0, a1) (b0, b1)).1, .int .i64 (meetS (a0, a1) (b0, b1)).2]) ∧ Below w.heap.size w w' := by
  by_cases h1 : a0 < b0
  · by_cases h2 : b1 < a1
    · have H : Hid (meetS (a0, a1) (b0, b1) = ofS b0 b1) := Lib.hid (by unfold meetS; rw [if_pos h1, if_pos h2])
      go_enter Try.func20, Try.ntmps20
      go_wp2_with (go_at_call 35; refine (of_calls _ _ _).mono ?_; rintro e w1 ⟨rfl, hb⟩; obtain ⟨hc, hf⟩ := bcell hb; have hz := hb.size; try simp at hz)
      exact bodyPost_ret (v := .agg #[.int .i64 (ofS b0 b1).1, .int .i64 (ofS b0 b1).2]) (by simp [results, Try.results20, go_sem, *]) rfl ⟨by rw [H.out], by repeat (first | exact Below.refl _ _ | refine below_call (by assumption) ?_ | refine below_alloc ?_ _ | refine below_drew ?_ | refine Below.setCell ?_ (by first | exact Nat.le_refl _ | (simp; done) | (simp; omega) | omega) _)⟩
    · have H : Hid (meetS (a0, a1) (b0, b1) = ofS b0 a1) := Lib.hid (by unfold meetS; rw [if_pos h1, if_neg h2])
      go_enter Try.func20, Try.ntmps20
      go_wp2_with (go_at_call 35; refine (of_calls _ _ _).mono ?_; rintro e w1 ⟨rfl, hb⟩; obtain ⟨hc, hf⟩ := bcell hb; have hz := hb.size; try simp at hz)
      exact bodyPost_ret (v := .agg #[.int .i64 (ofS b0 a1).1, .int .i64 (ofS b0 a1).2]) (by simp [results, Try.results20, go_sem, *]) rfl ⟨by rw [H.out], by repeat (first | exact Below.refl _ _ | refine below_call (by assumption) ?_ | refine below_alloc ?_ _ | refine below_drew ?_ | refine Below.setCell ?_ (by first | exact Nat.le_refl _ | (simp; done) | (simp; omega) | omega) _)⟩
  · by_cases h2 : b1 < a1
    · have H : Hid (meetS (a0, a1) (b0, b1) = ofS a0 b1) := Lib.hid (by unfold meetS; rw [if_neg h1, if_pos h2])
      go_enter Try.func20, Try.ntmps20
      go_wp2_with (go_at_call 35; refine (of_calls _ _ _).mono ?_; rintro e w1 ⟨rfl, hb⟩; obtain ⟨hc, hf⟩ := bcell hb; have hz := hb.size; try simp at hz)
      exact bodyPost_ret (v := .agg #[.int .i64 (ofS a0 b1).1, .int .i64 (ofS a0 b1).2]) (by simp [results, Try.results20, go_sem, *]) rfl ⟨by rw [H.out], by repeat (first | exact Below.refl _ _ | refine below_call (by assumption) ?_ | refine below_alloc ?_ _ | refine below_drew ?_ | refine Below.setCell ?_ (by first | exact Nat.le_refl _ | (simp; done) | (simp; omega) | omega) _)⟩
    · have H : Hid (meetS (a0, a1) (b0, b1) = ofS a0 a1) := Lib.hid (by unfold meetS; rw [if_neg h1, if_neg h2])
      go_enter Try.func20, Try.ntmps20
      go_wp2_with (go_at_call 35; refine (of_calls _ _ _).mono ?_; rintro e w1 ⟨rfl, hb⟩; obtain ⟨hc, hf⟩ := bcell hb; have hz := hb.size; try simp at hz)
      exact bodyPost_ret (v := .agg #[.int .i64 (ofS a0 a1).1, .int .i64 (ofS a0 a1).2]) (by simp [results, Try.results20, go_sem, *]) rfl ⟨by rw [H.out], by repeat (first | exact Below.refl _ _ | refine below_call (by assumption) ?_ | refine below_alloc ?_ _ | refine below_drew ?_ | refine Below.setCell ?_ (by first | exact Nat.le_refl _ | (simp; done) | (simp; omega) | omega) _)⟩
theorem within_calls (a0 a1 b0 b1 : Int) (w : World) : Calls Try.prog 24 #[.agg #[.int .i64 a0, .int .i64 a1], .agg #[.int .i64 b0, .int .i64 b1]] w fun e w' => e = .returned (.bool (decide (a1 < a0) || (decide (b0 ≤ a0) && decide (a1 ≤ b1)))) ∧ Below w.heap.size w w' := by
  by_cases h : a1 < a0
  · have h' : decide (a1 < a0) = true := decide_eq_true h
    go_enter Try.func24, Try.ntmps24
    go_wp2_with (go_at_call 23; refine (empty_calls _ _ _).mono ?_; rintro e w1 ⟨rfl, hb⟩; obtain ⟨hc, hf⟩ := bcell hb; have hz := hb.size; try simp at hz)
    all_goals (go_ret; exact ⟨by first | rfl | (simp [h]; done) | (simp; omega), by repeat (first | exact Below.refl _ _ | refine below_call (by assumption) ?_ | refine below_alloc ?_ _ | refine below_drew ?_ | refine Below.setCell ?_ (by first | exact Nat.le_refl _ | (simp; done) | (simp; omega) | omega) _)⟩)
  · have h' : decide (a1 < a0) = false := decide_eq_false h
    by_cases h2 : b0 ≤ a0
    all_goals
      go_enter Try.func24, Try.ntmps24
      go_wp2_with (go_at_call 23; refine (empty_calls _ _ _).mono ?_; rintro e w1 ⟨rfl, hb⟩; obtain ⟨hc, hf⟩ := bcell hb; have hz := hb.size; try simp at hz)
      all_goals (go_ret; exact ⟨by first | rfl | (simp [h, h2]; omega) | (simp [h, h2]; done) | (simp; omega), by repeat (first | exact Below.refl _ _ | refine below_call (by assumption) ?_ | refine below_alloc ?_ _ | refine below_drew ?_ | refine Below.setCell ?_ (by first | exact Nat.le_refl _ | (simp; done) | (simp; omega) | omega) _)⟩)
def cutLo (s : Int × Int) (n : Int) : Int × Int := ofS s.1 (if n < s.2 then n else s.2)
def cutHi (s : Int × Int) (n : Int) : Int × Int := if s.2 ≤ n then (1, 0) else ofS (if s.1 < n + 1 then n + 1 else s.1) s.2
theorem cut_calls (lo hi n : Int) (n0 : -9223372036854775808 ≤ n) (n1 : n ≤ 9223372036854775807) (h1 : hi ≤ 9223372036854775807) (w : World) : Calls Try.prog 18 #[.agg #[.int .i64 lo, .int .i64 hi], .int .i64 n] w fun e w' => e = .returned (.tuple #[.agg #[.int .i64 (cutLo (lo, hi) n).1, .int .i64 (cutLo (lo, hi) n).2], .agg #[.int .i64 (cutHi (lo, hi) n).1, .int .i64 (cutHi (lo, hi) n).2]]) ∧ Below w.heap.size w w' := by
  by_cases h : hi ≤ n
  · have h' : decide (hi ≤ n) = true := decide_eq_true h
    have hm : ¬ n < hi := by omega
    have H : Hid (cutHi (lo, hi) n = (1, 0)) := Lib.hid (if_pos h)
    have H2 : Hid (cutLo (lo, hi) n = ofS lo hi) := Lib.hid (by unfold cutLo; rw [if_neg hm])
    clear h
    go_enter Try.func18, Try.ntmps18
    have M := Mem.start w
    refine wp_seq_k (fun K1 hK1 => ?_)
    refine wp_region_lit ?_
    refine ev_boxv M (N := 2) rfl rfl 23 _ rfl [_, _] rfl ?_
    intro g0 w1 M1
    clear M
    have M := M1
    clear M1
    refine ev_norm (a' := ?_) ?_ ?_
    rotate_left
    · simp only [Act.put, List.setIfInBounds_toArray, List.set_cons_zero, List.set_cons_succ, i64_w, i32_w]
      rfl
    refine ev_alloc M (N := 4) rfl rfl 23 rfl (.agg #[.int .i64 0, .int .i64 0]) (by kernel_rfl) [.int .i64 0, .int .i64 0] rfl ?_
    intro g1 w2 M1
    clear M
    have M := M1
    clear M1
    refine ev_norm (a' := ?_) ?_ ?_
    rotate_left
    · simp only [Act.put, List.setIfInBounds_toArray, List.set_cons_zero, List.set_cons_succ, i64_w, i32_w]
      rfl
    refine ev_alloc M (N := 5) rfl rfl 23 rfl (.agg #[.int .i64 0, .int .i64 0]) (by kernel_rfl) [.int .i64 0, .int .i64 0] rfl ?_
    intro g2 w3 M1
    clear M
    have M := M1
    clear M1
    refine ev_norm (a' := ?_) ?_ ?_
    rotate_left
    · simp only [Act.put, List.setIfInBounds_toArray, List.set_cons_zero, List.set_cons_succ, i64_w, i32_w]
      rfl
    refine wpList_nil ?_
    refine hK1 _ _ ?_
    clear hK1
    try clear K1
    refine wp_seq_k (fun K2 hK2 => ?_)
    refine wp_region_lit ?_
    refine ev_pure 7 (v := ?_) (a' := ?_) rfl rfl ?_ ?_ ?_
    rotate_left 2
    · intro w'
      go_simp
      with_reducible rfl
    · simp only [Act.put, List.setIfInBounds_toArray, List.set_cons_zero, List.set_cons_succ, i64_w, i32_w]
      rfl
    refine ev_load1 M 2 rfl (N := 8) rfl rfl 3 (.tmp 7) rfl 0 rfl _ (by kernel_rfl) rfl ?_
    refine ev_norm (a' := ?_) ?_ ?_
    rotate_left
    · simp only [Act.put, List.setIfInBounds_toArray, List.set_cons_zero, List.set_cons_succ, i64_w, i32_w]
      rfl
    refine ev_pure 9 (v := ?_) (a' := ?_) rfl rfl ?_ ?_ ?_
    rotate_left 2
    · intro w'
      go_simp
      with_reducible rfl
    · simp only [Act.put, List.setIfInBounds_toArray, List.set_cons_zero, List.set_cons_succ, i64_w, i32_w]
      rfl
    refine ev_load1 M 2 rfl (N := 10) rfl rfl 3 (.tmp 9) rfl 1 rfl _ (by kernel_rfl) rfl ?_
    refine ev_norm (a' := ?_) ?_ ?_
    rotate_left
    · simp only [Act.put, List.setIfInBounds_toArray, List.set_cons_zero, List.set_cons_succ, i64_w, i32_w]
      rfl
    refine ev_pure 11 (v := ?_) (a' := ?_) rfl rfl ?_ ?_ ?_
    rotate_left 2
    · intro w'
      go_simp
      with_reducible rfl
    · simp only [Act.put, List.setIfInBounds_toArray, List.set_cons_zero, List.set_cons_succ, i64_w, i32_w]
      rfl
    refine ev_pure 12 (v := ?_) (a' := ?_) rfl rfl ?_ ?_ ?_
    rotate_left 2
    · intro w'
      go_simp
      with_reducible rfl
    · simp only [Act.put, List.setIfInBounds_toArray, List.set_cons_zero, List.set_cons_succ, i64_w, i32_w]
      rfl
    refine ev_call (some 13) rfl rfl Try.func35 (by kernel_rfl) rfl #[.int .i64 _, .int .i64 _] rfl (by (try simp only [List.map_toArray, List.map_cons, List.map_nil]); first | done | rfl) (by first | exact of_calls _ _ _) rfl M ?_
    intro w4 M1
    clear M
    have M := M1
    clear M1
    refine ev_norm (a' := ?_) ?_ ?_
    rotate_left
    · simp only [Act.put, List.setIfInBounds_toArray, List.set_cons_zero, List.set_cons_succ, i64_w, i32_w]
      rfl
    refine ev_alloc M (N := 6) rfl rfl 23 rfl (.agg #[.int .i64 0, .int .i64 0]) (by kernel_rfl) [.int .i64 0, .int .i64 0] rfl ?_
    intro g3 w5 M1
    clear M
    have M := M1
    clear M1
    refine ev_norm (a' := ?_) ?_ ?_
    rotate_left
    · simp only [Act.put, List.setIfInBounds_toArray, List.set_cons_zero, List.set_cons_succ, i64_w, i32_w]
      rfl
    refine ev_store M 0 rfl rfl rfl 23 (.tmp 6) _ rfl 0 rfl [_, _] rfl (by kernel_rfl) rfl (Nat.le_of_ble_eq_true rfl) [_, _] rfl [_, _, _, _] rfl ?_
    intro w6 M1
    clear M
    have M := M1
    clear M1
    refine wpList_nil ?_
    refine hK2 _ _ ?_
    clear hK2
    try clear K2
    refine wp_seq_k (fun K3 hK3 => ?_)
    refine wp_seq_k (fun K4 hK4 => ?_)
    refine wp_region_lit ?_
    refine ev_pure 14 (v := ?_) (a' := ?_) rfl rfl ?_ ?_ ?_
    rotate_left 2
    · intro w'
      go_simp
      with_reducible rfl
    · simp only [Act.put, List.setIfInBounds_toArray, List.set_cons_zero, List.set_cons_succ, i64_w, i32_w]
      rfl
    refine ev_pure 15 (v := ?_) (a' := ?_) rfl rfl ?_ ?_ ?_
    rotate_left 2
    · intro w'
      go_simp
      with_reducible rfl
    · simp only [Act.put, List.setIfInBounds_toArray, List.set_cons_zero, List.set_cons_succ, i64_w, i32_w]
      rfl
    refine ev_load1 M 3 rfl (N := 16) rfl rfl 3 (.tmp 15) rfl 1 rfl _ (by kernel_rfl) rfl ?_
    refine ev_norm (a' := ?_) ?_ ?_
    rotate_left
    · simp only [Act.put, List.setIfInBounds_toArray, List.set_cons_zero, List.set_cons_succ, i64_w, i32_w]
      rfl
    refine ev_pure 17 (v := ?_) (a' := ?_) rfl rfl ?_ ?_ ?_
    rotate_left 2
    · intro w'
      go_simp
      with_reducible rfl
    · simp only [Act.put, List.setIfInBounds_toArray, List.set_cons_zero, List.set_cons_succ, i64_w, i32_w]
      rfl
    refine wpList_nil ?_
    refine hK4 _ _ ?_
    clear hK4
    try clear K4
    refine wp_cond_true rfl ?_
    refine wp_seq_k (fun K5 hK5 => ?_)
    refine start_ (n := 4) (S := fun w' => Mem w w' _) (ds := [2, 3]) #[false, false, false, false] (by kernel_rfl) rfl rfl M.drew (fun hS => ?_)
    clear M
    generalize World.drew _ = w7 at hS ⊢
    have M := hS
    refine take_ (i := 0) (N := (some 18)) (v := _) (a' := ?_) #[true, false, false, false] rfl rfl (by kernel_rfl) (fun _ _ _ h => h) (Or.inl ⟨by rfl, fun w' hM => op_load hM 0 rfl 23 (.tmp 6) rfl 0 rfl [_, _] (by kernel_rfl) (by kernel_rfl) rfl⟩) hS ?_ ?_
    rotate_left
    · simp only [Act.put, List.setIfInBounds_toArray, List.set_cons_zero, List.set_cons_succ, i64_w, i32_w]
      rfl
    refine one_ (i := 1) (N := (some 19)) #[true, true, false, false] rfl rfl (by kernel_rfl) (by decide) (fun K hK => ?_)
    refine goes_ Try.func36 (by kernel_rfl) rfl #[] (by rfl) rfl rfl (by (try simp only [List.map_toArray, List.map_cons, List.map_nil]); first | done | rfl) ?_
    refine Calls.mono (by first | exact none_calls _) ?_
    rintro e w8 ⟨rfl, hb⟩
    refine ⟨_, rfl, ?_⟩
    have M1 := M.call hb
    clear M hS hb
    have M := M1
    clear M1
    refine hK.out _ _ M (fun hS => ?_)
    clear hK K
    refine norm_ (a' := ?_) ?_ ?_
    rotate_left
    · show Act.put _ (some 19) _ = _
      simp only [Act.put, List.setIfInBounds_toArray, List.set_cons_zero, List.set_cons_succ, i64_w, i32_w]
      rfl
    refine last_ (i := 2) (N := none) #[true, true, true, false] rfl rfl (by kernel_rfl) (by decide) (fun K hK => ?_)
    refine skip_store M 2 rfl (by rfl) rfl 23 (.tmp 4) _ rfl 0 rfl [_, _] rfl (by kernel_rfl) rfl (Nat.le_of_ble_eq_true rfl) [_, _] rfl [_, _, _, _] rfl ?_
    intro w9 M1
    clear M hS
    have M := M1
    clear M1
    refine hK.out _ _ ?_
    clear hK K
    refine last_ (i := 3) (N := none) #[true, true, true, true] rfl rfl (by kernel_rfl) (by decide) (fun K hK => ?_)
    refine skip_store M 1 rfl (by rfl) rfl 23 (.tmp 5) _ rfl 0 rfl [_, _] rfl (by kernel_rfl) rfl (Nat.le_of_ble_eq_true rfl) [_, _] rfl [_, _, _, _] rfl ?_
    intro w10 M1
    clear M
    have M := M1
    clear M1
    refine hK.out _ _ ?_
    clear hK K
    refine done_ (by kernel_rfl) ?_
    try clear hS
    refine hK5 _ _ ?_
    clear hK5
    try clear K5
    refine wp_ret ?_
    (try simp only [Exit.inBlock, Exit.then])
    refine bodyPost_ret (res2 rfl (rv_cell M 2 rfl 4 23 0 rfl [_, _] (by kernel_rfl) (by kernel_rfl) rfl) (rv_cell M 1 rfl 5 23 0 rfl [_, _] (by kernel_rfl) (by kernel_rfl) rfl)) rfl ⟨?_, M.below⟩
    rw [H.out, H2.out]
  · have h' : decide (hi ≤ n) = false := decide_eq_false h
    have hm : n < hi := by omega
    have H2 : Hid (cutLo (lo, hi) n = ofS lo n) := Lib.hid (by unfold cutLo; rw [if_pos hm])
    have H3 : ∀ [Inhabited Nat], wrap64 (n + 1) = n + 1 := by intro _; unfold wrap64; omega
    by_cases hx : lo < n + 1
    · have H : Hid (cutHi (lo, hi) n = ofS (n + 1) hi) := Lib.hid (by unfold cutHi; rw [if_neg h, if_pos hx])
      clear h
      go_enter Try.func18, Try.ntmps18
      have M := Mem.start w
      refine wp_seq_k (fun K1 hK1 => ?_)
      refine wp_region_lit ?_
      refine ev_boxv M (N := 2) rfl rfl 23 _ rfl [_, _] rfl ?_
      intro g0 w1 M1
      clear M
      have M := M1
      clear M1
      refine ev_norm (a' := ?_) ?_ ?_
      rotate_left
      · simp only [Act.put, List.setIfInBounds_toArray, List.set_cons_zero, List.set_cons_succ, i64_w, i32_w]
        rfl
      refine ev_alloc M (N := 4) rfl rfl 23 rfl (.agg #[.int .i64 0, .int .i64 0]) (by kernel_rfl) [.int .i64 0, .int .i64 0] rfl ?_
      intro g1 w2 M1
      clear M
      have M := M1
      clear M1
      refine ev_norm (a' := ?_) ?_ ?_
      rotate_left
      · simp only [Act.put, List.setIfInBounds_toArray, List.set_cons_zero, List.set_cons_succ, i64_w, i32_w]
        rfl
      refine ev_alloc M (N := 5) rfl rfl 23 rfl (.agg #[.int .i64 0, .int .i64 0]) (by kernel_rfl) [.int .i64 0, .int .i64 0] rfl ?_
      intro g2 w3 M1
      clear M
      have M := M1
      clear M1
      refine ev_norm (a' := ?_) ?_ ?_
      rotate_left
      · simp only [Act.put, List.setIfInBounds_toArray, List.set_cons_zero, List.set_cons_succ, i64_w, i32_w]
        rfl
      refine wpList_nil ?_
      refine hK1 _ _ ?_
      clear hK1
      try clear K1
      refine wp_seq_k (fun K2 hK2 => ?_)
      refine wp_region_lit ?_
      refine ev_pure 7 (v := ?_) (a' := ?_) rfl rfl ?_ ?_ ?_
      rotate_left 2
      · intro w'
        go_simp
        with_reducible rfl
      · simp only [Act.put, List.setIfInBounds_toArray, List.set_cons_zero, List.set_cons_succ, i64_w, i32_w]
        rfl
      refine ev_load1 M 2 rfl (N := 8) rfl rfl 3 (.tmp 7) rfl 0 rfl _ (by kernel_rfl) rfl ?_
      refine ev_norm (a' := ?_) ?_ ?_
      rotate_left
      · simp only [Act.put, List.setIfInBounds_toArray, List.set_cons_zero, List.set_cons_succ, i64_w, i32_w]
        rfl
      refine ev_pure 9 (v := ?_) (a' := ?_) rfl rfl ?_ ?_ ?_
      rotate_left 2
      · intro w'
        go_simp
        with_reducible rfl
      · simp only [Act.put, List.setIfInBounds_toArray, List.set_cons_zero, List.set_cons_succ, i64_w, i32_w]
        rfl
      refine ev_load1 M 2 rfl (N := 10) rfl rfl 3 (.tmp 9) rfl 1 rfl _ (by kernel_rfl) rfl ?_
      refine ev_norm (a' := ?_) ?_ ?_
      rotate_left
      · simp only [Act.put, List.setIfInBounds_toArray, List.set_cons_zero, List.set_cons_succ, i64_w, i32_w]
        rfl
      refine ev_pure 11 (v := ?_) (a' := ?_) rfl rfl ?_ ?_ ?_
      rotate_left 2
      · intro w'
        go_simp
        with_reducible rfl
      · simp only [Act.put, List.setIfInBounds_toArray, List.set_cons_zero, List.set_cons_succ, i64_w, i32_w]
        rfl
      refine ev_pure 12 (v := ?_) (a' := ?_) rfl rfl ?_ ?_ ?_
      rotate_left 2
      · intro w'
        go_simp
        with_reducible rfl
      · simp only [Act.put, List.setIfInBounds_toArray, List.set_cons_zero, List.set_cons_succ, i64_w, i32_w]
        rfl
      refine ev_call (some 13) rfl rfl Try.func35 (by kernel_rfl) rfl #[.int .i64 _, .int .i64 _] rfl (by (try simp only [List.map_toArray, List.map_cons, List.map_nil]); first | done | rfl) (by first | exact of_calls _ _ _) rfl M ?_
      intro w4 M1
      clear M
      have M := M1
      clear M1
      refine ev_norm (a' := ?_) ?_ ?_
      rotate_left
      · simp only [Act.put, List.setIfInBounds_toArray, List.set_cons_zero, List.set_cons_succ, i64_w, i32_w]
        rfl
      refine ev_alloc M (N := 6) rfl rfl 23 rfl (.agg #[.int .i64 0, .int .i64 0]) (by kernel_rfl) [.int .i64 0, .int .i64 0] rfl ?_
      intro g3 w5 M1
      clear M
      have M := M1
      clear M1
      refine ev_norm (a' := ?_) ?_ ?_
      rotate_left
      · simp only [Act.put, List.setIfInBounds_toArray, List.set_cons_zero, List.set_cons_succ, i64_w, i32_w]
        rfl
      refine ev_store M 0 rfl rfl rfl 23 (.tmp 6) _ rfl 0 rfl [_, _] rfl (by kernel_rfl) rfl (Nat.le_of_ble_eq_true rfl) [_, _] rfl [_, _, _, _] rfl ?_
      intro w6 M1
      clear M
      have M := M1
      clear M1
      refine wpList_nil ?_
      refine hK2 _ _ ?_
      clear hK2
      try clear K2
      refine wp_seq_k (fun K3 hK3 => ?_)
      refine wp_seq_k (fun K4 hK4 => ?_)
      refine wp_region_lit ?_
      refine ev_pure 14 (v := ?_) (a' := ?_) rfl rfl ?_ ?_ ?_
      rotate_left 2
      · intro w'
        go_simp
        with_reducible rfl
      · simp only [Act.put, List.setIfInBounds_toArray, List.set_cons_zero, List.set_cons_succ, i64_w, i32_w]
        rfl
      refine ev_pure 15 (v := ?_) (a' := ?_) rfl rfl ?_ ?_ ?_
      rotate_left 2
      · intro w'
        go_simp
        with_reducible rfl
      · simp only [Act.put, List.setIfInBounds_toArray, List.set_cons_zero, List.set_cons_succ, i64_w, i32_w]
        rfl
      refine ev_load1 M 3 rfl (N := 16) rfl rfl 3 (.tmp 15) rfl 1 rfl _ (by kernel_rfl) rfl ?_
      refine ev_norm (a' := ?_) ?_ ?_
      rotate_left
      · simp only [Act.put, List.setIfInBounds_toArray, List.set_cons_zero, List.set_cons_succ, i64_w, i32_w]
        rfl
      refine ev_pure 17 (v := ?_) (a' := ?_) rfl rfl ?_ ?_ ?_
      rotate_left 2
      · intro w'
        go_simp
        with_reducible rfl
      · simp only [Act.put, List.setIfInBounds_toArray, List.set_cons_zero, List.set_cons_succ, i64_w, i32_w]
        rfl
      refine wpList_nil ?_
      refine hK4 _ _ ?_
      clear hK4
      try clear K4
      refine wp_cond_false rfl ?_
      refine wp_skip ?_
      refine hK3 _ _ ?_
      clear hK3
      try clear K3
      refine wp_seq_k (fun K5 hK5 => ?_)
      refine start_ (n := 11) (S := fun w' => Mem w w' _) (ds := [9, 10]) #[false, false, false, false, false, false, false, false, false, false, false] (by kernel_rfl) rfl rfl M.drew (fun hS => ?_)
      clear M
      generalize World.drew _ = w7 at hS ⊢
      have M := hS
      refine pure_ (i := 1) (N := (some 21)) (v := ?_) (a' := ?_) #[false, true, false, false, false, false, false, false, false, false, false] rfl rfl (by kernel_rfl) (fun _ _ _ h => h) (Or.inl ⟨by rfl, ?_⟩) ?_ ?_
      rotate_left
      · intro w'
        go_simp
        with_reducible rfl
      rotate_left
      · simp only [Act.put, List.setIfInBounds_toArray, List.set_cons_zero, List.set_cons_succ, i64_w, i32_w]
        rfl
      refine pure_ (i := 3) (N := (some 23)) (v := ?_) (a' := ?_) #[false, true, false, true, false, false, false, false, false, false, false] rfl rfl (by kernel_rfl) (fun _ _ _ h => h) (Or.inl ⟨by rfl, ?_⟩) ?_ ?_
      rotate_left
      · intro w'
        go_simp
        with_reducible rfl
      rotate_left
      · simp only [Act.put, List.setIfInBounds_toArray, List.set_cons_zero, List.set_cons_succ, i64_w, i32_w]
        rfl
      refine pure_ (i := 4) (N := (some 24)) (v := ?_) (a' := ?_) #[false, true, false, true, true, false, false, false, false, false, false] rfl rfl (by kernel_rfl) (fun _ _ _ h => h) (Or.inl ⟨by rfl, ?_⟩) ?_ ?_
      rotate_left
      · intro w'
        go_simp
        with_reducible rfl
      rotate_left
      · simp only [Act.put, List.setIfInBounds_toArray, List.set_cons_zero, List.set_cons_succ, i64_w, i32_w]
        rfl
      refine pure_ (i := 6) (N := (some 26)) (v := ?_) (a' := ?_) #[false, true, false, true, true, false, true, false, false, false, false] rfl rfl (by kernel_rfl) (fun _ _ _ h => h) (Or.inl ⟨by rfl, ?_⟩) ?_ ?_
      rotate_left
      · intro w'
        go_simp
        with_reducible rfl
      rotate_left
      · simp only [Act.put, List.setIfInBounds_toArray, List.set_cons_zero, List.set_cons_succ, i64_w, i32_w]
        rfl
      refine take_ (i := 0) (N := (some 20)) (v := _) (a' := ?_) #[true, true, false, true, true, false, true, false, false, false, false] rfl rfl (by kernel_rfl) (fun _ _ _ h => h) (Or.inl ⟨by rfl, fun w' hM => op_load hM 0 rfl 23 (.tmp 6) rfl 0 rfl [_, _] (by kernel_rfl) (by kernel_rfl) rfl⟩) hS ?_ ?_
      rotate_left
      · simp only [Act.put, List.setIfInBounds_toArray, List.set_cons_zero, List.set_cons_succ, i64_w, i32_w]
        rfl
      refine take_ (i := 2) (N := (some 22)) (v := _) (a' := ?_) #[true, true, true, true, true, false, true, false, false, false, false] rfl rfl (by kernel_rfl) (fun _ _ _ h => h) (Or.inl ⟨by rfl, fun w' hM => op_load1 hM 3 rfl 3 (.tmp 21) rfl 0 rfl _ (by kernel_rfl) rfl⟩) hS ?_ ?_
      rotate_left
      · simp only [Act.put, List.setIfInBounds_toArray, List.set_cons_zero, List.set_cons_succ, i64_w, i32_w]
        rfl
      refine pure_ (i := 5) (N := (some 25)) (v := ?_) (a' := ?_) #[true, true, true, true, true, true, true, false, false, false, false] rfl rfl (by kernel_rfl) (fun _ _ _ h => h) (Or.inl ⟨by rfl, ?_⟩) ?_ ?_
      rotate_left
      · intro w'
        go_simp
        with_reducible rfl
      rotate_left
      · simp only [Act.put, List.setIfInBounds_toArray, List.set_cons_zero, List.set_cons_succ, i64_w, i32_w]
        rfl
      refine take_ (i := 7) (N := (some 27)) (v := _) (a' := ?_) #[true, true, true, true, true, true, true, true, false, false, false] rfl rfl (by kernel_rfl) (fun _ _ _ h => h) (Or.inl ⟨by rfl, fun w' hM => op_load1 hM 3 rfl 3 (.tmp 26) rfl 1 rfl _ (by kernel_rfl) rfl⟩) hS ?_ ?_
      rotate_left
      · simp only [Act.put, List.setIfInBounds_toArray, List.set_cons_zero, List.set_cons_succ, i64_w, i32_w]
        rfl
      refine one_ (i := 8) (N := (some 28)) #[true, true, true, true, true, true, true, true, true, false, false] rfl rfl (by kernel_rfl) (by decide) (fun K hK => ?_)
      refine goes_ Try.func35 (by kernel_rfl) rfl #[.int .i64 _, .int .i64 _] (by rfl) rfl rfl (by (try simp only [List.map_toArray, List.map_cons, List.map_nil]); first | done | rfl) ?_
      refine Calls.mono (by first | exact of_calls _ _ _) ?_
      rintro e w8 ⟨rfl, hb⟩
      refine ⟨_, rfl, ?_⟩
      have M1 := M.call hb
      clear M hS hb
      have M := M1
      clear M1
      refine hK.out _ _ M (fun hS => ?_)
      clear hK K
      refine norm_ (a' := ?_) ?_ ?_
      rotate_left
      · show Act.put _ (some 28) _ = _
        simp only [Act.put, List.setIfInBounds_toArray, List.set_cons_zero, List.set_cons_succ, i64_w, i32_w]
        rfl
      refine last_ (i := 9) (N := none) #[true, true, true, true, true, true, true, true, true, true, false] rfl rfl (by kernel_rfl) (by decide) (fun K hK => ?_)
      refine skip_store M 2 rfl (by rfl) rfl 23 (.tmp 4) _ rfl 0 rfl [_, _] rfl (by kernel_rfl) rfl (Nat.le_of_ble_eq_true rfl) [_, _] rfl [_, _, _, _] rfl ?_
      intro w9 M1
      clear M hS
      have M := M1
      clear M1
      refine hK.out _ _ ?_
      clear hK K
      refine last_ (i := 10) (N := none) #[true, true, true, true, true, true, true, true, true, true, true] rfl rfl (by kernel_rfl) (by decide) (fun K hK => ?_)
      refine skip_store M 1 rfl (by rfl) rfl 23 (.tmp 5) _ rfl 0 rfl [_, _] rfl (by kernel_rfl) rfl (Nat.le_of_ble_eq_true rfl) [_, _] rfl [_, _, _, _] rfl ?_
      intro w10 M1
      clear M
      have M := M1
      clear M1
      refine hK.out _ _ ?_
      clear hK K
      refine done_ (by kernel_rfl) ?_
      try clear hS
      refine hK5 _ _ ?_
      clear hK5
      try clear K5
      refine wp_ret ?_
      (try simp only [Exit.inBlock, Exit.then])
      refine bodyPost_ret (res2 rfl (rv_cell M 2 rfl 4 23 0 rfl [_, _] (by kernel_rfl) (by kernel_rfl) rfl) (rv_cell M 1 rfl 5 23 0 rfl [_, _] (by kernel_rfl) (by kernel_rfl) rfl)) rfl ⟨?_, M.below⟩
      rw [H.out, H2.out]
      try simp [hx]
    · have H : Hid (cutHi (lo, hi) n = ofS lo hi) := Lib.hid (by unfold cutHi; rw [if_neg h, if_neg hx])
      clear h
      go_enter Try.func18, Try.ntmps18
      have M := Mem.start w
      refine wp_seq_k (fun K1 hK1 => ?_)
      refine wp_region_lit ?_
      refine ev_boxv M (N := 2) rfl rfl 23 _ rfl [_, _] rfl ?_
      intro g0 w1 M1
      clear M
      have M := M1
      clear M1
      refine ev_norm (a' := ?_) ?_ ?_
      rotate_left
      · simp only [Act.put, List.setIfInBounds_toArray, List.set_cons_zero, List.set_cons_succ, i64_w, i32_w]
        rfl
      refine ev_alloc M (N := 4) rfl rfl 23 rfl (.agg #[.int .i64 0, .int .i64 0]) (by kernel_rfl) [.int .i64 0, .int .i64 0] rfl ?_
      intro g1 w2 M1
      clear M
      have M := M1
      clear M1
      refine ev_norm (a' := ?_) ?_ ?_
      rotate_left
      · simp only [Act.put, List.setIfInBounds_toArray, List.set_cons_zero, List.set_cons_succ, i64_w, i32_w]
        rfl
      refine ev_alloc M (N := 5) rfl rfl 23 rfl (.agg #[.int .i64 0, .int .i64 0]) (by kernel_rfl) [.int .i64 0, .int .i64 0] rfl ?_
      intro g2 w3 M1
      clear M
      have M := M1
      clear M1
      refine ev_norm (a' := ?_) ?_ ?_
      rotate_left
      · simp only [Act.put, List.setIfInBounds_toArray, List.set_cons_zero, List.set_cons_succ, i64_w, i32_w]
        rfl
      refine wpList_nil ?_
      refine hK1 _ _ ?_
      clear hK1
      try clear K1
      refine wp_seq_k (fun K2 hK2 => ?_)
      refine wp_region_lit ?_
      refine ev_pure 7 (v := ?_) (a' := ?_) rfl rfl ?_ ?_ ?_
      rotate_left 2
      · intro w'
        go_simp
        with_reducible rfl
      · simp only [Act.put, List.setIfInBounds_toArray, List.set_cons_zero, List.set_cons_succ, i64_w, i32_w]
        rfl
      refine ev_load1 M 2 rfl (N := 8) rfl rfl 3 (.tmp 7) rfl 0 rfl _ (by kernel_rfl) rfl ?_
      refine ev_norm (a' := ?_) ?_ ?_
      rotate_left
      · simp only [Act.put, List.setIfInBounds_toArray, List.set_cons_zero, List.set_cons_succ, i64_w, i32_w]
        rfl
      refine ev_pure 9 (v := ?_) (a' := ?_) rfl rfl ?_ ?_ ?_
      rotate_left 2
      · intro w'
        go_simp
        with_reducible rfl
      · simp only [Act.put, List.setIfInBounds_toArray, List.set_cons_zero, List.set_cons_succ, i64_w, i32_w]
        rfl
      refine ev_load1 M 2 rfl (N := 10) rfl rfl 3 (.tmp 9) rfl 1 rfl _ (by kernel_rfl) rfl ?_
      refine ev_norm (a' := ?_) ?_ ?_
      rotate_left
      · simp only [Act.put, List.setIfInBounds_toArray, List.set_cons_zero, List.set_cons_succ, i64_w, i32_w]
        rfl
      refine ev_pure 11 (v := ?_) (a' := ?_) rfl rfl ?_ ?_ ?_
      rotate_left 2
      · intro w'
        go_simp
        with_reducible rfl
      · simp only [Act.put, List.setIfInBounds_toArray, List.set_cons_zero, List.set_cons_succ, i64_w, i32_w]
        rfl
      refine ev_pure 12 (v := ?_) (a' := ?_) rfl rfl ?_ ?_ ?_
      rotate_left 2
      · intro w'
        go_simp
        with_reducible rfl
      · simp only [Act.put, List.setIfInBounds_toArray, List.set_cons_zero, List.set_cons_succ, i64_w, i32_w]
        rfl
      refine ev_call (some 13) rfl rfl Try.func35 (by kernel_rfl) rfl #[.int .i64 _, .int .i64 _] rfl (by (try simp only [List.map_toArray, List.map_cons, List.map_nil]); first | done | rfl) (by first | exact of_calls _ _ _) rfl M ?_
      intro w4 M1
      clear M
      have M := M1
      clear M1
      refine ev_norm (a' := ?_) ?_ ?_
      rotate_left
      · simp only [Act.put, List.setIfInBounds_toArray, List.set_cons_zero, List.set_cons_succ, i64_w, i32_w]
        rfl
      refine ev_alloc M (N := 6) rfl rfl 23 rfl (.agg #[.int .i64 0, .int .i64 0]) (by kernel_rfl) [.int .i64 0, .int .i64 0] rfl ?_
      intro g3 w5 M1
      clear M
      have M := M1
      clear M1
      refine ev_norm (a' := ?_) ?_ ?_
      rotate_left
      · simp only [Act.put, List.setIfInBounds_toArray, List.set_cons_zero, List.set_cons_succ, i64_w, i32_w]
        rfl
      refine ev_store M 0 rfl rfl rfl 23 (.tmp 6) _ rfl 0 rfl [_, _] rfl (by kernel_rfl) rfl (Nat.le_of_ble_eq_true rfl) [_, _] rfl [_, _, _, _] rfl ?_
      intro w6 M1
      clear M
      have M := M1
      clear M1
      refine wpList_nil ?_
      refine hK2 _ _ ?_
      clear hK2
      try clear K2
      refine wp_seq_k (fun K3 hK3 => ?_)
      refine wp_seq_k (fun K4 hK4 => ?_)
      refine wp_region_lit ?_
      refine ev_pure 14 (v := ?_) (a' := ?_) rfl rfl ?_ ?_ ?_
      rotate_left 2
      · intro w'
        go_simp
        with_reducible rfl
      · simp only [Act.put, List.setIfInBounds_toArray, List.set_cons_zero, List.set_cons_succ, i64_w, i32_w]
        rfl
      refine ev_pure 15 (v := ?_) (a' := ?_) rfl rfl ?_ ?_ ?_
      rotate_left 2
      · intro w'
        go_simp
        with_reducible rfl
      · simp only [Act.put, List.setIfInBounds_toArray, List.set_cons_zero, List.set_cons_succ, i64_w, i32_w]
        rfl
      refine ev_load1 M 3 rfl (N := 16) rfl rfl 3 (.tmp 15) rfl 1 rfl _ (by kernel_rfl) rfl ?_
      refine ev_norm (a' := ?_) ?_ ?_
      rotate_left
      · simp only [Act.put, List.setIfInBounds_toArray, List.set_cons_zero, List.set_cons_succ, i64_w, i32_w]
        rfl
      refine ev_pure 17 (v := ?_) (a' := ?_) rfl rfl ?_ ?_ ?_
      rotate_left 2
      · intro w'
        go_simp
        with_reducible rfl
      · simp only [Act.put, List.setIfInBounds_toArray, List.set_cons_zero, List.set_cons_succ, i64_w, i32_w]
        rfl
      refine wpList_nil ?_
      refine hK4 _ _ ?_
      clear hK4
      try clear K4
      refine wp_cond_false rfl ?_
      refine wp_skip ?_
      refine hK3 _ _ ?_
      clear hK3
      try clear K3
      refine wp_seq_k (fun K5 hK5 => ?_)
      refine start_ (n := 11) (S := fun w' => Mem w w' _) (ds := [9, 10]) #[false, false, false, false, false, false, false, false, false, false, false] (by kernel_rfl) rfl rfl M.drew (fun hS => ?_)
      clear M
      generalize World.drew _ = w7 at hS ⊢
      have M := hS
      refine pure_ (i := 1) (N := (some 21)) (v := ?_) (a' := ?_) #[false, true, false, false, false, false, false, false, false, false, false] rfl rfl (by kernel_rfl) (fun _ _ _ h => h) (Or.inl ⟨by rfl, ?_⟩) ?_ ?_
      rotate_left
      · intro w'
        go_simp
        with_reducible rfl
      rotate_left
      · simp only [Act.put, List.setIfInBounds_toArray, List.set_cons_zero, List.set_cons_succ, i64_w, i32_w]
        rfl
      refine pure_ (i := 3) (N := (some 23)) (v := ?_) (a' := ?_) #[false, true, false, true, false, false, false, false, false, false, false] rfl rfl (by kernel_rfl) (fun _ _ _ h => h) (Or.inl ⟨by rfl, ?_⟩) ?_ ?_
      rotate_left
      · intro w'
        go_simp
        with_reducible rfl
      rotate_left
      · simp only [Act.put, List.setIfInBounds_toArray, List.set_cons_zero, List.set_cons_succ, i64_w, i32_w]
        rfl
      refine pure_ (i := 4) (N := (some 24)) (v := ?_) (a' := ?_) #[false, true, false, true, true, false, false, false, false, false, false] rfl rfl (by kernel_rfl) (fun _ _ _ h => h) (Or.inl ⟨by rfl, ?_⟩) ?_ ?_
      rotate_left
      · intro w'
        go_simp
        with_reducible rfl
      rotate_left
      · simp only [Act.put, List.setIfInBounds_toArray, List.set_cons_zero, List.set_cons_succ, i64_w, i32_w]
        rfl
      refine pure_ (i := 6) (N := (some 26)) (v := ?_) (a' := ?_) #[false, true, false, true, true, false, true, false, false, false, false] rfl rfl (by kernel_rfl) (fun _ _ _ h => h) (Or.inl ⟨by rfl, ?_⟩) ?_ ?_
      rotate_left
      · intro w'
        go_simp
        with_reducible rfl
      rotate_left
      · simp only [Act.put, List.setIfInBounds_toArray, List.set_cons_zero, List.set_cons_succ, i64_w, i32_w]
        rfl
      refine take_ (i := 0) (N := (some 20)) (v := _) (a' := ?_) #[true, true, false, true, true, false, true, false, false, false, false] rfl rfl (by kernel_rfl) (fun _ _ _ h => h) (Or.inl ⟨by rfl, fun w' hM => op_load hM 0 rfl 23 (.tmp 6) rfl 0 rfl [_, _] (by kernel_rfl) (by kernel_rfl) rfl⟩) hS ?_ ?_
      rotate_left
      · simp only [Act.put, List.setIfInBounds_toArray, List.set_cons_zero, List.set_cons_succ, i64_w, i32_w]
        rfl
      refine take_ (i := 2) (N := (some 22)) (v := _) (a' := ?_) #[true, true, true, true, true, false, true, false, false, false, false] rfl rfl (by kernel_rfl) (fun _ _ _ h => h) (Or.inl ⟨by rfl, fun w' hM => op_load1 hM 3 rfl 3 (.tmp 21) rfl 0 rfl _ (by kernel_rfl) rfl⟩) hS ?_ ?_
      rotate_left
      · simp only [Act.put, List.setIfInBounds_toArray, List.set_cons_zero, List.set_cons_succ, i64_w, i32_w]
        rfl
      refine pure_ (i := 5) (N := (some 25)) (v := ?_) (a' := ?_) #[true, true, true, true, true, true, true, false, false, false, false] rfl rfl (by kernel_rfl) (fun _ _ _ h => h) (Or.inl ⟨by rfl, ?_⟩) ?_ ?_
      rotate_left
      · intro w'
        go_simp
        with_reducible rfl
      rotate_left
      · simp only [Act.put, List.setIfInBounds_toArray, List.set_cons_zero, List.set_cons_succ, i64_w, i32_w]
        rfl
      refine take_ (i := 7) (N := (some 27)) (v := _) (a' := ?_) #[true, true, true, true, true, true, true, true, false, false, false] rfl rfl (by kernel_rfl) (fun _ _ _ h => h) (Or.inl ⟨by rfl, fun w' hM => op_load1 hM 3 rfl 3 (.tmp 26) rfl 1 rfl _ (by kernel_rfl) rfl⟩) hS ?_ ?_
      rotate_left
      · simp only [Act.put, List.setIfInBounds_toArray, List.set_cons_zero, List.set_cons_succ, i64_w, i32_w]
        rfl
      refine one_ (i := 8) (N := (some 28)) #[true, true, true, true, true, true, true, true, true, false, false] rfl rfl (by kernel_rfl) (by decide) (fun K hK => ?_)
      refine goes_ Try.func35 (by kernel_rfl) rfl #[.int .i64 _, .int .i64 _] (by rfl) rfl rfl (by (try simp only [List.map_toArray, List.map_cons, List.map_nil]); first | done | rfl) ?_
      refine Calls.mono (by first | exact of_calls _ _ _) ?_
      rintro e w8 ⟨rfl, hb⟩
      refine ⟨_, rfl, ?_⟩
      have M1 := M.call hb
      clear M hS hb
      have M := M1
      clear M1
      refine hK.out _ _ M (fun hS => ?_)
      clear hK K
      refine norm_ (a' := ?_) ?_ ?_
      rotate_left
      · show Act.put _ (some 28) _ = _
        simp only [Act.put, List.setIfInBounds_toArray, List.set_cons_zero, List.set_cons_succ, i64_w, i32_w]
        rfl
      refine last_ (i := 9) (N := none) #[true, true, true, true, true, true, true, true, true, true, false] rfl rfl (by kernel_rfl) (by decide) (fun K hK => ?_)
      refine skip_store M 2 rfl (by rfl) rfl 23 (.tmp 4) _ rfl 0 rfl [_, _] rfl (by kernel_rfl) rfl (Nat.le_of_ble_eq_true rfl) [_, _] rfl [_, _, _, _] rfl ?_
      intro w9 M1
      clear M hS
      have M := M1
      clear M1
      refine hK.out _ _ ?_
      clear hK K
      refine last_ (i := 10) (N := none) #[true, true, true, true, true, true, true, true, true, true, true] rfl rfl (by kernel_rfl) (by decide) (fun K hK => ?_)
      refine skip_store M 1 rfl (by rfl) rfl 23 (.tmp 5) _ rfl 0 rfl [_, _] rfl (by kernel_rfl) rfl (Nat.le_of_ble_eq_true rfl) [_, _] rfl [_, _, _, _] rfl ?_
      intro w10 M1
      clear M
      have M := M1
      clear M1
      refine hK.out _ _ ?_
      clear hK K
      refine done_ (by kernel_rfl) ?_
      try clear hS
      refine hK5 _ _ ?_
      clear hK5
      try clear K5
      refine wp_ret ?_
      (try simp only [Exit.inBlock, Exit.then])
      refine bodyPost_ret (res2 rfl (rv_cell M 2 rfl 4 23 0 rfl [_, _] (by kernel_rfl) (by kernel_rfl) rfl) (rv_cell M 1 rfl 5 23 0 rfl [_, _] (by kernel_rfl) (by kernel_rfl) rfl)) rfl ⟨?_, M.below⟩
      rw [H.out, H2.out]
      try simp [show ¬ lo < n + 1 from hx]
      try simp [show ¬ lo < n + 1 by omega]
end Go.Proofs.Ytdeedabhgfmgjaa.Span

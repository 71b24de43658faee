/-
  FixSums behind its list. No condition.
-/
import Derived.Test.YtmgkmekknhggbaaFsG
set_option linter.unusedVariables false
set_option linter.unusedSimpArgs false
set_option maxRecDepth 100000
namespace Go.Proofs.Ytmgkmekknhggbaa.Fs
open Go Go.RowKit Go.Proofs.Ytmgkmekknhggbaa.Ev Go.Proofs.Ytmgkmekknhggbaa.Within Go.Proofs.Ytmgkmekknhggbaa.FixA Go.Proofs.Ytmgkmekknhggbaa.BitLib Go.Proofs.Ytmgkmekknhggbaa.Fs
def FM (M : List Int) : List Value := eInt.row (eInt.list (eInt.row M) 0 M.length ++ List.replicate 80 7)
theorem fullList (M : List Int) : eInt.list (eInt.row (eInt.list (eInt.row M) 0 M.length ++ List.replicate 80 7)) 0 (M.length + 80) = eInt.list (eInt.row M) 0 M.length ++ List.replicate 80 7 := by
  have := (Elt.canon0 (e := eInt) (eInt.list (eInt.row M) 0 M.length ++ List.replicate 80 7)).2
  rw [List.length_append, Elt.list_len, List.length_replicate] at this
  exact this
theorem fullRow (M : List Int) : eInt.Row (eInt.row (eInt.list (eInt.row M) 0 M.length ++ List.replicate 80 7)) 0 (M.length + 80) := rowN (by simp [Elt.list_len])
theorem fullTake (M : List Int) : eInt.list (eInt.row (eInt.list (eInt.row M) 0 M.length ++ List.replicate 80 7)) 0 M.length = M := by
  rw [listM (by simp [Elt.list_len]), (Elt.canon0 (e := eInt) M).2, List.take_left' rfl]
theorem fullI {M : List Int} (h : ∀ z ∈ M, I64 z) : ∀ z ∈ eInt.list (eInt.row (eInt.list (eInt.row M) 0 M.length ++ List.replicate 80 7)) 0 M.length, I64 z := by rw [fullTake]; exact h
theorem listI {L : List Int} {n : Nat} (hn : n = L.length) (h : ∀ z ∈ L, I64 z) : ∀ z ∈ eInt.list (eInt.row L) 0 n, I64 z := by subst hn; rw [(Elt.canon0 L).2]; exact h
theorem listT {L M : List Int} {n : Nat} (hn : n = L.length) (h : tot L = tot M) : tot (eInt.list (eInt.row L) 0 n) = tot M := by subst hn; rw [(Elt.canon0 L).2]; exact h
theorem slC {n m nm : Nat} {cs : List Value} {ty : TypeId} (h : n ≤ m) (hc : m ≤ m) (h16 : m ≤ 16777216) : SlOK 1 nm 0 m m none (some (Int.ofNat n)) (some (.cells cs ty)) (.slice (some ⟨nm, 0, none⟩) n m) := by
  have hcm : m < Ev.mark := by unfold Ev.mark; omega
  exact ⟨0, n, rfl, rfl, Nat.zero_le _, h, Or.inr ⟨hcm, Nat.le_refl _, if h0 : m = 0 then Or.inl ⟨h0, by simp⟩ else Or.inr ⟨h0, by simp⟩⟩⟩
theorem fx_fin {a b w : Int} (ia : I64 a) (ib : I64 b) (iw : I64 w) {E : Env} (hE : EnvOK E Try.prog Try.f10 4 1 (.bool true) [] []) :
    Sat E (fromR Try.f10 2) ((fsL a b w []).st 0 ()) ∧ ∀ M : List Int, M ≠ [] → M.length ≤ 40 → (∀ z ∈ M, I64 z) → Sat E (fromR Try.f10 2) ((fsL a b w M).st 1 ()) := by
  have two : tot (eInt.list [.int .i64 a, .int .i64 b] 0 2) = a + b := by
    have : eInt.list [.int .i64 a, .int .i64 b] 0 2 = [a, b] := (Elt.canon0 (e := eInt) [a, b]).2
    rw [this]; simp [tot]
  have itwo : ∀ z : Int, z ∈ eInt.list [.int .i64 a, .int .i64 b] 0 2 → I64 z := by
    have : eInt.list [.int .i64 a, .int .i64 b] 0 2 = [a, b] := (Elt.canon0 (e := eInt) [a, b]).2
    rw [this]
    intro z hz
    simp at hz
    rcases hz with rfl | rfl
    · exact ia
    · exact ib
  refine ⟨?_, fun M hne h40 hM => ?_⟩
  · have hk : Value.int .i64 (withinS w 0 0) = .int .i64 0 := congrArg _ (by have := within_range w (Int.le_refl 0); omega)
    by_cases hs : -9223372036854775808 ≤ a - b ∧ a - b ≤ 9223372036854775807
    · have f0 : fits (a - b) = true := fits_yes hs.1 hs.2
      have f1 : told (a - b) = a - b := told_yes hs.1 hs.2
      have f2 : fits (a - b + b) = true := fits_yes (by omega) (by omega)
      have f3 : told (a - b + b) = a := by rw [told_yes (by omega) (by omega)]; omega
      have id : I64 (a - b) := hs
      exact fxz1 (fun n => n + 80) a b w  0 (told (a + b)) (a - b) 0 true (fits (a + b)) true hE ⟨⟨rfl, rfl⟩, (plain2 (cs := eInt.row (List.replicate 80 7)) (ds := eInt.row []) (Elt.row_pl _) (Elt.row_pl _)), (rowN (e := eInt) (L := (List.replicate 80 7)) rfl), (rowN (e := eInt) (L := []) rfl), (by decide), (Nat.le_refl _), (by decide), (fullList []), (fun x hx => by simp at hx), (congrArg _ (bne_self_eq_false _)), (congrArg _ (bne_self_eq_false _)), (congrArg _ (bne_self_eq_false _)), (congrArg _ (bne_self_eq_false _)), (congrArg _ (bne_self_eq_false _)), (congrArg _ f2), (congrArg _ f3), id, ib, (congrArg _ f0), (congrArg _ f1), ia, ib, (congrArg (fun z => Value.bool (fits z)) two), (congrArg (fun z => Value.int .i64 (told z)) two), (plain1 (cs := eInt.row [a, b]) (Elt.row_pl _)), (rowN (e := eInt) (L := [a, b]) rfl), itwo, (by decide), rfl, rfl, ia, ib, rfl, rfl, (plain1 (cs := eInt.row []) (Elt.row_pl _)), (rowN (e := eInt) (L := []) rfl), (fun z hz => by simp [Elt.list] at hz), (by decide), ⟨rfl, Nat.le_refl _, by decide⟩, ⟨rfl, Nat.le_refl _, by decide⟩, hk, iw, (by decide), (by decide), (by decide), rfl, rfl, (plain1 (cs := eInt.row (List.replicate 80 7)) (Elt.row_pl _)), (rowM (e := eInt) (L := (List.replicate 80 7)) (by decide)), (fun z hz => by simp [Elt.list] at hz), (by decide), (slC (n := 0) (m := 0 + 80) (Nat.zero_le _) (Nat.le_refl _) (by decide)), (plain1 (cs := eInt.row []) (Elt.row_pl _)), (rowN (e := eInt) (L := []) rfl), (by decide), rfl, trivial⟩
    · have f0 : fits (a - b) = false := fits_no hs
      have f1 : told (a - b) = 0 := told_no hs
      exact fxz0 (fun n => n + 80) a b w  0 (told (a + b)) 0 (told (0 + b)) true (fits (a + b)) (fits (0 + b)) hE ⟨⟨rfl, rfl⟩, (plain2 (cs := eInt.row (List.replicate 80 7)) (ds := eInt.row []) (Elt.row_pl _) (Elt.row_pl _)), (rowN (e := eInt) (L := (List.replicate 80 7)) rfl), (rowN (e := eInt) (L := []) rfl), (by decide), (Nat.le_refl _), (by decide), (fullList []), (fun x hx => by simp at hx), rfl, (congrArg _ (bne_self_eq_false _)), (congrArg _ (bne_self_eq_false _)), (congrArg _ (bne_self_eq_false _)), (congrArg _ (bne_self_eq_false _)), rfl, rfl, ⟨by decide, by decide⟩, ib, (congrArg _ f0), (congrArg _ f1), ia, ib, (congrArg (fun z => Value.bool (fits z)) two), (congrArg (fun z => Value.int .i64 (told z)) two), (plain1 (cs := eInt.row [a, b]) (Elt.row_pl _)), (rowN (e := eInt) (L := [a, b]) rfl), itwo, (by decide), rfl, rfl, ia, ib, rfl, rfl, (plain1 (cs := eInt.row []) (Elt.row_pl _)), (rowN (e := eInt) (L := []) rfl), (fun z hz => by simp [Elt.list] at hz), (by decide), ⟨rfl, Nat.le_refl _, by decide⟩, ⟨rfl, Nat.le_refl _, by decide⟩, hk, iw, (by decide), (by decide), (by decide), rfl, rfl, (plain1 (cs := eInt.row (List.replicate 80 7)) (Elt.row_pl _)), (rowM (e := eInt) (L := (List.replicate 80 7)) (by decide)), (fun z hz => by simp [Elt.list] at hz), (by decide), (slC (n := 0) (m := 0 + 80) (Nat.zero_le _) (Nat.le_refl _) (by decide)), (plain1 (cs := eInt.row []) (Elt.row_pl _)), (rowN (e := eInt) (L := []) rfl), (by decide), rfl, trivial⟩
  · have hlen : 0 < M.length := by cases M with | nil => exact absurd rfl hne | cons => simp
    have slF : SlOK 1 15 0 (M.length + 80) (M.length + 80) none (some (Int.ofNat M.length)) (some (.cells (eInt.row (eInt.list (eInt.row M) 0 M.length ++ List.replicate 80 7)) 3)) (.slice (some ⟨15, 0, none⟩) M.length (M.length + 80)) := slC (by omega) (Nat.le_refl _) (by omega)
    have hr := within_range w (show (0 : Int) ≤ (M.length : Int) by omega)
    obtain ⟨k, hk⟩ : ∃ k : Nat, withinS w 0 (M.length : Int) = (k : Int) := ⟨(withinS w 0 (M.length : Int)).toNat, (Int.toNat_of_nonneg hr.1).symm⟩
    rw [hk] at hr
    have hk : Value.int .i64 (withinS w 0 (M.length : Int)) = .int .i64 (k : Int) := congrArg _ hk
    by_cases k0 : k = 0
    · subst k0
      have hTl : 0 + M.length = M.length := Nat.zero_add _
      have hTI := hM
      have hTt : tot M = tot M := rfl
      by_cases hs : -9223372036854775808 ≤ a - b ∧ a - b ≤ 9223372036854775807
      · have f0 : fits (a - b) = true := fits_yes hs.1 hs.2
        have f1 : told (a - b) = a - b := told_yes hs.1 hs.2
        have f2 : fits (a - b + b) = true := fits_yes (by omega) (by omega)
        have f3 : told (a - b + b) = a := by rw [told_yes (by omega) (by omega)]; omega
        have id : I64 (a - b) := hs
        exact fxs1 (fun n => n + 80) a b w M (eInt.row M) (told (tot M)) (told (a + b)) (a - b) 0 (fits (tot M)) (fits (a + b)) true hE ⟨⟨rfl, rfl⟩, (plain2 (Elt.row_pl _) (Elt.row_pl _)), (fullRow M), (rowN rfl), (show M.length + 80 ≤ _ by omega), (Nat.le_refl _), (show M.length + 80 ≤ _ by omega), (fullList M), (fun x hx => by simp at hx), (congrArg _ (bne_self_eq_false _)), (congrArg _ (bne_self_eq_false _)), (congrArg _ (bne_self_eq_false _)), (congrArg _ (bne_self_eq_false _)), (congrArg _ (bne_self_eq_false _)), (congrArg _ f2), (congrArg _ f3), id, ib, (congrArg _ f0), (congrArg _ f1), ia, ib, (congrArg (fun z => Value.bool (fits z)) two), (congrArg (fun z => Value.int .i64 (told z)) two), (plain1 (cs := eInt.row [a, b]) (Elt.row_pl _)), (rowN (e := eInt) (L := [a, b]) rfl), itwo, (by decide), rfl, rfl, ia, ib, (congrArg (fun z => Value.bool (fits z)) (listT hTl hTt)), (congrArg (fun z => Value.int .i64 (told z)) (listT hTl hTt)), (plain1 (Elt.row_pl _)), (rowN hTl), (listI hTl hTI), (by omega), ⟨rfl, rfl, by decide, by rw [Elt.row_len]; simp [eInt]⟩, (slOK_pre (h := 0) rfl (by omega) (by decide) (by rw [Elt.row_len]; simp [eInt])), (appG (L := []) (M := M) (Or.inr ⟨rfl, rfl, rfl⟩) rfl (k := 0) rfl (by omega) (by simp) (by simp) (by omega) (by omega) (by omega)), (slK (e := eInt) (h := 0) rfl (by omega) (by simp) rfl (by simp) rfl (by decide)), hk, iw, (by decide), (Int.natCast_nonneg _), (show (M.length : Int) ≤ _ by omega), (congrArg (fun z => Value.bool (fits (tot z))) (fullTake M)), (congrArg (fun z => Value.int .i64 (told (tot z))) (fullTake M)), (plain1 (Elt.row_pl _)), (rowM (by simp [Elt.list_len])), (fullI hM), (by omega), slF, (plain1 (Elt.row_pl _)), (rowN rfl), (by omega), rfl, trivial⟩
      · have f0 : fits (a - b) = false := fits_no hs
        have f1 : told (a - b) = 0 := told_no hs
        exact fxs0 (fun n => n + 80) a b w M (eInt.row M) (told (tot M)) (told (a + b)) 0 (told (0 + b)) (fits (tot M)) (fits (a + b)) (fits (0 + b)) hE ⟨⟨rfl, rfl⟩, (plain2 (Elt.row_pl _) (Elt.row_pl _)), (fullRow M), (rowN rfl), (show M.length + 80 ≤ _ by omega), (Nat.le_refl _), (show M.length + 80 ≤ _ by omega), (fullList M), (fun x hx => by simp at hx), rfl, (congrArg _ (bne_self_eq_false _)), (congrArg _ (bne_self_eq_false _)), (congrArg _ (bne_self_eq_false _)), (congrArg _ (bne_self_eq_false _)), rfl, rfl, ⟨by decide, by decide⟩, ib, (congrArg _ f0), (congrArg _ f1), ia, ib, (congrArg (fun z => Value.bool (fits z)) two), (congrArg (fun z => Value.int .i64 (told z)) two), (plain1 (cs := eInt.row [a, b]) (Elt.row_pl _)), (rowN (e := eInt) (L := [a, b]) rfl), itwo, (by decide), rfl, rfl, ia, ib, (congrArg (fun z => Value.bool (fits z)) (listT hTl hTt)), (congrArg (fun z => Value.int .i64 (told z)) (listT hTl hTt)), (plain1 (Elt.row_pl _)), (rowN hTl), (listI hTl hTI), (by omega), ⟨rfl, rfl, by decide, by rw [Elt.row_len]; simp [eInt]⟩, (slOK_pre (h := 0) rfl (by omega) (by decide) (by rw [Elt.row_len]; simp [eInt])), (appG (L := []) (M := M) (Or.inr ⟨rfl, rfl, rfl⟩) rfl (k := 0) rfl (by omega) (by simp) (by simp) (by omega) (by omega) (by omega)), (slK (e := eInt) (h := 0) rfl (by omega) (by simp) rfl (by simp) rfl (by decide)), hk, iw, (by decide), (Int.natCast_nonneg _), (show (M.length : Int) ≤ _ by omega), (congrArg (fun z => Value.bool (fits (tot z))) (fullTake M)), (congrArg (fun z => Value.int .i64 (told (tot z))) (fullTake M)), (plain1 (Elt.row_pl _)), (rowM (by simp [Elt.list_len])), (fullI hM), (by omega), slF, (plain1 (Elt.row_pl _)), (rowN rfl), (by omega), rfl, trivial⟩
    · by_cases kn : k = M.length
      · subst kn
        have hTl : 0 + M.length = M.length := Nat.zero_add _
        have hTI := hM
        have hTt : tot M = tot M := rfl
        by_cases hs : -9223372036854775808 ≤ a - b ∧ a - b ≤ 9223372036854775807
        · have f0 : fits (a - b) = true := fits_yes hs.1 hs.2
          have f1 : told (a - b) = a - b := told_yes hs.1 hs.2
          have f2 : fits (a - b + b) = true := fits_yes (by omega) (by omega)
          have f3 : told (a - b + b) = a := by rw [told_yes (by omega) (by omega)]; omega
          have id : I64 (a - b) := hs
          exact fxe1 (fun n => n + 80) a b w M (eInt.row M) (told (tot M)) (told (a + b)) (a - b) 0 (fits (tot M)) (fits (a + b)) true hE ⟨⟨rfl, rfl⟩, (plain2 (Elt.row_pl _) (Elt.row_pl _)), (fullRow M), (rowN rfl), (show M.length + 80 ≤ _ by omega), (Nat.le_refl _), (show M.length + 80 ≤ _ by omega), (fullList M), (fun x hx => by simp at hx), (congrArg _ (bne_self_eq_false _)), (congrArg _ (bne_self_eq_false _)), (congrArg _ (bne_self_eq_false _)), (congrArg _ (bne_self_eq_false _)), (congrArg _ (bne_self_eq_false _)), (congrArg _ f2), (congrArg _ f3), id, ib, (congrArg _ f0), (congrArg _ f1), ia, ib, (congrArg (fun z => Value.bool (fits z)) two), (congrArg (fun z => Value.int .i64 (told z)) two), (plain1 (cs := eInt.row [a, b]) (Elt.row_pl _)), (rowN (e := eInt) (L := [a, b]) rfl), itwo, (by decide), rfl, rfl, ia, ib, (congrArg (fun z => Value.bool (fits z)) (listT hTl hTt)), (congrArg (fun z => Value.int .i64 (told z)) (listT hTl hTt)), (plain1 (Elt.row_pl _)), (rowN hTl), (listI hTl hTI), (by omega), (appG (L := []) (M := M) (Or.inr ⟨rfl, rfl, rfl⟩) rfl (k := 0) rfl (by omega) (by simp) (by simp) (by omega) (by omega) (by omega)), (slOK_pre rfl (by omega) (by decide) (by rw [Elt.row_len]; simp [eInt])), ⟨rfl, Nat.le_refl _, by decide⟩, ⟨rfl, rfl, rfl, _, _, rfl, by decide, by rw [Elt.row_len]; simp [eInt]⟩, hk, iw, (by decide), (Int.natCast_nonneg _), (show (M.length : Int) ≤ _ by omega), (congrArg (fun z => Value.bool (fits (tot z))) (fullTake M)), (congrArg (fun z => Value.int .i64 (told (tot z))) (fullTake M)), (plain1 (Elt.row_pl _)), (rowM (by simp [Elt.list_len])), (fullI hM), (by omega), slF, (plain1 (Elt.row_pl _)), (rowN rfl), (by omega), rfl, trivial⟩
        · have f0 : fits (a - b) = false := fits_no hs
          have f1 : told (a - b) = 0 := told_no hs
          exact fxe0 (fun n => n + 80) a b w M (eInt.row M) (told (tot M)) (told (a + b)) 0 (told (0 + b)) (fits (tot M)) (fits (a + b)) (fits (0 + b)) hE ⟨⟨rfl, rfl⟩, (plain2 (Elt.row_pl _) (Elt.row_pl _)), (fullRow M), (rowN rfl), (show M.length + 80 ≤ _ by omega), (Nat.le_refl _), (show M.length + 80 ≤ _ by omega), (fullList M), (fun x hx => by simp at hx), rfl, (congrArg _ (bne_self_eq_false _)), (congrArg _ (bne_self_eq_false _)), (congrArg _ (bne_self_eq_false _)), (congrArg _ (bne_self_eq_false _)), rfl, rfl, ⟨by decide, by decide⟩, ib, (congrArg _ f0), (congrArg _ f1), ia, ib, (congrArg (fun z => Value.bool (fits z)) two), (congrArg (fun z => Value.int .i64 (told z)) two), (plain1 (cs := eInt.row [a, b]) (Elt.row_pl _)), (rowN (e := eInt) (L := [a, b]) rfl), itwo, (by decide), rfl, rfl, ia, ib, (congrArg (fun z => Value.bool (fits z)) (listT hTl hTt)), (congrArg (fun z => Value.int .i64 (told z)) (listT hTl hTt)), (plain1 (Elt.row_pl _)), (rowN hTl), (listI hTl hTI), (by omega), (appG (L := []) (M := M) (Or.inr ⟨rfl, rfl, rfl⟩) rfl (k := 0) rfl (by omega) (by simp) (by simp) (by omega) (by omega) (by omega)), (slOK_pre rfl (by omega) (by decide) (by rw [Elt.row_len]; simp [eInt])), ⟨rfl, Nat.le_refl _, by decide⟩, ⟨rfl, rfl, rfl, _, _, rfl, by decide, by rw [Elt.row_len]; simp [eInt]⟩, hk, iw, (by decide), (Int.natCast_nonneg _), (show (M.length : Int) ≤ _ by omega), (congrArg (fun z => Value.bool (fits (tot z))) (fullTake M)), (congrArg (fun z => Value.int .i64 (told (tot z))) (fullTake M)), (plain1 (Elt.row_pl _)), (rowM (by simp [Elt.list_len])), (fullI hM), (by omega), slF, (plain1 (Elt.row_pl _)), (rowN rfl), (by omega), rfl, trivial⟩
      · have e1 : (M.drop k).take (M.length - k) = M.drop k := List.take_of_length_le (by simp)
        have hTl : 0 + (M.length - k) + k = (M.drop k ++ M.take k).length := by simp; omega
        have hTI : ∀ z ∈ M.drop k ++ M.take k, I64 z := fun z hz => by
          rcases List.mem_append.1 hz with h | h
          · exact hM z (List.mem_of_mem_drop h)
          · exact hM z (List.mem_of_mem_take h)
        have hTt : tot (M.drop k ++ M.take k) = tot M := by
          have := congrArg tot (List.take_append_drop k M)
          rw [tot_app] at this
          rw [tot_app]; omega
        by_cases hs : -9223372036854775808 ≤ a - b ∧ a - b ≤ 9223372036854775807
        · have f0 : fits (a - b) = true := fits_yes hs.1 hs.2
          have f1 : told (a - b) = a - b := told_yes hs.1 hs.2
          have f2 : fits (a - b + b) = true := fits_yes (by omega) (by omega)
          have f3 : told (a - b + b) = a := by rw [told_yes (by omega) (by omega)]; omega
          have id : I64 (a - b) := hs
          exact fxm1 (fun n => n + 80) a b w M (eInt.row (M.drop k)) (eInt.row (M.drop k ++ M.take k)) k (k * eInt.s) (M.length - k) (mk + k) (told (tot M)) (told (a + b)) (a - b) 0 (fits (tot M)) (fits (a + b)) true hE ⟨⟨rfl, rfl⟩, (plain2 (Elt.row_pl _) (Elt.row_pl _)), (fullRow M), (rowN rfl), (show M.length + 80 ≤ _ by omega), (Nat.le_refl _), (show M.length + 80 ≤ _ by omega), (fullList M), (fun x hx => by simp at hx), (congrArg _ (bne_self_eq_false _)), (congrArg _ (bne_self_eq_false _)), (congrArg _ (bne_self_eq_false _)), (congrArg _ (bne_self_eq_false _)), (congrArg _ (bne_self_eq_false _)), (congrArg _ f2), (congrArg _ f3), id, ib, (congrArg _ f0), (congrArg _ f1), ia, ib, (congrArg (fun z => Value.bool (fits z)) two), (congrArg (fun z => Value.int .i64 (told z)) two), (plain1 (cs := eInt.row [a, b]) (Elt.row_pl _)), (rowN (e := eInt) (L := [a, b]) rfl), itwo, (by decide), rfl, rfl, ia, ib, (congrArg (fun z => Value.bool (fits z)) (listT hTl hTt)), (congrArg (fun z => Value.int .i64 (told z)) (listT hTl hTt)), (plain1 (Elt.row_pl _)), (rowN hTl), (listI hTl hTI), (by omega), (appG (L := M.drop k) (M := M) (Or.inl ⟨rfl, rfl⟩) rfl (k := 0) rfl (by omega) (by simp) (congrArg eInt.row (by rw [Nat.zero_add, e1, List.drop_zero])) (by omega) (by omega) (by omega)), (slOK_pre rfl (by omega) (by decide) (by rw [Elt.row_len]; simp [eInt])), (appG (L := []) (M := M) (Or.inr ⟨rfl, rfl, rfl⟩) rfl (k := k) rfl (by omega) (by simp) (congrArg eInt.row (by rw [e1]; rfl)) (by omega) (by omega) (by omega)), (slK (e := eInt) (h := k) rfl (by omega) (by omega) rfl (by show k * 1 = 0 + k * 1; omega) rfl (by decide)), hk, iw, (by decide), (Int.natCast_nonneg _), (show (M.length : Int) ≤ _ by omega), (congrArg (fun z => Value.bool (fits (tot z))) (fullTake M)), (congrArg (fun z => Value.int .i64 (told (tot z))) (fullTake M)), (plain1 (Elt.row_pl _)), (rowM (by simp [Elt.list_len])), (fullI hM), (by omega), slF, (plain1 (Elt.row_pl _)), (rowN rfl), (by omega), rfl, trivial⟩
        · have f0 : fits (a - b) = false := fits_no hs
          have f1 : told (a - b) = 0 := told_no hs
          exact fxm0 (fun n => n + 80) a b w M (eInt.row (M.drop k)) (eInt.row (M.drop k ++ M.take k)) k (k * eInt.s) (M.length - k) (mk + k) (told (tot M)) (told (a + b)) 0 (told (0 + b)) (fits (tot M)) (fits (a + b)) (fits (0 + b)) hE ⟨⟨rfl, rfl⟩, (plain2 (Elt.row_pl _) (Elt.row_pl _)), (fullRow M), (rowN rfl), (show M.length + 80 ≤ _ by omega), (Nat.le_refl _), (show M.length + 80 ≤ _ by omega), (fullList M), (fun x hx => by simp at hx), rfl, (congrArg _ (bne_self_eq_false _)), (congrArg _ (bne_self_eq_false _)), (congrArg _ (bne_self_eq_false _)), (congrArg _ (bne_self_eq_false _)), rfl, rfl, ⟨by decide, by decide⟩, ib, (congrArg _ f0), (congrArg _ f1), ia, ib, (congrArg (fun z => Value.bool (fits z)) two), (congrArg (fun z => Value.int .i64 (told z)) two), (plain1 (cs := eInt.row [a, b]) (Elt.row_pl _)), (rowN (e := eInt) (L := [a, b]) rfl), itwo, (by decide), rfl, rfl, ia, ib, (congrArg (fun z => Value.bool (fits z)) (listT hTl hTt)), (congrArg (fun z => Value.int .i64 (told z)) (listT hTl hTt)), (plain1 (Elt.row_pl _)), (rowN hTl), (listI hTl hTI), (by omega), (appG (L := M.drop k) (M := M) (Or.inl ⟨rfl, rfl⟩) rfl (k := 0) rfl (by omega) (by simp) (congrArg eInt.row (by rw [Nat.zero_add, e1, List.drop_zero])) (by omega) (by omega) (by omega)), (slOK_pre rfl (by omega) (by decide) (by rw [Elt.row_len]; simp [eInt])), (appG (L := []) (M := M) (Or.inr ⟨rfl, rfl, rfl⟩) rfl (k := k) rfl (by omega) (by simp) (congrArg eInt.row (by rw [e1]; rfl)) (by omega) (by omega) (by omega)), (slK (e := eInt) (h := k) rfl (by omega) (by omega) rfl (by show k * 1 = 0 + k * 1; omega) rfl (by decide)), hk, iw, (by decide), (Int.natCast_nonneg _), (show (M.length : Int) ≤ _ by omega), (congrArg (fun z => Value.bool (fits (tot z))) (fullTake M)), (congrArg (fun z => Value.int .i64 (told (tot z))) (fullTake M)), (plain1 (Elt.row_pl _)), (rowM (by simp [Elt.list_len])), (fullI hM), (by omega), slF, (plain1 (Elt.row_pl _)), (rowN rfl), (by omega), rfl, trivial⟩
end Go.Proofs.Ytmgkmekknhggbaa.Fs


/-
  The row of the law copselaw5.BoxSet: for every input the call returns true, and each argument reads afterwards as it read before. No condition beside the form's own.
-/
import Derived.Test.YtdeedabhgfmgjaaRows
import Derived.WalkKit
import Derived.ProofKit
import Derived.OpenShut
import Derived.ShutString
import Derived.ChangeOld
import Derived.Below
import Derived.SizedLaws
import Derived.Test.YtdeedabhgfmgjaaBoxSetP2
set_option linter.unusedVariables false
set_option linter.unusedSimpArgs false
set_option maxRecDepth 100000
namespace Go.Proofs.Ytdeedabhgfmgjaa.WkBoxSet
open Go Go.RowKit Go.Proofs.Ytdeedabhgfmgjaa.Ev Go.Proofs.Ytdeedabhgfmgjaa.Bs Go.Proofs.Ytdeedabhgfmgjaa.Within Go.Proofs.Ytdeedabhgfmgjaa.OpenBx

theorem rd_int {r : List Int} {i : Nat} {x : Int} (h : r[i]? = some x) : readPart Try.prog 3 (eInt.row r) (0 + (Int.ofNat i).toNat * 1) = some (.int .i64 x) := by
  have := (Elt.canon0 (e := eInt) r).1.read1 (P := Try.prog) (ty := 3) (by kernel_rfl) rfl (i := i) (x := x) (by rw [(Elt.canon0 r).2]; exact h) rfl rfl
  rw [show 0 + (Int.ofNat i).toNat * 1 = 0 + i by show 0 + i * 1 = 0 + i; omega]
  exact this
theorem put_mem {b : Bx} {n : Int} {c : Nat} : ∀ {l : List EB} {e : EB}, e ∈ putB b n c l → e ∈ l ∨ e.n = n
  | [], e, h => by simp [putB] at h; subst h; exact Or.inr rfl
  | x :: l, e, h => by
    simp only [putB] at h
    split at h
    · rcases List.mem_cons.1 h with rfl | h
      · exact Or.inr rfl
      · exact Or.inl (List.mem_cons_of_mem _ h)
    · rcases List.mem_cons.1 h with rfl | h
      · exact Or.inl (List.mem_cons_self ..)
      · rcases put_mem h with h | h
        · exact Or.inl (List.mem_cons_of_mem _ h)
        · exact Or.inr h
theorem put_ne (b : Bx) (n : Int) (c : Nat) : ∀ l : List EB, putB b n c l ≠ []
  | [] => by simp [putB]
  | x :: l => by simp only [putB]; split <;> simp
theorem get_rng {b : Bx} {m : Int} (hm : 0 ≤ m) : ∀ {l : List EB}, (∀ e ∈ l, 1 ≤ e.n ∧ e.n ≤ m) → 0 ≤ getK b l ∧ getK b l ≤ m
  | [], _ => by simp [getK]; exact hm
  | e :: l, h => by
    have := h e (List.mem_cons_self ..)
    simp only [getK]
    split
    · omega
    · exact get_rng hm fun y hy => h y (List.mem_cons_of_mem _ hy)
theorem keq_no {x y : Bx} : keyEq (.agg ⟨x.cs⟩) (.agg ⟨y.cs⟩) = decide (x = y) := keyEq_kB x y
/-- Along the counted boxes. -/
theorem along {E : Env} (hE : EnvOK E Try.prog Try.f13 2 2 (.bool true) [] []) {l : List EB} {c : Nat} {x : Bx} {n : Int} (ok : OKB l c) (hall : ∀ y ∈ l, y.n < n ∨ (y.n = n ∧ lAhead y.b x = false)) : ∀ zz, (zz.Nodup ∧ ∀ y ∈ zz, y ∈ l.map (·.s)) → Sat E (atLp (lp Try.f13 2)) ((bs3 l c x n (fun seen => seen.Nodup ∧ ∀ y ∈ seen, y ∈ l.map (·.s))).st 0 zz) := by
  intro zz hz
  generalize hQ : (fun seen : List Nat => seen.Nodup ∧ ∀ y ∈ seen, y ∈ l.map (·.s)) = Q
  have hQi : ∀ z, Q z ↔ (z.Nodup ∧ ∀ y ∈ z, y ∈ l.map (·.s)) := fun z => by rw [← hQ]
  have okL := bs3_ok l c x n Q
  have rnm : ∀ (f : Nat → Nat) (es : List Ent) (c : Nat), Blk.rnB f (.map L10 true (some .i64) es c) = .map L10 true (some .i64) es c := fun f es c => rfl
  have rnv : ∀ (f : Nat → Nat) (l : List Bx), Blk.rnB f (.vec (eBox.row l) 25 10) = .vec (eBox.row l) 25 10 := fun f l => Blk.plain.rnB (b := .vec (eBox.row l) 25 10) (Elt.row_pl _) f
  have rno : ∀ (f : Nat → Nat) (l : List Int), Blk.rnB f (.ro (eInt.row l)) = .ro (eInt.row l) := fun f l => Blk.plain.rnB (b := .ro (eInt.row l)) (Elt.row_pl _) f
  have rnx : ∀ (f : Nat → Nat) (l : List Bx), Blk.rnB f (.ro (eBox.row l)) = .ro (eBox.row l) := fun f l => Blk.plain.rnB (b := .ro (eBox.row l)) (Elt.row_pl _) f
  have rnb : ∀ (f : Nat → Nat) (x : Bx), Blk.rnB f (.cells x.cs 25) = .cells [.int .i64 x.a0, .int .i64 x.b0, .int .i64 x.a1, .int .i64 x.b1, .int .i64 x.a2, .int .i64 x.b2, .int .i64 x.a3, .int .i64 x.b3, .int .i64 x.a4, .int .i64 x.b4] 25 := fun f x => rfl
  have rni : ∀ (f : Nat → Nat) (k s : Nat) (x : List Nat) (c : Nat), Blk.rnB f (.it k s x c) = .it (f k) s x c := fun f k s x c => rfl
  refine by_loop (bs3 l c x n Q) (lp Try.f13 2) ?_ 0 zz ((hQi _).2 hz)
  rintro z seen hinv J hJ
  obtain ⟨q1, q2⟩ := (hQi _).1 hinv
  show Sat E (inLp (lp Try.f13 2) J) ((bs3 l c x n Q).st 0 seen)
  have hEn : 110 < E.n := by rw [hE.n]; decide
  refine sat_nextB (tx := 108) (t0 := 109) (t1 := 110) (j := 16) (k := 11) (since := c) (c := c) (clock := c) (seen := seen) (lay := L10) (agg := true) (ek := some .i64) (es := esB l) (by kernel_rfl) (by omega) hEn (by kernel_rfl) (by kernel_rfl) (by kernel_rfl) (fun e he => ?_) (Nat.le_refl _) (fun _ => ?_) (fun e he hne => ?_)
  · obtain ⟨y, hy, rfl⟩ := List.mem_map.1 he
    exact ok.clock y hy
  · exact bs3X l c x n Q seen J hE ⟨⟨rfl, rfl⟩, trivial⟩
  · obtain ⟨y, hy, rfl⟩ := List.mem_map.1 he
    have hne : y.s ∉ seen := hne
    obtain ⟨b, k, s⟩ := y
    have hnd : (seen ++ [s]).Nodup := by
      rw [List.nodup_append]
      exact ⟨q1, by simp, fun a ha b hb => by simp at hb; subst hb; intro e; subst e; exact hne ha⟩
    have hsub : ∀ y ∈ seen ++ [s], y ∈ l.map (·.s) := fun y hy' => by
      rcases List.mem_append.1 hy' with h | h
      · exact q2 y h
      · simp at h; subst h; exact List.mem_map.2 ⟨_, hy, rfl⟩
    have hcnt := nodup_len hnd hsub
    rw [List.length_append, List.length_map] at hcnt
    have hcnt : seen.length + 1 ≤ l.length := hcnt
    have hmu : l.length - (seen ++ [s]).length < l.length - seen.length := by rw [List.length_append]; simp only [List.length_cons, List.length_nil]; omega
    have hfd : EntryOK (esB l) (seen ++ [s]) c c (.tuple ⟨[kB b, .int .i64 k]⟩) := ⟨rfl, EB.ent ⟨b, k, s⟩, by simp [EB.ent], find_stamp ok.borns hy, rfl⟩
    have hJ' : ∀ zz, Q zz → ltO (l.length - zz.length) (some (l.length - seen.length)) → Sat E (mkLp (lp Try.f13 2) J) ((bs3 l c x n Q).st 0 zz) := fun zz h1 h2 => hJ 0 zz h1 h2
    have hent : Enter (bs3 l c x n Q) 0 (some (l.length - seen.length)) [.pointer (some ⟨15, 0, none⟩), .int .i64 n, .pointer (some ⟨16, 0, none⟩)] [.map L10 true (some .i64) (esB l) c, .cells [.int .i64 x.a0, .int .i64 x.b0, .int .i64 x.a1, .int .i64 x.b1, .int .i64 x.a2, .int .i64 x.b2, .int .i64 x.a3, .int .i64 x.b3, .int .i64 x.a4, .int .i64 x.b4] 25, .it 11 c (seen ++ [s]) c] [(15, 15), (16, 16)] := ⟨seen ++ [s], (hQi _).2 ⟨hnd, hsub⟩, hmu, rfl, by simp only [bs3, List.map_cons, List.map_nil, rnm, rnb, rni]; rfl⟩
    have hy' := hall _ hy
    have hy' : k < n ∨ (k = n ∧ lAhead b x = false) := hy'
    have hgf : Value.bool (decide (k > n)) = .bool false := congrArg Value.bool (decide_eq_false (by omega))
    by_cases hq : k = n
    · have ha : lAhead b x = false := by rcases hy' with h | h; omega; exact h.2
      have hqt : Value.bool (k == n) = .bool true := congrArg Value.bool (by simpa using hq)
      by_cases hbx : b = x
      · exact bs3B l c x n Q seen b k s J hE okL ⟨rfl, hent, (by show Value.bool (!keyEq (.agg ⟨b.cs⟩) (.agg ⟨x.cs⟩)) = _; rw [keq_no, decide_eq_true hbx]; rfl), hqt, hgf, hfd, trivial⟩ hJ'
      · exact bs3C l c x n Q seen b k s J hE okL ⟨rfl, hent, (congrArg Value.bool ha), (by show Value.bool (!keyEq (.agg ⟨b.cs⟩) (.agg ⟨x.cs⟩)) = _; rw [keq_no, decide_eq_false hbx]; rfl), hqt, hgf, hfd, trivial⟩ hJ'
    · have hqf : Value.bool (k == n) = .bool false := congrArg Value.bool (by simpa using hq)
      exact bs3A l c x n Q seen b k s J hE okL ⟨rfl, hent, hqf, hgf, hfd, trivial⟩ hJ'
def Q2 (tn : Nat) : B2 → Prop := fun s => s.i ≤ 30 ∧ s.i ≤ tn ∧ OKB s.l s.c ∧ (∀ e ∈ s.l, 1 ≤ e.n ∧ e.n ≤ (s.i : Int)) ∧ (s.i = 0 ∧ s.l = [] ∨ s.l ≠ [])
theorem count {E : Env} (hE : EnvOK E Try.prog Try.f13 2 2 (.bool true) [] []) {ow : List Bx} {k : Nat} (hk : k = ow.length) (hk1 : 1 ≤ k) (hk15 : k ≤ 15) {ts : List Int} {tn tc : Nat} (ht : tn = ts.length) (hgt : ∀ x ∈ ts, I64 x) : ∀ zz, Q2 tn zz → Sat E (atLp (lp Try.f13 1)) ((bs2 ow k ts tn tc (Q2 tn)).st 0 zz) := by
  intro zz hz
  have okL := bs2_ok ow k ts tn tc (Q2 tn)
  have rnm : ∀ (f : Nat → Nat) (es : List Ent) (c : Nat), Blk.rnB f (.map L10 true (some .i64) es c) = .map L10 true (some .i64) es c := fun f es c => rfl
  have rnv : ∀ (f : Nat → Nat) (l : List Bx), Blk.rnB f (.vec (eBox.row l) 25 10) = .vec (eBox.row l) 25 10 := fun f l => Blk.plain.rnB (b := .vec (eBox.row l) 25 10) (Elt.row_pl _) f
  have rno : ∀ (f : Nat → Nat) (l : List Int), Blk.rnB f (.ro (eInt.row l)) = .ro (eInt.row l) := fun f l => Blk.plain.rnB (b := .ro (eInt.row l)) (Elt.row_pl _) f
  have rnx : ∀ (f : Nat → Nat) (l : List Bx), Blk.rnB f (.ro (eBox.row l)) = .ro (eBox.row l) := fun f l => Blk.plain.rnB (b := .ro (eBox.row l)) (Elt.row_pl _) f
  have rnb : ∀ (f : Nat → Nat) (x : Bx), Blk.rnB f (.cells x.cs 25) = .cells [.int .i64 x.a0, .int .i64 x.b0, .int .i64 x.a1, .int .i64 x.b1, .int .i64 x.a2, .int .i64 x.b2, .int .i64 x.a3, .int .i64 x.b3, .int .i64 x.a4, .int .i64 x.b4] 25 := fun f x => rfl
  have rni : ∀ (f : Nat → Nat) (k s : Nat) (x : List Nat) (c : Nat), Blk.rnB f (.it k s x c) = .it (f k) s x c := fun f k s x c => rfl
  refine by_loop (bs2 ow k ts tn tc (Q2 tn)) (lp Try.f13 1) ?_ 0 zz hz
  rintro z ⟨i, l, c⟩ hinv J hJ
  have hinv : i ≤ 30 ∧ i ≤ tn ∧ OKB l c ∧ (∀ e ∈ l, 1 ≤ e.n ∧ e.n ≤ (i : Int)) ∧ (i = 0 ∧ l = [] ∨ l ≠ []) := hinv
  obtain ⟨k1, k2, ok, kn, k3⟩ := hinv
  show Sat E (inLp (lp Try.f13 1) J) ((bs2 ow k ts tn tc (Q2 tn)).st 0 ⟨i, l, c⟩)
  have hpos : ∀ e ∈ l, 1 ≤ e.n := fun e he => (kn e he).1
  obtain ⟨bx, nn, hlg⟩ := lg_is l hpos
  have fin : l ≠ [] → ∃ e ∈ l, e.b = bx ∧ e.n = nn ∧ ∀ y ∈ l, y.n < nn ∨ (y.n = nn ∧ lAhead y.b bx = false) := fun h => by
    rcases hlg with ⟨h0, _, _⟩ | h1
    · exact absurd h0 h
    · exact h1
  have hlen : l ≠ [] → Value.bool (Int.ofNat (esB l).length == 0) = .bool false := fun h => congrArg Value.bool (by
    unfold esB
    rw [List.length_map]
    cases l with
    | nil => exact absurd rfl h
    | cons _ _ => simp; omega)
  by_cases hin : i < tn
  · have b1 : Value.bool (decide ((i : Int) < (tn : Int))) = .bool true := congrArg _ (decide_eq_true (by omega))
    by_cases h30 : i < 30
    · have b2 : Value.bool (decide ((i : Int) < 30)) = .bool true := congrArg _ (decide_eq_true (by omega))
      have b3 : Value.bool (decide ((k : Int) > 0)) = .bool true := congrArg _ (decide_eq_true (by omega))
      obtain ⟨tv, htv⟩ : ∃ tv, ts[i]? = some tv := ⟨_, List.getElem?_eq_getElem (by omega)⟩
      have hjr := within_range tv (show (0 : Int) ≤ (k : Int) - 1 by omega)
      obtain ⟨j, hj⟩ := Int.eq_ofNat_of_zero_le hjr.1
      have hjk : j < k := by omega
      obtain ⟨y, hy⟩ : ∃ y, ow[j]? = some y := ⟨_, List.getElem?_eq_getElem (by omega)⟩
      have hg := get_rng (b := y) (m := (i : Int)) (by omega) kn
      have hm := okB_map ok
      have hkf : keyFits L10 true (kB y) = true := rfl
      have hput : mput (kB y) (.int .i64 (getK y l + 1)) c (esB l) = esB (putB y (getK y l + 1) c l) := mput_esB _ _ _ _
      have hadd : SpanE.add1 (kB y) (esB l) c = esB (putB y (getK y l + 1) c l) := by
        show mput (kB y) (.int .i64 (mgetI (kB y) (esB l) + 1)) c (esB l) = _
        rw [mget_esB, hput]
      have hQn : Q2 tn ⟨i + 1, putB y (getK y l + 1) c l, bif hasK y l then c else c + 1⟩ := ⟨h30, hin, okB_put ok _ _, fun e he => by
        rcases put_mem he with h | h
        · have := kn e h; show 1 ≤ e.n ∧ e.n ≤ ((i + 1 : Nat) : Int); omega
        · show 1 ≤ e.n ∧ e.n ≤ ((i + 1 : Nat) : Int); omega, Or.inr (put_ne _ _ _ _)⟩
      exact bsA ow k ts tn tc (Q2 tn) i l c (putB y (getK y l + 1) c l) tv (getK y l) j y J hE okL ⟨rfl, ⟨⟨i + 1, putB y (getK y l + 1) c l, bif hasK y l then c else c + 1⟩, hQn, (by show 30 - (i + 1) < 30 - i; omega), rfl, (by
          simp only [bs2, List.map_cons, List.map_nil, rnm, rno, rnv]
          show [Blk.ro (eInt.row ts), Blk.map L10 true (some .i64) (SpanE.add1 (kB y) (esB l) c) (bif mhas (kB y) (esB l) then c else c + 1), Blk.map L10 true (some .i64) (esB (putB y (getK y l + 1) c l)) (bif mhas (kB y) (esB l) then c else c + 1), _] = _
          rw [hadd, mhas_esB])⟩, i64_succ (by omega), (congrArg Value.bool (by
          show (Int.ofNat (SpanE.add1 (kB y) (esB l) c).length != Int.ofNat (esB (putB y (getK y l + 1) c l)).length) = false
          rw [hadd]; simp)), (congrArg Value.bool (by simp)), (congrArg (Value.int .i64) ((mget_esB y _).trans (by rw [getK_put, if_pos rfl]))), (congrArg (Value.int .i64) (by show mgetI (kB y) (esB l) + 1 = _; rw [mget_esB])), (by
          show I64 (mgetI (kB y) (esB l) + 1)
          rw [mget_esB]; unfold I64; omega), (congrArg (fun z => some (Value.int .i64 z)) (mgetI_ens (esB l))), mborn_ens hkf (esB l), ((mset_ens (esB l) hm.borns hm.clock).trans hput), i64_id rfl (by omega) (by omega), (congrArg (Value.int .i64) (mget_esB _ _)), read_row (e := eBox) (by kernel_rfl) (by kernel_rfl) hy, ⟨Int.natCast_nonneg _, Int.ofNat_lt.2 hjk⟩, (congrArg (Value.int .i64) hj), hgt tv (List.mem_of_getElem? htv), by decide, (by omega), (by omega), i64_id rfl (by omega) (by omega), rd_int htv, ⟨Int.natCast_nonneg _, Int.ofNat_lt.2 hin⟩, b3, b2, b1, trivial⟩ fun zz h1 h2 => hJ 0 zz h1 h2
    · have b2 : Value.bool (decide ((i : Int) < 30)) = .bool false := congrArg _ (decide_eq_false (by omega))
      have hne : l ≠ [] := by rcases k3 with ⟨h, _⟩ | h; omega; exact h
      obtain ⟨e, he, rfl, rfl, hall⟩ := fin hne
      exact bsYb ow k ts tn tc (Q2 tn) i l c e.b e.n (fun seen : List Nat => seen.Nodup ∧ ∀ y ∈ seen, y ∈ l.map (fun e : EB => e.s)) J hE (bs3_ok _ _ _ _ _) ⟨rfl, ⟨[], ⟨List.nodup_nil, fun y hy => by simp at hy⟩, trivial, rfl, by simp only [bs3, List.map_cons, List.map_nil, rnm, rnb, rni]; rfl⟩, (congrArg Value.bool (decide_eq_false (by have := hpos e he; omega))), (congrArg Value.bool (by simp)), (congrArg (Value.int .i64) ((mget_esB _ _).trans (getK_mem ok he).1)), hlen hne, trivial, rfl, rfl, ok, hlg, hpos, b2, b1, trivial⟩ fun zz hz _ => along hE ok hall zz hz
  · have b1 : Value.bool (decide ((i : Int) < (tn : Int))) = .bool false := congrArg _ (decide_eq_false (by omega))
    by_cases hne : l = []
    · subst hne
      rcases hlg with ⟨_, rfl, rfl⟩ | ⟨e, he, _⟩
      · exact bsZ ow k ts tn tc (Q2 tn) i [] c _ _ J hE ⟨⟨rfl, rfl⟩, rfl, rfl, rfl, trivial, rfl, rfl, ok, Or.inl ⟨rfl, rfl, rfl⟩, hpos, b1, trivial⟩
      · simp at he
    · obtain ⟨e, he, rfl, rfl, hall⟩ := fin hne
      exact bsYa ow k ts tn tc (Q2 tn) i l c e.b e.n (fun seen : List Nat => seen.Nodup ∧ ∀ y ∈ seen, y ∈ l.map (fun e : EB => e.s)) J hE (bs3_ok _ _ _ _ _) ⟨rfl, ⟨[], ⟨List.nodup_nil, fun y hy => by simp at hy⟩, trivial, rfl, by simp only [bs3, List.map_cons, List.map_nil, rnm, rnb, rni]; rfl⟩, (congrArg Value.bool (decide_eq_false (by have := hpos e he; omega))), (congrArg Value.bool (by simp)), (congrArg (Value.int .i64) ((mget_esB _ _).trans (getK_mem ok he).1)), hlen hne, trivial, rfl, rfl, ok, hlg, hpos, b1, trivial⟩ fun zz hz _ => along hE ok hall zz hz

theorem gathernil {E : Env} (hE : EnvOK E Try.prog Try.f13 2 2 (.bool true) [] []) {L : List Bx} {c : Nat} {ts : List Int} {tn tc : Nat} : ∀ b zz, (zz.i ≤ 15 ∧ zz.i ≤ L.length ∧ zz.ow.length = zz.i ∧ ((b = 0 ∧ zz.ow = []) ∨ (b = 1 ∧ zz.ow ≠ []))) → Sat E (atLp (lp Try.f13 0)) ((bs1 L L.length c ts tn tc (fun b zz => zz.i ≤ 15 ∧ zz.i ≤ L.length ∧ zz.ow.length = zz.i ∧ ((b = 0 ∧ zz.ow = []) ∨ (b = 1 ∧ zz.ow ≠ [])))).st b zz) := by
  intro b0 zz0 hz0
  generalize hQ : (fun (b : Nat) (zz : B1) => zz.i ≤ 15 ∧ zz.i ≤ L.length ∧ zz.ow.length = zz.i ∧ ((b = 0 ∧ zz.ow = []) ∨ (b = 1 ∧ zz.ow ≠ []))) = Q
  have hQi : ∀ b zz, Q b zz ↔ (zz.i ≤ 15 ∧ zz.i ≤ L.length ∧ zz.ow.length = zz.i ∧ ((b = 0 ∧ zz.ow = []) ∨ (b = 1 ∧ zz.ow ≠ []))) := fun b zz => by rw [← hQ]
  have okL := bs1_ok L L.length c ts tn tc Q
  have rnm : ∀ (f : Nat → Nat) (es : List Ent) (c : Nat), Blk.rnB f (.map L10 true (some .i64) es c) = .map L10 true (some .i64) es c := fun f es c => rfl
  have rnv : ∀ (f : Nat → Nat) (l : List Bx), Blk.rnB f (.vec (eBox.row l) 25 10) = .vec (eBox.row l) 25 10 := fun f l => Blk.plain.rnB (b := .vec (eBox.row l) 25 10) (Elt.row_pl _) f
  have rno : ∀ (f : Nat → Nat) (l : List Int), Blk.rnB f (.ro (eInt.row l)) = .ro (eInt.row l) := fun f l => Blk.plain.rnB (b := .ro (eInt.row l)) (Elt.row_pl _) f
  have rnx : ∀ (f : Nat → Nat) (l : List Bx), Blk.rnB f (.ro (eBox.row l)) = .ro (eBox.row l) := fun f l => Blk.plain.rnB (b := .ro (eBox.row l)) (Elt.row_pl _) f
  have rnb : ∀ (f : Nat → Nat) (x : Bx), Blk.rnB f (.cells x.cs 25) = .cells [.int .i64 x.a0, .int .i64 x.b0, .int .i64 x.a1, .int .i64 x.b1, .int .i64 x.a2, .int .i64 x.b2, .int .i64 x.a3, .int .i64 x.b3, .int .i64 x.a4, .int .i64 x.b4] 25 := fun f x => rfl
  have rni : ∀ (f : Nat → Nat) (k s : Nat) (x : List Nat) (c : Nat), Blk.rnB f (.it k s x c) = .it (f k) s x c := fun f k s x c => rfl
  refine by_loop (bs1 L L.length c ts tn tc Q) (lp Try.f13 0) ?_ b0 zz0 ((hQi _ _).2 hz0)
  rintro z ⟨i, ow⟩ hinv J hJ
  obtain ⟨k1, k2, k3, k6⟩ := (hQi _ _).1 hinv
  simp only at k1 k2 k3 k6
  by_cases hin : i < L.length
  · have b1 : Value.bool (decide ((i : Int) < (L.length : Int))) = .bool true := congrArg _ (decide_eq_true (by omega))
    by_cases h15 : i < 15
    · have b2 : Value.bool (decide ((i : Int) < 15)) = .bool true := congrArg _ (decide_eq_true (by omega))
      obtain ⟨bo, hbo⟩ : ∃ bo, L[i]? = some bo := ⟨_, List.getElem?_eq_getElem hin⟩
      have hrd := read_row (e := eBox) (P := Try.prog) (ty := 25) (by kernel_rfl) (by kernel_rfl) hbo
      have hmu : 15 - (i + 1) < 15 - i := by omega
      have hQn : ∀ z' ow', ow' = ow → z' = 1 → Q z' ⟨i + 1, ow' ++ [bo]⟩ := fun z' ow' e1 e2 => (hQi _ _).2 ⟨h15, hin, by rw [e1]; simp [k3], Or.inr ⟨e2, by simp⟩⟩
      have hJ' : ∀ z' zz, Q z' zz → ltO (15 - zz.i) (some (15 - i)) → Sat E (mkLp (lp Try.f13 0) J) ((bs1 L L.length c ts tn tc Q).st z' zz) := fun z' zz h1 h2 => hJ z' zz h1 h2
      rcases k6 with ⟨rfl, ko⟩ | ⟨rfl, ko⟩
      · subst ko
        exact bsB0 L L.length c ts tn tc Q i bo ([] ++ [bo]) J hE okL ⟨rfl, ⟨⟨i + 1, [] ++ [bo]⟩, hQn 1 [] rfl rfl, hmu, rfl, by simp only [bs1, List.map_cons, List.map_nil, rnm, rno, rnv, rnx] <;> rfl⟩, i64_succ (by omega), appOK_nil (e := eBox) (new := [bo]) rfl rfl rfl rfl (by decide) (by decide) (by decide), hrd, ⟨Int.natCast_nonneg _, Int.ofNat_lt.2 hin⟩, b2, b1, trivial⟩ (hJ' 1)
      · exact bsB1 L L.length c ts tn tc Q i ow bo (ow ++ [bo]) J hE okL ⟨rfl, ⟨⟨i + 1, ow ++ [bo]⟩, hQn 1 ow rfl rfl, hmu, (by simp [bs1, owV, tuV]; first | rfl | exact ⟨rfl, rfl⟩ | exact ⟨rfl, rfl, rfl⟩ | exact ⟨rfl, rfl, rfl, rfl⟩ | exact ⟨rfl, rfl, rfl, rfl, rfl⟩ | exact ⟨rfl, rfl, rfl, rfl, rfl, rfl⟩), by simp only [bs1, List.map_cons, List.map_nil, rnm, rno, rnv, rnx] <;> rfl⟩, i64_succ (by omega), appOK (e := eBox) (L := ow) (new := [bo]) rfl rfl rfl rfl (Nat.le_refl _) (by simp) (by decide) (by omega) (by omega), hrd, ⟨Int.natCast_nonneg _, Int.ofNat_lt.2 hin⟩, b2, b1, trivial⟩ (hJ' 1)
    · have b2 : Value.bool (decide ((i : Int) < 15)) = .bool false := congrArg _ (decide_eq_false (by omega))
      rcases k6 with ⟨rfl, ko⟩ | ⟨rfl, ko⟩
      · rw [ko] at k3; simp at k3; omega
      · have hp1 : 1 ≤ ow.length := by omega
        exact bsX1b L L.length c ts tn tc Q i ow [] _ _ J hE ⟨⟨rfl, rfl⟩, rfl, rfl, trivial, rfl, rfl, okB_nil, Or.inl ⟨rfl, rfl, rfl⟩, (fun e he => by simp at he), b2, b1, trivial⟩
  · have b1 : Value.bool (decide ((i : Int) < (L.length : Int))) = .bool false := congrArg _ (decide_eq_false (by omega))
    rcases k6 with ⟨rfl, ko⟩ | ⟨rfl, ko⟩
    · subst ko
      exact bsX0a L L.length c ts tn tc Q i [] _ _ J hE ⟨⟨rfl, rfl⟩, rfl, rfl, trivial, rfl, rfl, okB_nil, Or.inl ⟨rfl, rfl, rfl⟩, (fun e he => by simp at he), b1, trivial⟩
    · have hp1 : 1 ≤ ow.length := by cases h : ow with | nil => exact absurd h ko | cons _ _ => simp
      exact bsX1a L L.length c ts tn tc Q i ow [] _ _ J hE ⟨⟨rfl, rfl⟩, rfl, rfl, trivial, rfl, rfl, okB_nil, Or.inl ⟨rfl, rfl, rfl⟩, (fun e he => by simp at he), b1, trivial⟩

theorem gatherrow {E : Env} (hE : EnvOK E Try.prog Try.f13 2 2 (.bool true) [] []) {L : List Bx} {c : Nat} {ts : List Int} {tn tc : Nat} (ht : tn = ts.length) (hgt : ∀ x ∈ ts, I64 x) : ∀ b zz, (zz.i ≤ 15 ∧ zz.i ≤ L.length ∧ zz.ow.length = zz.i ∧ ((b = 2 ∧ zz.ow = []) ∨ (b = 3 ∧ zz.ow ≠ []))) → Sat E (atLp (lp Try.f13 0)) ((bs1 L L.length c ts tn tc (fun b zz => zz.i ≤ 15 ∧ zz.i ≤ L.length ∧ zz.ow.length = zz.i ∧ ((b = 2 ∧ zz.ow = []) ∨ (b = 3 ∧ zz.ow ≠ [])))).st b zz) := by
  intro b0 zz0 hz0
  generalize hQ : (fun (b : Nat) (zz : B1) => zz.i ≤ 15 ∧ zz.i ≤ L.length ∧ zz.ow.length = zz.i ∧ ((b = 2 ∧ zz.ow = []) ∨ (b = 3 ∧ zz.ow ≠ []))) = Q
  have hQi : ∀ b zz, Q b zz ↔ (zz.i ≤ 15 ∧ zz.i ≤ L.length ∧ zz.ow.length = zz.i ∧ ((b = 2 ∧ zz.ow = []) ∨ (b = 3 ∧ zz.ow ≠ []))) := fun b zz => by rw [← hQ]
  have okL := bs1_ok L L.length c ts tn tc Q
  have rnm : ∀ (f : Nat → Nat) (es : List Ent) (c : Nat), Blk.rnB f (.map L10 true (some .i64) es c) = .map L10 true (some .i64) es c := fun f es c => rfl
  have rnv : ∀ (f : Nat → Nat) (l : List Bx), Blk.rnB f (.vec (eBox.row l) 25 10) = .vec (eBox.row l) 25 10 := fun f l => Blk.plain.rnB (b := .vec (eBox.row l) 25 10) (Elt.row_pl _) f
  have rno : ∀ (f : Nat → Nat) (l : List Int), Blk.rnB f (.ro (eInt.row l)) = .ro (eInt.row l) := fun f l => Blk.plain.rnB (b := .ro (eInt.row l)) (Elt.row_pl _) f
  have rnx : ∀ (f : Nat → Nat) (l : List Bx), Blk.rnB f (.ro (eBox.row l)) = .ro (eBox.row l) := fun f l => Blk.plain.rnB (b := .ro (eBox.row l)) (Elt.row_pl _) f
  have rnb : ∀ (f : Nat → Nat) (x : Bx), Blk.rnB f (.cells x.cs 25) = .cells [.int .i64 x.a0, .int .i64 x.b0, .int .i64 x.a1, .int .i64 x.b1, .int .i64 x.a2, .int .i64 x.b2, .int .i64 x.a3, .int .i64 x.b3, .int .i64 x.a4, .int .i64 x.b4] 25 := fun f x => rfl
  have rni : ∀ (f : Nat → Nat) (k s : Nat) (x : List Nat) (c : Nat), Blk.rnB f (.it k s x c) = .it (f k) s x c := fun f k s x c => rfl
  refine by_loop (bs1 L L.length c ts tn tc Q) (lp Try.f13 0) ?_ b0 zz0 ((hQi _ _).2 hz0)
  rintro z ⟨i, ow⟩ hinv J hJ
  obtain ⟨k1, k2, k3, k6⟩ := (hQi _ _).1 hinv
  simp only at k1 k2 k3 k6
  by_cases hin : i < L.length
  · have b1 : Value.bool (decide ((i : Int) < (L.length : Int))) = .bool true := congrArg _ (decide_eq_true (by omega))
    by_cases h15 : i < 15
    · have b2 : Value.bool (decide ((i : Int) < 15)) = .bool true := congrArg _ (decide_eq_true (by omega))
      obtain ⟨bo, hbo⟩ : ∃ bo, L[i]? = some bo := ⟨_, List.getElem?_eq_getElem hin⟩
      have hrd := read_row (e := eBox) (P := Try.prog) (ty := 25) (by kernel_rfl) (by kernel_rfl) hbo
      have hmu : 15 - (i + 1) < 15 - i := by omega
      have hQn : ∀ z' ow', ow' = ow → z' = 3 → Q z' ⟨i + 1, ow' ++ [bo]⟩ := fun z' ow' e1 e2 => (hQi _ _).2 ⟨h15, hin, by rw [e1]; simp [k3], Or.inr ⟨e2, by simp⟩⟩
      have hJ' : ∀ z' zz, Q z' zz → ltO (15 - zz.i) (some (15 - i)) → Sat E (mkLp (lp Try.f13 0) J) ((bs1 L L.length c ts tn tc Q).st z' zz) := fun z' zz h1 h2 => hJ z' zz h1 h2
      rcases k6 with ⟨rfl, ko⟩ | ⟨rfl, ko⟩
      · subst ko
        exact bsB2 L L.length c ts tn tc Q i bo ([] ++ [bo]) J hE okL ⟨rfl, ⟨⟨i + 1, [] ++ [bo]⟩, hQn 3 [] rfl rfl, hmu, rfl, by simp only [bs1, List.map_cons, List.map_nil, rnm, rno, rnv, rnx] <;> rfl⟩, i64_succ (by omega), appOK_nil (e := eBox) (new := [bo]) rfl rfl rfl rfl (by decide) (by decide) (by decide), hrd, ⟨Int.natCast_nonneg _, Int.ofNat_lt.2 hin⟩, b2, b1, trivial⟩ (hJ' 3)
      · exact bsB3 L L.length c ts tn tc Q i ow bo (ow ++ [bo]) J hE okL ⟨rfl, ⟨⟨i + 1, ow ++ [bo]⟩, hQn 3 ow rfl rfl, hmu, (by simp [bs1, owV, tuV]; first | rfl | exact ⟨rfl, rfl⟩ | exact ⟨rfl, rfl, rfl⟩ | exact ⟨rfl, rfl, rfl, rfl⟩ | exact ⟨rfl, rfl, rfl, rfl, rfl⟩ | exact ⟨rfl, rfl, rfl, rfl, rfl, rfl⟩), by simp only [bs1, List.map_cons, List.map_nil, rnm, rno, rnv, rnx] <;> rfl⟩, i64_succ (by omega), appOK (e := eBox) (L := ow) (new := [bo]) rfl rfl rfl rfl (Nat.le_refl _) (by simp) (by decide) (by omega) (by omega), hrd, ⟨Int.natCast_nonneg _, Int.ofNat_lt.2 hin⟩, b2, b1, trivial⟩ (hJ' 3)
    · have b2 : Value.bool (decide ((i : Int) < 15)) = .bool false := congrArg _ (decide_eq_false (by omega))
      rcases k6 with ⟨rfl, ko⟩ | ⟨rfl, ko⟩
      · rw [ko] at k3; simp at k3; omega
      · have hp1 : 1 ≤ ow.length := by omega
        exact bsX3b L L.length c ts tn tc Q i ow.length ow (Q2 tn) J hE (bs2_ok _ _ _ _ _ _) ⟨rfl, ⟨⟨0, [], 0⟩, ⟨Nat.zero_le _, Nat.zero_le _, okB_nil, fun e he => by simp at he, Or.inl ⟨rfl, rfl⟩⟩, trivial, rfl, by simp only [bs2, List.map_cons, List.map_nil, rnm, rno, rnv]; rfl⟩, b2, b1, trivial⟩ fun zz hz _ => count hE rfl hp1 (by omega) ht hgt zz hz
  · have b1 : Value.bool (decide ((i : Int) < (L.length : Int))) = .bool false := congrArg _ (decide_eq_false (by omega))
    rcases k6 with ⟨rfl, ko⟩ | ⟨rfl, ko⟩
    · subst ko
      by_cases h0 : tn = 0
      · exact bsX2aF L L.length c ts tn tc Q i [] _ _ J hE ⟨⟨rfl, rfl⟩, rfl, rfl, trivial, rfl, rfl, okB_nil, Or.inl ⟨rfl, rfl, rfl⟩, (fun e he => by simp at he), (congrArg Value.bool (decide_eq_false (by omega))), b1, trivial⟩
      · exact bsX2aT L L.length c ts tn tc Q i [] _ _ J hE ⟨⟨rfl, rfl⟩, rfl, rfl, trivial, rfl, rfl, okB_nil, Or.inl ⟨rfl, rfl, rfl⟩, (fun e he => by simp at he), (congrArg Value.bool (decide_eq_true (by omega))), b1, trivial⟩
    · have hp1 : 1 ≤ ow.length := by cases h : ow with | nil => exact absurd h ko | cons _ _ => simp
      exact bsX3a L L.length c ts tn tc Q i ow.length ow (Q2 tn) J hE (bs2_ok _ _ _ _ _ _) ⟨rfl, ⟨⟨0, [], 0⟩, ⟨Nat.zero_le _, Nat.zero_le _, okB_nil, fun e he => by simp at he, Or.inl ⟨rfl, rfl⟩⟩, trivial, rfl, by simp only [bs2, List.map_cons, List.map_nil, rnm, rno, rnv]; rfl⟩, b1, trivial⟩ fun zz hz _ => count hE rfl hp1 (by omega) ht hgt zz hz

theorem spec {u0 u1 : Value} {x0 x1 : Option (List Value)} (c0 : CanAt eBox BxOK 0 u0 x0) (c1 : CanAt eInt I64 1 u1 x1) :
    CallSpec Try.prog 13 [u0, u1] (rowsL [x0, x1]) 2 (.bool true) (assocN [] []) := by
  refine spec_of_sat Try.func13 rfl fun E hE => ?_
  have rnm : ∀ (f : Nat → Nat) (es : List Ent) (c : Nat), Blk.rnB f (.map L10 true (some .i64) es c) = .map L10 true (some .i64) es c := fun f es c => rfl
  have rnv : ∀ (f : Nat → Nat) (l : List Bx), Blk.rnB f (.vec (eBox.row l) 25 10) = .vec (eBox.row l) 25 10 := fun f l => Blk.plain.rnB (b := .vec (eBox.row l) 25 10) (Elt.row_pl _) f
  have rno : ∀ (f : Nat → Nat) (l : List Int), Blk.rnB f (.ro (eInt.row l)) = .ro (eInt.row l) := fun f l => Blk.plain.rnB (b := .ro (eInt.row l)) (Elt.row_pl _) f
  have rnx : ∀ (f : Nat → Nat) (l : List Bx), Blk.rnB f (.ro (eBox.row l)) = .ro (eBox.row l) := fun f l => Blk.plain.rnB (b := .ro (eBox.row l)) (Elt.row_pl _) f
  have rnb : ∀ (f : Nat → Nat) (x : Bx), Blk.rnB f (.cells x.cs 25) = .cells [.int .i64 x.a0, .int .i64 x.b0, .int .i64 x.a1, .int .i64 x.b1, .int .i64 x.a2, .int .i64 x.b2, .int .i64 x.a3, .int .i64 x.b3, .int .i64 x.a4, .int .i64 x.b4] 25 := fun f x => rfl
  have rni : ∀ (f : Nat → Nat) (k s : Nat) (x : List Nat) (c : Nat), Blk.rnB f (.it k s x c) = .it (f k) s x c := fun f k s x c => rfl
  rcases c0 with ⟨rfl, rfl⟩ | ⟨L, c, rfl, rfl, hlc, hcm, hg⟩
  · rcases c1 with ⟨rfl, rfl⟩ | ⟨ts, tc, rfl, rfl, htc, htm, hgt⟩
    · exact bs0N () [] _ _ hE ⟨⟨rfl, rfl⟩, rfl, rfl, trivial, rfl, rfl, okB_nil, Or.inl ⟨rfl, rfl, rfl⟩, (fun e he => by simp at he), trivial⟩
    · by_cases h0 : ts.length = 0
      · exact bs0F ts ts.length tc [] _ _ hE ⟨⟨rfl, rfl⟩, rfl, rfl, trivial, rfl, rfl, okB_nil, Or.inl ⟨rfl, rfl, rfl⟩, (fun e he => by simp at he), (congrArg Value.bool (decide_eq_false (by omega))), trivial⟩
      · exact bs0T ts ts.length tc [] _ _ hE ⟨⟨rfl, rfl⟩, rfl, rfl, trivial, rfl, rfl, okB_nil, Or.inl ⟨rfl, rfl, rfl⟩, (fun e he => by simp at he), (congrArg Value.bool (decide_eq_true (by omega))), trivial⟩
  · rcases c1 with ⟨rfl, rfl⟩ | ⟨ts, tc, rfl, rfl, htc, htm, hgt⟩
    · exact bsI0 L L.length c [] 0 0 (fun b zz => zz.i ≤ 15 ∧ zz.i ≤ L.length ∧ zz.ow.length = zz.i ∧ ((b = 0 ∧ zz.ow = []) ∨ (b = 1 ∧ zz.ow ≠ []))) hE (bs1_ok _ _ _ _ _ _ _) ⟨rfl, ⟨⟨0, []⟩, ⟨Nat.zero_le _, Nat.zero_le _, rfl, Or.inl ⟨rfl, rfl⟩⟩, trivial, rfl, by simp only [bs1, List.map_cons, List.map_nil, rnm, rno, rnv, rnx]; rfl⟩, trivial⟩ fun zz hz _ => gathernil hE 0 zz hz
    · exact bsI2 L L.length c ts ts.length tc (fun b zz => zz.i ≤ 15 ∧ zz.i ≤ L.length ∧ zz.ow.length = zz.i ∧ ((b = 2 ∧ zz.ow = []) ∨ (b = 3 ∧ zz.ow ≠ []))) hE (bs1_ok _ _ _ _ _ _ _) ⟨rfl, ⟨⟨0, []⟩, ⟨Nat.zero_le _, Nat.zero_le _, rfl, Or.inl ⟨rfl, rfl⟩⟩, trivial, rfl, by simp only [bs1, List.map_cons, List.map_nil, rnm, rno, rnv, rnx]; rfl⟩, trivial⟩ fun zz hz _ => gatherrow hE rfl hgt 2 zz hz

theorem walk (W : World) (v0 : Value) (o0 : Opened W eBox BxOK v0) (v1 : Value) (o1 : Opened W eInt I64 v1) :
    Calls Try.prog 13 #[v0, v1] W fun e w' => e = .returned (.bool true) ∧ Below W.heap.size W w' := by
  obtain ⟨u0, x0, ad0, c0, e0, n0, g0⟩ := o0.can 0
  obtain ⟨u1, x1, ad1, c1, e1, n1, g1⟩ := o1.can 1
  have hspec := spec c0 c1
  have := calls_rows hspec rfl (Nat.le_refl 2)
    (fun u hu j hj => by
      simp at hu
      rcases hu with rfl | rfl
      · have := c0.nms j hj; omega
      · have := c1.nms j hj; omega)
    (W := W) (l := [ad0, ad1]) (fun j r ad hr ha => by
      match j with
      | 0 => simp at hr ha; subst hr; subst ha; exact g0
      | 1 => simp at hr ha; subst hr; subst ha; exact g1
      | j + 2 => simp at hr) (Nat.le_refl 2)
  have hmap : ([u0, u1].map (ren (Nm.at [ad0, ad1]))).toArray = #[v0, v1] := by
    have g0 := e0 [ad0, ad1] rfl
    have g1 := e1 [ad0, ad1] rfl
    simp only [List.map_cons, List.map_nil]
    simp only [c0.ren, c1.ren, g0, g1]
  rw [hmap] at this
  exact this
end Go.Proofs.Ytdeedabhgfmgjaa.WkBoxSet

set_option linter.unusedVariables false
set_option linter.unusedSimpArgs false
set_option maxRecDepth 100000
namespace Go.Proofs.Ytdeedabhgfmgjaa.Ev
open Go Go.RowKit Go.ChangeShapes Go.WideShapes
theorem elem_i64 {H : Type} {enc : TypeId × Value → H} {W : World} {base : Nat} {spare : Nat → Bool} {held : Bool} (n : Nat) (cs : List Value) (z : DataW H × List MemPlace) (h : DataW.trod enc Try.prog W base spare held n 3 cs = some z) : ∃ x : Int, cs = eInt.cells x ∧ I64 x := by
  obtain ⟨x, h1, h2⟩ := elem_int (P := Try.prog) (k := .i64) (by kernel_rfl) n cs z h
  exact ⟨x, h1, wf64 h2⟩
theorem open_ints64 {H : Type} {enc : TypeId × Value → H} {W : World} {base : Nat} {spare : Nat → Bool} {held : Bool} {r : Reach} {b0 : Nat} {v : Value} {d : DataW H} {ps : List MemPlace} (hv : Value.okWide Try.prog W r b0 57 v) (h : DataW.Trod enc Try.prog W base spare held 57 v d ps) : Opened W eInt I64 v := by
  have hu : Try.prog.underlying 57 = some (.slice 3) := by kernel_rfl
  obtain ⟨fuel, hf⟩ := h
  simp only [Value.okWide, hu] at hv
  have hcs : v.cells.toList = [v] := by
    obtain ⟨a, l, c, rfl⟩ : ∃ a l c, v = .slice a l c := by
      simp only [Cell.okWide, hu, Cell.ok] at hv
      cases v <;> simp_all
    rfl
  rw [hcs] at hf
  exact open_row hu (by kernel_rfl) elem_i64 hv hf
end Go.Proofs.Ytdeedabhgfmgjaa.Ev


namespace Go.Proofs.Ytdeedabhgfmgjaa.boxSetRow
open Go.ChangeShapes Go.WideShapes Go.ChangeAt Go.RowKit
open Go.ChangeMaps (open_string shut_string)
set_option linter.unusedVariables false
theorem own : ownKnob Try.prog.godebug = none := by kernel_rfl
theorem laidOut : laidOutB Try.prog = true := by kernel_rfl
set_option maxHeartbeats 4000000 in
set_option maxRecDepth 100000 in
theorem lifted (os : Os) (started : os.Started) (H : Type) (enc : TypeId × Value → H) :
    ReturnsInHanded {} Try.checked os 13 .any (Rows.boxSetSpec.pre6 enc Try.prog Try.f13 Rows.boxSetRow.domain false) (Rows.boxSetSpec.post enc Try.prog Try.f13 false true false false) := by
  refine returnsInHanded_of_change_sized (C := Try.checked) own started (by kernel_rfl) Try.func13
    (ChangeSpec.witness6 (enc := enc) (C := Try.checked) false ⟨#[], #[.slice none 0 0, .slice none 0 0], []⟩ 8 (by kernel_rfl) (by kernel_rfl) (by kernel_rfl) (by kernel_rfl)) ?_
  intro W base args ds gs before hval0 hW hcnd hsz0 _
  have hsz : (DataW.weightsEach Try.prog (Try.f13.params.toList ++ Rows.boxSetSpec.plain.varTypes Try.prog) (ds ++ gs)).all (· ≤ reachBytes) = true := hsz0
  have hval : ∀ (j : Nat) t v, Try.f13.params[j]? = some t → args[j]? = some v → Value.okWide Try.prog W .any base t v := hval0
  have hW' := hW
  obtain ⟨p, q, hA0, hV, rfl, hfz, hnd⟩ := hW
  have hA : DataW.TrodAll enc Try.prog W 0 (fun _ => true) true Try.f13.params.toList args.toList ds p := hA0
  rw [Try.params13] at hA hval hsz
  obtain ⟨v0, vs0, d0, ds0, p0, q0, hargs, rfl, rfl, h0, r0⟩ := trodAll_cons hA
  obtain ⟨v1, vs1, d1, ds1, p1, q1, rfl, rfl, rfl, h1, r1⟩ := trodAll_cons r0
  obtain ⟨rfl, rfl, rfl⟩ := trodAll_nil r1
  obtain rfl : args = #[v0, v1] := by cases args; simp_all
  obtain ⟨rfl, rfl⟩ := trodVars_none hV
  have k0 := h0
  have lt0 : ∀ x ∈ p0, x.block < W.heap.size := by obtain ⟨m, hm⟩ := k0; exact DataW.trod_lt m _ _ _ hm
  have w0 := OpenBx.open_boxes (hval 0 43 v0 rfl rfl) h0
  have k1 := h1
  have lt1 : ∀ x ∈ p1, x.block < W.heap.size := by obtain ⟨m, hm⟩ := k1; exact DataW.trod_lt m _ _ _ hm
  have w1 := Ev.open_ints64 (hval 1 57 v1 rfl rfl) h1
  clear hA0 hval0 hsz0 hsz
  refine (WkBoxSet.walk W v0 w0 v1 w1).mono fun e W' ⟨he, bel⟩ => ?_
  subst he
  exact ⟨_, rfl, _, _, _, [], _, [], hW', trodAll_mk1 (shut_bool Try.underlying4 _), (trodAll_cons_mk (Below.trod laidOut (by kernel_rfl) (of_decide_eq_true (by kernel_rfl)) k0 bel lt0) (trodAll_cons_mk (Below.trod laidOut (by kernel_rfl) (of_decide_eq_true (by kernel_rfl)) k1 bel lt1) trodAll_mk0)), rfl, bel.frame _, fun h => by cases h⟩
theorem over : Rows.boxSetRow.holds Try.pinned (OpenSpec.ofChange Rows.boxSetSpec) :=
  OpenClaim.holds_of_wide 13 Try.f13 rfl rfl rfl rfl rfl rfl rfl ⟨rfl, rfl, rfl, rfl, rfl⟩ rfl rfl rfl rfl rfl (by kernel_rfl) Try.func13 (by kernel_rfl)
    (of_decide_eq_true (by kernel_rfl)) (by unfold Func.isWrapper; first | (rw [if_pos (by decide +kernel)]; kernel_rfl) | (rw [if_neg (by decide +kernel)]; exact ⟨rfl, rfl⟩))
    (fun os started H enc _ => lifted os started H enc)
end Go.Proofs.Ytdeedabhgfmgjaa.boxSetRow
namespace Go.Proofs.Ytdeedabhgfmgjaa
theorem boxSet_holds : Rows.BoxSetSaid := boxSetRow.over
#print axioms boxSet_holds
end Go.Proofs.Ytdeedabhgfmgjaa

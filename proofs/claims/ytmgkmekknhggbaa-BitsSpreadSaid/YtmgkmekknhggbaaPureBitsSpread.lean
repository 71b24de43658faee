/-
  The law copselaw1.BitsSpread over plain numbers and lists: numbers put into fields beside each other are all got again. No condition.
-/
import Derived.Test.YtmgkmekknhggbaaPBitsSpreadx2
import Derived.Test.YtmgkmekknhggbaaBitsB
import Derived.Test.YtmgkmekknhggbaaWithin
import Derived.KernelRfl
set_option linter.unusedVariables false
set_option linter.unusedSimpArgs false
namespace Go.Proofs.Ytmgkmekknhggbaa.Pure
open Go.RowKit Go.Proofs.Ytmgkmekknhggbaa.PBitsSpread Go.Proofs.YtmgkmekknhggbaaW.PrintWords Go.Proofs.YtmgkmekknhggbaaW.PrintLast
open Go.Proofs.Ytmgkmekknhggbaa.BitLib Go.Proofs.Ytmgkmekknhggbaa.BitsA Go.Proofs.Ytmgkmekknhggbaa.BitsB Go.Proofs.Ytmgkmekknhggbaa.Within

/-! ### The printed functions -/
theorem field_f (a k : Nat) (k0 : 1 ≤ k) (h : a + k ≤ 64) : bits_field.f a k = some true := by
  unfold bits_field.f
  rw [if_pos (by omega), if_pos (by omega), if_pos (by omega), wrap64_id (by omega) (by omega)]
  simp; omega
theorem shr_nat (k : Go.IntKind) (x : Int) (n : Nat) (h : n ≤ k.bits) : shr k x n = x / 2 ^ n := by
  unfold shr; rw [Int.toNat_natCast, Nat.min_eq_left h]
theorem shl_nat (k : Go.IntKind) (x : Int) (n : Nat) (h : n ≤ k.bits) : shl k x n = k.wrap (x * 2 ^ n) := by
  unfold shl; rw [Int.toNat_natCast, Nat.min_eq_left h]
theorem mask_f (k : Nat) (k0 : 1 ≤ k) (h : k ≤ 64) : bits_mask.f k = some ((2 ^ k - 1 : Nat) : Int) := by
  unfold bits_mask.f
  have e : Go.IntKind.u64.wrap (wrap64 (64 - (k : Int))) = ((64 - k : Nat) : Int) := by
    rw [wrap64_id (by omega) (by omega), wrapu_id (by omega) (by omega)]; omega
  rw [e, if_pos (by omega), shr_nat _ _ _ (by show 64 - k ≤ 64; omega)]
  have h1 : (18446744073709551615 : Nat) / 2 ^ (64 - k) = 2 ^ k - 1 := by
    have e : (18446744073709551616 : Nat) = 2 ^ k * 2 ^ (64 - k) := by rw [← Nat.pow_add, show k + (64 - k) = 64 by omega]
    have hp := Nat.two_pow_pos (64 - k)
    have hk := Nat.two_pow_pos k
    rw [Nat.div_eq_iff hp]
    generalize (2 : Nat) ^ (64 - k) = p at *
    generalize (2 : Nat) ^ k = q at *
    have e2 : (q - 1) * p = q * p - p := by rw [Nat.sub_mul, Nat.one_mul]
    have e3 : p ≤ q * p := Nat.le_mul_of_pos_left p hk
    omega
  rw [← h1]; simp
theorem put_f (x a k y : Nat) (hx : x < 18446744073709551616) (hy : y < 18446744073709551616) (k0 : 1 ≤ k) (h : a + k ≤ 64) : bits_Put.f x a k y = some ((putN x a k y : Nat) : Int) := by
  unfold bits_Put.f
  rw [field_f a k k0 h]
  simp only [Option.bind_some, if_true]
  rw [mask_f k k0 (by omega)]
  simp only [Option.bind_some]
  have e : Go.IntKind.u64.wrap (a : Int) = (a : Int) := wrapu_id (by omega) (by omega)
  rw [e, if_pos (by omega), shl_nat _ _ _ (by show a ≤ 64; omega), shl_nat _ _ _ (by show a ≤ 64; omega)]
  have ml := maskN_lt a k h
  rw [wrapu_mask a k h, wrapu_shl, Go.u64_andNot_nat _ _ hx ml, Go.u64_and_nat _ _ (Nat.mod_lt _ (by decide)) ml, Go.u64_or_nat _ _ (Nat.lt_of_le_of_lt Nat.and_le_left hx) (Nat.lt_of_le_of_lt Nat.and_le_right ml)]
  rfl
theorem get_f (x a k : Nat) (hx : x < 18446744073709551616) (k0 : 1 ≤ k) (h : a + k ≤ 64) : bits_Get.f x a k = some ((getN x a k : Nat) : Int) := by
  unfold bits_Get.f
  rw [field_f a k k0 h]
  simp only [Option.bind_some, if_true]
  have e : Go.IntKind.u64.wrap (a : Int) = (a : Int) := wrapu_id (by omega) (by omega)
  rw [e, if_pos (by omega), mask_f k k0 (by omega)]
  simp only [Option.bind_some]
  rw [shr_nat _ _ _ (by show a ≤ 64; omega)]
  have e : (x : Int) / 2 ^ a = ((x / 2 ^ a : Nat) : Int) := by simp
  rw [e, and_low_u64 _ _ (Nat.lt_of_le_of_lt (Nat.div_le_self _ _) hx) (by omega)]; rfl
theorem wrap_f (n : Int) (k : Nat) (k0 : 1 ≤ k) (k1 : k ≤ 63) : bits_Wrap.f n k = some (wrapS n k) := by
  unfold bits_Wrap.f
  have e : Go.IntKind.u64.wrap (wrap64 (64 - (k : Int))) = ((64 - k : Nat) : Int) := by
    rw [wrap64_id (by omega) (by omega), wrapu_id (by omega) (by omega)]; omega
  rw [if_neg (by omega), if_neg (by omega), e, if_pos (by omega), shr_nat _ _ _ (by show 64 - k ≤ 64; omega), shl_nat _ _ _ (by show 64 - k ≤ 64; omega), ← wrap64_eq, up_down n k k0 k1]
theorem signed_f (x a k : Nat) (hx : x < 18446744073709551616) (k0 : 1 ≤ k) (k1 : k ≤ 63) (h : a + k ≤ 64) : bits_Signed.f x a k = some (signedS x a k) := by
  unfold bits_Signed.f
  rw [get_f x a k hx k0 h]
  simp only [Option.bind_some]
  have hg2 : getN x a k < 2 ^ 63 := Nat.lt_of_lt_of_le (getN_lt x a k) (Nat.pow_le_pow_right (by decide) (by omega))
  have h63 : (2 : Nat) ^ 63 = 9223372036854775808 := rfl
  rw [h63] at hg2
  rw [wrap64_id (by omega) (by omega), wrap_f _ _ k0 k1]; rfl
theorem within_f (n : Int) : copsebook_Within.f n 1 12 = some (withinS n 1 12) := by
  obtain ⟨t1, t2, t3, t4⟩ := emod_of_tmod (n := n) (m := 12) (by decide)
  have e : wrap64 (wrap64 (12 - 1) + 1) = 12 := by decide +kernel
  unfold copsebook_Within.f withinS
  rw [e, if_neg (by decide)]
  split
  · rename_i ht
    have a1 : wrap64 (n.tmod 12 + 12) = n.tmod 12 + 12 := wrap64_id (by omega) (by omega)
    have a2 : wrap64 (n.tmod 12 + 12 - 1) = n.tmod 12 + 12 - 1 := wrap64_id (by omega) (by omega)
    rw [a1, a2]
    have a3 : wrap64 (n.tmod 12 + 12 - 1 + 1) = n.tmod 12 + 12 - 1 + 1 := wrap64_id (by omega) (by omega)
    rw [a3, wrap64_id (by omega) (by omega)]
    have := t1 ht
    rw [show (12 : Int) - 1 + 1 = 12 from rfl]
    congr 1; omega
  · rename_i ht
    rw [wrap64_id (by omega) (by omega)]
    have := t2 (by omega)
    rw [show (12 : Int) - 1 + 1 = 12 from rfl]
    congr 1; omega
theorem runs_f (k : Nat) (h : 1 ≤ k) : copselaw1_BitsRuns.f k = some true := by
  obtain ⟨k, rfl⟩ : ∃ m, k = m + 1 := ⟨k - 1, by omega⟩
  have h1 : copselaw1_BitsRuns.f 1 = some true := by kernel_rfl
  induction k with
  | zero => exact h1
  | succ k ih => exact copselaw1_BitsRuns.mono (k + 1) _ (ih (by omega))

/-! ### Fields beside each other -/
/-- So many fields: where each begins, how wide it is, its number. -/
structure Good (m : Nat) (at_ wd vl : List Int) (sum : Int) : Prop where
  la : at_.length = m
  lw : wd.length = m
  lv : vl.length = m
  s0 : 0 ≤ sum
  s1 : sum ≤ 64
  pos : ∀ i, i < m → 0 ≤ at_.getD i 0 ∧ 1 ≤ wd.getD i 0 ∧ wd.getD i 0 ≤ 12 ∧ at_.getD i 0 + wd.getD i 0 ≤ sum
  next : ∀ i j, i < j → j < m → at_.getD i 0 + wd.getD i 0 ≤ at_.getD j 0
  val : ∀ i, i < m → -(2 ^ ((wd.getD i 0).toNat - 1)) ≤ vl.getD i 0 ∧ vl.getD i 0 < 2 ^ ((wd.getD i 0).toNat - 1)
theorem getD_snoc (l : List Int) (x : Int) (i : Nat) : (l ++ [x]).getD i 0 = if i < l.length then l.getD i 0 else if i = l.length then x else 0 := by
  by_cases h : i < l.length
  · rw [if_pos h]; simp [List.getD, List.getElem?_append_left h]
  · rw [if_neg h]
    by_cases h2 : i = l.length
    · subst h2; simp [List.getD]
    · rw [if_neg h2]
      have : (l ++ [x])[i]? = none := by rw [List.getElem?_eq_none]; simp; omega
      simp [List.getD, this]
theorem Good.nil : Good 0 [] [] [] 0 := ⟨rfl, rfl, rfl, by decide, by decide, fun i h => absurd h (by omega), fun i j _ h => absurd h (by omega), fun i h => absurd h (by omega)⟩
theorem Good.snoc {m : Nat} {at_ wd vl : List Int} {sum : Int} (h : Good m at_ wd vl sum) (k : Nat) (n : Int) (k0 : 1 ≤ k) (k1 : k ≤ 12) (hs : sum + k ≤ 64) :
    Good (m + 1) (at_ ++ [sum]) (wd ++ [(k : Int)]) (vl ++ [wrapS n k]) (sum + k) := by
  have ha := h.la; have hw := h.lw; have hv := h.lv; have hs0 := h.s0
  refine ⟨by simp [ha], by simp [hw], by simp [hv], by omega, hs, fun i hi => ?_, fun i j hij hj => ?_, fun i hi => ?_⟩
  · rw [getD_snoc, getD_snoc, ha, hw]
    by_cases e : i < m
    · rw [if_pos e, if_pos e]; have := h.pos i e; omega
    · have : i = m := by omega
      rw [if_neg e, if_neg e, if_pos this, if_pos this]; omega
  · rw [getD_snoc, getD_snoc, getD_snoc, ha, hw, if_pos (by omega), if_pos (by omega)]
    by_cases e : j < m
    · rw [if_pos e]; exact h.next i j hij e
    · rw [if_neg e, if_pos (by omega)]; exact (h.pos i (by omega)).2.2.2
  · rw [getD_snoc, getD_snoc, hw, hv]
    by_cases e : i < m
    · rw [if_pos e, if_pos e]; exact h.val i e
    · have : i = m := by omega
      rw [if_neg e, if_neg e, if_pos this, if_pos this, Int.toNat_natCast]; exact wrapS_range n k k0
theorem rd_nat (l : List Int) (i : Nat) : rd l i = l.getD i 0 := by unfold rd; rw [Int.toNat_natCast]

/-- The word, when the fields of a set of places have been put. -/
structure Put (m : Nat) (at_ wd vl : List Int) (sum : Int) (done : Nat → Prop) (x : Nat) : Prop where
  lt : x < 18446744073709551616
  own : ∀ i, i < m → done i → getN x (at_.getD i 0).toNat (wd.getD i 0).toNat = (Go.IntKind.u64.wrap (vl.getD i 0)).toNat % 2 ^ (wd.getD i 0).toNat
  rest : ∀ b, sum.toNat ≤ b → x.testBit b = false
theorem Put.zero (m : Nat) (at_ wd vl : List Int) (sum : Int) : Put m at_ wd vl sum (fun _ => False) 0 := ⟨by decide, fun _ _ h => h.elim, fun b _ => Nat.zero_testBit b⟩
theorem get_put (x p k y : Nat) (h : p + k ≤ 64) (hx : x < 18446744073709551616) : getN (putN x p k y) p k = y % 2 ^ k := by
  apply Nat.eq_of_testBit_eq; intro i
  rw [getN_testBit, Nat.testBit_mod_two_pow, putN_testBit _ _ _ _ _ h hx]
  by_cases hi : i < k
  · rw [if_pos (by omega)]; simp [hi]
  · simp [hi]
theorem get_other (x p k y q j : Nat) (h : p + k ≤ 64) (hx : x < 18446744073709551616) (hd : q + j ≤ p ∨ p + k ≤ q) : getN (putN x p k y) q j = getN x q j := by
  apply Nat.eq_of_testBit_eq; intro i
  rw [getN_testBit, getN_testBit, putN_testBit _ _ _ _ _ h hx]
  by_cases hi : i < j
  · rw [if_neg (by omega)]
  · simp [hi]
theorem Put.step {m : Nat} {at_ wd vl : List Int} {sum : Int} {done : Nat → Prop} {x : Nat} (g : Good m at_ wd vl sum) (h : Put m at_ wd vl sum done x) (i : Nat) (hi : i < m) :
    ∃ y : Nat, bits_Put.f x (rd at_ i) (rd wd i) (Go.IntKind.u64.wrap (rd vl i)) = some (y : Int) ∧ Put m at_ wd vl sum (fun j => done j ∨ j = i) y := by
  have hs1 := g.s1
  obtain ⟨a0, w0, w1, e0⟩ := g.pos i hi
  have hrng : 0 ≤ Go.IntKind.u64.wrap (vl.getD i 0) ∧ Go.IntKind.u64.wrap (vl.getD i 0) < 18446744073709551616 := by
    rw [Go.IntKind.wrap_u64]; exact ⟨Int.emod_nonneg _ (by decide), Int.emod_lt_of_pos _ (by decide)⟩
  rw [rd_nat, rd_nat, rd_nat]
  obtain ⟨a, ha⟩ := Int.eq_ofNat_of_zero_le a0
  obtain ⟨k, hk⟩ := Int.eq_ofNat_of_zero_le (show 0 ≤ wd.getD i 0 by omega)
  obtain ⟨v, hv⟩ := Int.eq_ofNat_of_zero_le hrng.1
  rw [ha, hk, hv]
  refine ⟨putN x a k v, put_f x a k v h.lt (by omega) (by omega) (by omega), putN_lt x a k v (by omega) h.lt, fun j hj hd => ?_, fun b hb => ?_⟩
  · by_cases e : j = i
    · subst e
      rw [ha, hk, hv, Int.toNat_natCast, Int.toNat_natCast, Int.toNat_natCast]
      exact get_put x a k v (by omega) h.lt
    · have hdj := hd.resolve_right e
      rw [← h.own j hj hdj]
      obtain ⟨b0, u0, u1, f0⟩ := g.pos j hj
      refine get_other x a k v _ _ (by omega) h.lt ?_
      rcases Nat.lt_or_gt_of_ne e with hji | hji
      · left; have := g.next j i hji hi; omega
      · right; have := g.next i j hji hj; omega
  · rw [putN_testBit _ _ _ _ _ (by omega) h.lt, if_neg (by omega)]
    exact h.rest b hb
theorem put_mono {m : Nat} {at_ wd vl : List Int} {sum : Int} {d e : Nat → Prop} {x : Nat} (h : Put m at_ wd vl sum d x) (he : ∀ i, i < m → e i → d i) : Put m at_ wd vl sum e x :=
  ⟨h.lt, fun i hi hd => h.own i hi (he i hi hd), h.rest⟩
theorem wrapS_congr {x y : Int} {k : Nat} (h : x % 2 ^ k = y % 2 ^ k) : wrapS x k = wrapS y k := by
  unfold wrapS
  rw [Int.add_emod x, h, ← Int.add_emod]
theorem u64_mod (v : Int) (k : Nat) (hk : k ≤ 64) : ((Go.IntKind.u64.wrap v).toNat % 2 ^ k : Nat) = v % (2 ^ k : Int) := by
  have hd : (2 : Int) ^ k ∣ 18446744073709551616 := by
    have : (2 : Int) ^ 64 = 2 ^ k * 2 ^ (64 - k) := by rw [← Int.pow_add]; congr 1; omega
    exact ⟨2 ^ (64 - k), by rw [← this]; rfl⟩
  have h0 : 0 ≤ Go.IntKind.u64.wrap v := by rw [Go.IntKind.wrap_u64]; exact Int.emod_nonneg _ (by decide)
  have e : (((Go.IntKind.u64.wrap v).toNat % 2 ^ k : Nat) : Int) = Go.IntKind.u64.wrap v % 2 ^ k := by
    rw [Int.natCast_emod, Int.toNat_of_nonneg h0]; simp
  rw [e, Go.IntKind.wrap_u64, Int.emod_emod_of_dvd _ hd]
theorem Put.signed {m : Nat} {at_ wd vl : List Int} {sum : Int} {x : Nat} (g : Good m at_ wd vl sum) (h : Put m at_ wd vl sum (fun _ => True) x) (i : Nat) (hi : i < m) :
    bits_Signed.f x (rd at_ i) (rd wd i) = some (rd vl i) := by
  have hs1 := g.s1
  obtain ⟨a0, w0, w1, e0⟩ := g.pos i hi
  have hown := h.own i hi trivial
  have hval := g.val i hi
  rw [rd_nat, rd_nat, rd_nat]
  obtain ⟨a, ha⟩ := Int.eq_ofNat_of_zero_le a0
  obtain ⟨k, hk⟩ := Int.eq_ofNat_of_zero_le (show 0 ≤ wd.getD i 0 by omega)
  rw [ha, hk] at hown ⊢
  rw [hk] at hval
  rw [Int.toNat_natCast] at hown hval
  rw [Int.toNat_natCast] at hown
  rw [signed_f x a k h.lt (by omega) (by omega) (by omega)]
  unfold signedS
  rw [hown, u64_mod _ _ (by omega)]
  have : wrapS (vl.getD i 0 % 2 ^ k) k = wrapS (vl.getD i 0) k := wrapS_congr (Int.emod_emod_of_dvd _ (Int.dvd_refl _))
  rw [this, wrapS_fits _ k (by omega) hval.1 hval.2]
/-- The law's end: each number is got again, and nothing lies behind them. -/
theorem l2_true {m : Nat} {at_ wd vl : List Int} {sum : Int} {x : Nat} (g : Good m at_ wd vl sum) (hm : m ≤ 10) (h : Put m at_ wd vl sum (fun _ => True) x) (d : Nat) : ∀ (k i : Nat), m - i = d → i ≤ m → d + 2 ≤ k →
    copselaw1_BitsSpread.l2 k at_ wd vl sum x (at_.length : Int) i = some true := by
  have ha := g.la; have hw := g.lw; have hv := g.lv; have hs0 := g.s0; have hs1 := g.s1
  induction d with
  | zero =>
    intro k i hd hi hk
    obtain ⟨k, rfl⟩ : ∃ n, k = n + 1 := ⟨k - 1, by omega⟩
    simp only [copselaw1_BitsSpread.l2]
    rw [if_neg (by omega)]
    by_cases e : sum = 64
    · rw [if_pos e, runs_f k (by omega)]; rfl
    · rw [if_neg e]
      obtain ⟨s, rfl⟩ := Int.eq_ofNat_of_zero_le hs0
      rw [wrap64_id (by omega) (by omega), show (64 - (s : Int)) = ((64 - s : Nat) : Int) by omega, get_f x s (64 - s) h.lt (by omega) (by omega)]
      have hz : getN x s (64 - s) = 0 := by
        apply Nat.eq_of_testBit_eq; intro b
        rw [getN_testBit, h.rest (s + b) (by rw [Int.toNat_natCast]; omega)]
        simp
      rw [hz]
      simp only [Option.bind_some]
      rw [if_pos (by rfl), runs_f k (by omega)]; rfl
  | succ d ih =>
    intro k i hd hi hk
    obtain ⟨k, rfl⟩ : ∃ n, k = n + 1 := ⟨k - 1, by omega⟩
    simp only [copselaw1_BitsSpread.l2]
    rw [if_pos (by omega), if_pos (by omega), if_pos (by omega), if_pos (by omega), Put.signed g h i (by omega)]
    simp only [Option.bind_some]
    rw [if_pos (by omega), if_pos trivial, wrap64_id (by omega) (by omega), show ((i : Int) + 1) = ((i + 1 : Nat) : Int) by omega]
    exact ih k (i + 1) (by omega) (by omega) (by omega)
theorem l1_fore {m : Nat} {at_ wd vl : List Int} {sum : Int} (g : Good m at_ wd vl sum) (hm : m ≤ 10) (d : Nat) : ∀ (k i x : Nat), m - i = d → i ≤ m → d + 16 ≤ k → Put m at_ wd vl sum (fun j => j < i) x →
    copselaw1_BitsSpread.l1 k false at_ wd vl sum x (at_.length : Int) i = some true := by
  have ha := g.la; have hw := g.lw; have hv := g.lv
  induction d with
  | zero =>
    intro k i x hd hi hk h
    obtain ⟨k, rfl⟩ : ∃ n, k = n + 1 := ⟨k - 1, by omega⟩
    simp only [copselaw1_BitsSpread.l1]
    rw [if_neg (by omega)]
    exact l2_true g hm (put_mono h fun j hj _ => by omega) m k 0 (by omega) (by omega) (by omega)
  | succ d ih =>
    intro k i x hd hi hk h
    obtain ⟨k, rfl⟩ : ∃ n, k = n + 1 := ⟨k - 1, by omega⟩
    obtain ⟨y, hy, hp⟩ := Put.step g h i (by omega)
    simp only [copselaw1_BitsSpread.l1]
    rw [if_pos (by omega), if_neg (by decide), if_pos (by omega), if_pos (by omega), if_pos (by omega), if_pos (by omega), hy]
    simp only [Option.bind_some]
    rw [wrap64_id (by omega) (by omega), show ((i : Int) + 1) = ((i + 1 : Nat) : Int) by omega]
    exact ih k (i + 1) y (by omega) (by omega) (by omega) (put_mono hp fun j hj hd => by omega)
theorem l1_back {m : Nat} {at_ wd vl : List Int} {sum : Int} (g : Good m at_ wd vl sum) (hm : m ≤ 10) (d : Nat) : ∀ (k i x : Nat), m - i = d → i ≤ m → d + 16 ≤ k → Put m at_ wd vl sum (fun j => m ≤ j + i) x →
    copselaw1_BitsSpread.l1 k true at_ wd vl sum x (at_.length : Int) i = some true := by
  have ha := g.la; have hw := g.lw; have hv := g.lv
  induction d with
  | zero =>
    intro k i x hd hi hk h
    obtain ⟨k, rfl⟩ : ∃ n, k = n + 1 := ⟨k - 1, by omega⟩
    simp only [copselaw1_BitsSpread.l1]
    rw [if_neg (by omega)]
    exact l2_true g hm (put_mono h fun j hj _ => by omega) m k 0 (by omega) (by omega) (by omega)
  | succ d ih =>
    intro k i x hd hi hk h
    obtain ⟨k, rfl⟩ : ∃ n, k = n + 1 := ⟨k - 1, by omega⟩
    obtain ⟨y, hy, hp⟩ := Put.step g h (m - 1 - i) (by omega)
    have e : wrap64 (wrap64 ((at_.length : Int) - 1) - i) = ((m - 1 - i : Nat) : Int) := by
      have e1 : wrap64 ((at_.length : Int) - 1) = (at_.length : Int) - 1 := wrap64_id (by omega) (by omega)
      rw [e1, wrap64_id (by omega) (by omega)]; omega
    simp only [copselaw1_BitsSpread.l1]
    rw [if_pos (by omega), if_pos trivial, e, if_pos (by omega), if_pos (by omega), if_pos (by omega), if_pos (by omega), hy]
    simp only [Option.bind_some]
    rw [wrap64_id (by omega) (by omega), show ((i : Int) + 1) = ((i + 1 : Nat) : Int) by omega]
    exact ih k (i + 1) y (by omega) (by omega) (by omega) (put_mono hp fun j hj hd => by omega)
theorem j2_true {m : Nat} {at_ wd vl : List Int} {sum : Int} (g : Good m at_ wd vl sum) (hm : m ≤ 10) (back : Bool) (k : Nat) (hk : 40 ≤ k) : copselaw1_BitsSpread.j2 k back at_ wd vl sum = some true := by
  obtain ⟨k, rfl⟩ : ∃ n, k = n + 1 := ⟨k - 1, by omega⟩
  simp only [copselaw1_BitsSpread.j2]
  cases back with
  | false => exact l1_fore g hm m k 0 0 (by omega) (by omega) (by omega) (put_mono (Put.zero ..) fun j _ h => absurd h (by omega))
  | true => exact l1_back g hm m k 0 0 (by omega) (by omega) (by omega) (put_mono (Put.zero ..) fun j hj h => absurd h (by omega))
theorem l0_true (ns ws : List Int) (hn : ns.length < 17592186044416) (hw : ws.length < 17592186044416) (back : Bool) (d : Nat) : ∀ (k m : Nat) (at_ wd vl : List Int) (sum : Int), 10 - m = d → m ≤ 10 → 2 * d + 50 ≤ k → Good m at_ wd vl sum →
    copselaw1_BitsSpread.l0 k ns ws back at_ wd vl sum m = some true := by
  induction d with
  | zero =>
    intro k m at_ wd vl sum hd hm hk g
    obtain ⟨k, rfl⟩ : ∃ n, k = n + 2 := ⟨k - 2, by omega⟩
    have e : decide ((m : Int) < 10) = false := decide_eq_false (by omega)
    have hj : copselaw1_BitsSpread.j1 (k + 1) ns ws back at_ wd vl sum m false = some true := by
      simp only [copselaw1_BitsSpread.j1]
      rw [if_neg (by decide)]
      exact j2_true g hm back k (by omega)
    simp only [copselaw1_BitsSpread.l0, e]
    split
    · split <;> exact hj
    · exact hj
  | succ d ih =>
    intro k m at_ wd vl sum hd hm hk g
    have ha := g.la; have hgw := g.lw; have hv := g.lv; have hs0 := g.s0; have hs1 := g.s1
    obtain ⟨k, rfl⟩ : ∃ n, k = n + 2 := ⟨k - 2, by omega⟩
    have e : decide ((m : Int) < 10) = true := decide_eq_true (by omega)
    have hj : copselaw1_BitsSpread.j1 (k + 1) ns ws back at_ wd vl sum m false = some true := by
      simp only [copselaw1_BitsSpread.j1]
      rw [if_neg (by decide)]
      exact j2_true g hm back k (by omega)
    simp only [copselaw1_BitsSpread.l0, e]
    by_cases h1 : (m : Int) < ws.length
    · rw [if_pos h1]
      by_cases h2 : (m : Int) < ns.length
      · rw [if_pos h2]
        obtain ⟨r0, r1⟩ := within_range (rd ws m) (show (1 : Int) ≤ 12 by decide)
        simp only [copselaw1_BitsSpread.j1]
        rw [if_pos trivial, if_pos (by omega), if_pos h1, within_f]
        simp only [Option.bind_some]
        obtain ⟨w, hwk⟩ := Int.eq_ofNat_of_zero_le (show 0 ≤ withinS (rd ws m) 1 12 by omega)
        rw [hwk] at r0 r1 ⊢
        rw [wrap64_id (n := sum + w) (by omega) (by omega)]
        by_cases h3 : sum + (w : Int) > 64
        · rw [if_pos h3]; exact j2_true g hm back k (by omega)
        · rw [if_neg h3, if_pos (by simp; omega), if_pos (by simp; omega), if_pos h2, wrap_f _ _ (by omega) (by omega)]
          simp only [Option.bind_some]
          rw [if_pos (by simp; omega), wrap64_id (n := (m : Int) + 1) (by omega) (by omega), show ((m : Int) + 1) = ((m + 1 : Nat) : Int) by omega]
          exact ih k (m + 1) _ _ _ _ (by omega) (by omega) (by omega) (g.snoc w _ (by omega) (by omega) (by omega))
      · rw [if_neg h2]; exact hj
    · rw [if_neg h1]; exact hj
theorem BitsSpread : copselaw1_BitsSpread.Pure := by
  intro ns ws back h1 h2 _ h3 h4 _
  exact ⟨100, l0_true ns ws (by omega) (by omega) back 10 100 0 [] [] [] 0 rfl (by decide) (by decide) Good.nil⟩
end Go.Proofs.Ytmgkmekknhggbaa.Pure

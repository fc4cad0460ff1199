/- The walks of times, apply, square and Combine. -/
import Derived.Test.YtgjenjgiepheoaaWalksC
import Derived.Test.YtgjenjgiepheoaaMathC
namespace Go.Proofs.Ytgjenjgiepheoaa
open Go.RowKit Crc

theorem times_bit {a t q : Nat} (hq : q = 31 - t) : ((((a : Int) / 2 ^ q).tmod 2 == 1) = true) ↔ a / 2 ^ (31 - t) % 2 = 1 := by
  subst hq
  obtain ⟨d, hd⟩ : ∃ d : Nat, d = a / 2 ^ (31 - t) := ⟨_, rfl⟩
  have e : (a : Int) / 2 ^ (31 - t) = (d : Int) := by rw [hd]; simp
  rw [e, ← hd, Int.tmod_eq_emod_of_nonneg (by omega), beq_iff_eq]
  omega

set_option maxHeartbeats 800000 in
theorem times_any (a b : Nat) (w : World) (hb : b < 4294967296) :
    Calls Try.prog 33 #[.int .u32 a, .int .u32 b] w fun e w' => e = .returned (.int .u32 (tmul a b 32 : Nat)) ∧ w = w' := by
  go_enter Try.func33, Try.ntmps33
  go_wp2
  go_loop [1, 5, 6] (fun y p i => ∃ t : Nat, t ≤ 32 ∧ i = .int .i64 (31 - (t : Int)) ∧ p = .int .u32 (tmul a b t : Nat) ∧ y = .int .u32 (shn t b : Nat)) (fun _ _ i => (intOf i + 1).toNat)
  case atStart => exact ⟨0, by omega, rfl, rfl, rfl⟩
  case round =>
    obtain ⟨t, ht, rfl, rfl, rfl⟩ := hrel
    have h1 := tmul_lt a b t hb
    have h2 := shn_lt t hb
    by_cases hlt : t < 32
    · obtain ⟨q, hq⟩ : ∃ q : Nat, q = 31 - t := ⟨_, rfl⟩
      have hqi : (31 : Int) - (t : Int) = (q : Int) := by omega
      have hq31 : q ≤ 31 := by omega
      rw [hqi]
      have HQ := Lib.hid hqi
      have HQ2 := Lib.hid hq
      have HX := Lib.hid (u32_xor_nat _ _ h1 h2)
      clear hqi hq
      go_wp2_with (go_at_call 29; refine (refShift_any _ _ h2).mono ?_; rintro e w' ⟨rfl, rfl⟩)
      · have hbit : (((a : Int) / 2 ^ q).tmod 2 == 1) = true := by assumption
        have hb1 := (times_bit HQ2.out).1 hbit
        have hqq := HQ2.out
        refine ⟨⟨t + 1, by omega, ?_, ?_, ?_⟩, by simp [intOf]⟩
        · congr 1; omega
        · rw [HX.out, tmul, if_pos hb1]
        · rw [shn_succ]
      · have hbit : (((a : Int) / 2 ^ q).tmod 2 == 1) = false := by assumption
        have hb1 : ¬ a / 2 ^ (31 - t) % 2 = 1 := fun h => by rw [(times_bit HQ2.out).2 h] at hbit; cases hbit
        have hqq := HQ2.out
        refine ⟨⟨t + 1, by omega, ?_, ?_, ?_⟩, by simp [intOf]⟩
        · congr 1; omega
        · rw [tmul, if_neg hb1, Nat.xor_zero]
        · rw [shn_succ]
    · obtain rfl : t = 32 := by omega
      go_wp2
      go_ret
      exact ⟨rfl, rfl⟩

/-- 32 numbers in memory, the first j by f, the others 0. -/
def mat (f : Nat → Nat) (j : Nat) : Array Value := (List.map (fun i => Value.int .u32 (if i < j then ((f i : Nat) : Int) else 0)) (List.range 32)).toArray

theorem mat_size (f : Nat → Nat) (j : Nat) : (mat f j).size = 32 := by simp [mat]
theorem mat_get (f : Nat → Nat) (j i : Nat) (h : i < 32) : (mat f j)[i]? = some (Value.int .u32 (if i < j then ((f i : Nat) : Int) else 0)) := by
  simp [mat, h]
theorem mat_set (f : Nat → Nat) (k : Nat) (h : k < 32) : (mat f k).setIfInBounds k (.int .u32 ((f k : Nat) : Int)) = mat f (k + 1) := by
  apply Array.ext_getElem?
  intro i
  rw [Array.getElem?_setIfInBounds, mat_size]
  by_cases hi : i < 32
  · rw [mat_get _ _ _ hi, mat_get _ _ _ hi]
    by_cases hk : k = i
    · subst hk; simp [h]
    · rw [if_neg hk]
      by_cases h1 : i < k
      · rw [if_pos h1, if_pos (by omega)]
      · rw [if_neg h1, if_neg (by omega)]
  · have : k ≠ i := by omega
    rw [if_neg this, Array.getElem?_eq_none (by rw [mat_size]; omega), Array.getElem?_eq_none (by rw [mat_size]; omega)]
theorem mat_zero (f : Nat → Nat) : mat f 0 = (Array.replicate 32 (Value.int .u32 0)) := by
  simp [mat, List.range]
  rfl
theorem mat_info : (Try.prog.info? 47).map (·.size) = some 32 := by kernel_rfl

/-- The map 'k shifts'. -/
def pw (k : Nat) (i : Nat) : Nat := shn k (2 ^ i)

theorem pw_lt (k i : Nat) (h : i < 32) : pw k i < 4294967296 :=
  shn_lt k (by have := Nat.pow_lt_pow_right (a := 2) (by decide) h; simpa using this)

set_option maxHeartbeats 800000 in
theorem apply_any (g k x : Nat) (w : World) (hx : x < 4294967296) (hg : w.heap[g]? = some (.cells (mat (pw k) 32) 47 (0, 0))) :
    Calls Try.prog 31 #[.pointer (some ⟨g, 0, none⟩), .int .u32 x] w fun e w' => e = .returned (.int .u32 (shn k x : Nat)) ∧ w = w' := by
  have hcell : ∀ i, i < 32 → w.cell? ⟨g, i, none⟩ = some (.int .u32 (pw k i : Nat)) := fun i hi => by
    rw [cell_of_row _ _ _ _ _ _ hg, mat_get _ _ _ hi, if_pos hi]
  clear hg
  go_enter Try.func31, Try.ntmps31
  go_wp2
  go_loop [1, 5, 6] (fun y o i => ∃ j : Nat, j ≤ 32 ∧ i = .int .i64 j ∧ o = .int .u32 (shn k (x % 2 ^ j) : Nat) ∧ y = .int .u32 (x / 2 ^ j : Nat)) (fun y _ _ => (intOf y).toNat)
  case atStart => exact ⟨0, by omega, rfl, by simp [Nat.mod_one, shn_zero'], by simp⟩
  case round =>
    obtain ⟨j, hj, rfl, rfl, rfl⟩ := hrel
    have HS := Lib.hid (apply_step k x j)
    have HD : Hid (x / 2 ^ (j + 1) = x / 2 ^ j / 2) := by show _ = _; rw [Nat.pow_succ, Nat.div_div_eq_div_mul]
    have hyl : x / 2 ^ j < 4294967296 := Nat.lt_of_le_of_lt (Nat.div_le_self _ _) hx
    have hol : shn k (x % 2 ^ j) < 4294967296 := shn_lt k (Nat.lt_of_le_of_lt (Nat.mod_le _ _) hx)
    have HZ : Hid (x / 2 ^ j = 0 → x % 2 ^ j = x) := fun h => by
      have := Nat.div_add_mod x (2 ^ j)
      rw [h, Nat.mul_zero, Nat.zero_add] at this
      exact this
    have H32 : Hid (x / 2 ^ j ≠ 0 → j < 32) := fun h => by
      rcases Nat.lt_or_ge j 32 with h' | h'
      · exact h'
      · exact absurd (Nat.div_eq_of_lt (Nat.lt_of_lt_of_le hx (Nat.pow_le_pow_right (n := 2) (by decide) h'))) h
    obtain ⟨y, hy⟩ : ∃ y, y = x / 2 ^ j := ⟨_, rfl⟩
    obtain ⟨o, ho⟩ : ∃ o, o = shn k (x % 2 ^ j) := ⟨_, rfl⟩
    rw [← hy] at HS HD HZ H32 hyl ⊢
    rw [← ho] at HS hol ⊢
    have HO := Lib.hid ho
    clear hy ho
    by_cases h0 : y = 0
    · have hz : ((y : Int) != 0) = false := by simp [h0]
      have H0 := Lib.hid h0
      clear h0
      go_wp2
      go_ret
      refine ⟨ret_u32 ?_, rfl⟩
      rw [HO.out, HZ.out H0.out]
    · have hz : ((y : Int) != 0) = true := by simp [h0]
      have hj32 := H32.out h0
      have hpos : 0 < y := by omega
      have hc := hcell j hj32
      have hpl := pw_lt k j hj32
      have HX := Lib.hid (u32_xor_nat _ _ hol hpl)
      have HP : Hid (pw k j = shn k (2 ^ j)) := rfl
      obtain ⟨p, hp⟩ : ∃ p, p = pw k j := ⟨_, rfl⟩
      rw [← hp] at hc hpl HX HP
      clear hcell hp h0
      go_wp2
      · have h : (bits BinOp.and IntKind.u32 (↑y) 1 == 1) = true := by assumption
        rw [and_one hyl] at h
        have h1 : y % 2 = 1 := by simp only [beq_iff_eq] at h; omega
        refine ⟨⟨j + 1, by omega, by go_num, ?_, ?_⟩, by simp [intOf]; omega⟩
        · rw [HX.out, HS.out, if_pos h1, HP.out]
        · rw [HD.out]; congr 1
      · have h : (bits BinOp.and IntKind.u32 (↑y) 1 == 1) = false := by assumption
        rw [and_one hyl] at h
        have h1 : ¬ y % 2 = 1 := by simp only [beq_eq_false_iff_ne, ne_eq] at h; omega
        refine ⟨⟨j + 1, by omega, by go_num, ?_, ?_⟩, by simp [intOf]; omega⟩
        · rw [HS.out, if_neg h1, Nat.xor_zero]
        · rw [HD.out]; congr 1

theorem shift_at (xi : Int) (x n : Nat) (w : World) (hxi : xi = x) (hx : x < 4294967296) (hn : n ≤ 64) :
    Calls Try.prog 30 #[.int .u32 xi, .int .i64 n] w fun e w' => e = .returned (.int .u32 (shn n x : Nat)) ∧ w = w' := by
  subst hxi
  exact shift_any x n w hx hn

theorem two_pow (k : Nat) (h : k < 32) : (2 : Int) ^ k % 4294967296 = ((2 ^ k : Nat) : Int) := by
  have h1 : 2 ^ k < 4294967296 := by have := Nat.pow_lt_pow_right (a := 2) (by decide) h; simpa using this
  obtain ⟨q, hq⟩ : ∃ q : Nat, q = 2 ^ k := ⟨_, rfl⟩
  have e : (2 : Int) ^ k = (q : Int) := by rw [hq]; simp
  rw [← hq] at h1 ⊢
  rw [e]
  omega

theorem pow_lt32 (k : Nat) (h : k < 32) : 2 ^ k < 4294967296 := by have := Nat.pow_lt_pow_right (a := 2) (by decide) h; simpa using this

theorem and_one_i64 {m : Int} (h0 : 0 ≤ m) (h1 : m < 9223372036854775808) : bits .and .i64 m 1 = m % 2 :=
  bits_mask .i64 63 (by decide) (fun n h h' => by rw [IntKind.wrap_i64]; omega) 1 (by decide) m h0 h1

set_option maxHeartbeats 800000 in
theorem square_any (g k : Nat) (w : World) (hg : w.heap[g]? = some (.cells (mat (pw k) 32) 47 (0, 0))) :
    Calls Try.prog 32 #[.pointer (some ⟨g, 0, none⟩)] w fun e w' => e = .returned (.agg (mat (pw (k + k)) 32)) ∧ Below w.heap.size w w' := by
  have hgl := blk_lt hg
  go_enter Try.func32, Try.ntmps32
  have HG := Lib.hid hg
  clear hg
  go_wp2
  go_loopw [5] (fun i wr => ∃ j : Nat, j ≤ 32 ∧ i = .int .i64 j ∧ wr.heap[w.heap.size + 1]? = some (.cells (mat (pw (k + k)) j) 47 (0, 0)) ∧ wr.heap[w.heap.size]? = some (.cells (mat (pw k) 0) 47 (0, 0)) ∧ Below w.heap.size w wr) (fun i _ => 32 - (intOf i).toNat)
  case atStart => exact ⟨0, by omega, rfl, by rw [mat_zero]; exact heap_alloc2_new _ _ _, by rw [mat_zero]; exact heap_alloc2_old _ _ _, ((Below.refl _ _).alloc (Nat.le_refl _) _).alloc (by simp) _⟩
  case round =>
    obtain ⟨j, hj, rfl, hh, hz, hb⟩ := hrel
    by_cases hlt : j < 32
    · have hc := cell_of_row wr (w.heap.size + 1) j _ _ _ hh
      rw [mat_get _ j j hlt] at hc
      have hf := frozen_of_row wr (w.heap.size + 1) j _ _ hh
      have hgr : wr.heap[g]? = some (.cells (mat (pw k) 32) 47 (0, 0)) := by rw [hb.block g hgl]; exact HG.out
      have hcg := cell_of_row wr g j _ _ _ hgr
      rw [mat_get _ 32 j hlt, if_pos (by omega)] at hcg
      have HGR := Lib.hid hgr
      have HH := Lib.hid hh
      have HZ := Lib.hid hz
      have hpl := pw_lt k j hlt
      have HP : Hid (shn k (pw k j) = pw (k + k) j) := by show _ = _; unfold pw; rw [← shn_add]
      obtain ⟨p, hp⟩ : ∃ p, p = pw k j := ⟨_, rfl⟩
      rw [← hp] at hcg hpl HP
      clear hh hz hgr hp
      go_wp2_with (go_at_call 31; refine (apply_any g k p _ hpl HGR.out).mono ?_; rintro e w' ⟨rfl, rfl⟩)
      rw [HP.out]
      refine ⟨⟨j + 1, by omega, by go_num, ?_, ?_, hb.setCell (by simp) _⟩, by simp [intOf]; omega⟩
      · rw [heap_setCell_same _ _ _ _ _ _ HH.out, mat_set _ _ hlt]
      · rw [heap_setCell_other _ _ _ _ (by simp)]; exact HZ.out
    · obtain rfl : j = 32 := by omega
      go_wp2_with (first | (refine wpList_load_row rfl 47 _ rfl _ rfl 47 _ (0, 0) _ hh Try.underlying47 rfl (by rw [mat_size]; exact mat_info) ?_) | (refine wpList_store_row rfl 47 _ _ rfl _ _ rfl rfl 47 _ hz (by rw [mat_size]; exact mat_info) (by rw [mat_size, mat_size]) (by simp [mat, Value.oneCell']) ?_))
      exact bodyPost_ret (v := .agg (mat (pw (k + k)) 32)) (results_cell_row rfl _ _ w.heap.size 47 _ (0, 0) _ rfl (setRow_heap _ _ _ _ _ _ hz) Try.underlying47 rfl (by rw [mat_size]; exact mat_info)) rfl ⟨rfl, below_setRow hb (Nat.le_refl _) _⟩

set_option maxHeartbeats 1600000 in
theorem combine_any (a b : Nat) (n : Int) (w : World) (ha : a < 4294967296) (hb0 : b < 4294967296) (hn : n < 9223372036854775808) :
    Calls Try.prog 25 #[.int .u32 a, .int .u32 b, .int .i64 n] w fun e w' => e = .returned (.int .u32 (comb a b n : Nat)) ∧ Below w.heap.size w w' := by
  go_enter Try.func25, Try.ntmps25
  go_wp2
  go_loopw [9] (fun i wr => ∃ k : Nat, k ≤ 32 ∧ i = .int .i64 k ∧ wr.heap[w.heap.size]? = some (.cells (mat (pw 8) k) 47 (0, 0)) ∧ Below w.heap.size w wr) (fun i _ => 32 - (intOf i).toNat)
  case atStart => exact ⟨0, by omega, rfl, by rw [mat_zero]; exact heap_alloc_new _ _, ((Below.refl _ _).alloc (Nat.le_refl _) _)⟩
  case round =>
    obtain ⟨k, hk, rfl, hh, hb⟩ := hrel
    by_cases hlt : k < 32
    · have hc := cell_of_row wr w.heap.size k _ _ _ hh
      rw [mat_get _ k k hlt] at hc
      have hf := frozen_of_row wr w.heap.size k _ _ hh
      have HH := Lib.hid hh
      clear hh
      go_wp2_with (go_at_call 30; refine (shift_at _ (2 ^ k) 8 _ (two_pow k hlt) (pow_lt32 k hlt) (by omega)).mono ?_; rintro e w' ⟨rfl, rfl⟩)
      refine ⟨⟨k + 1, by omega, by go_num, ?_, hb.setCell (by simp) _⟩, by simp [intOf]; omega⟩
      rw [heap_setCell_same _ _ _ _ _ _ HH.out, ← mat_set _ _ hlt]
      rfl
    · obtain rfl : k = 32 := by omega
      go_wp2
      obtain ⟨wo, rfl⟩ : ∃ wo : World, wo = wr := ⟨_, rfl⟩
      go_loopw [0, 2] (fun x m wr => ∃ (k y : Nat) (q : Int), m = .int .i64 q ∧ q < 9223372036854775808 ∧ x = .int .u32 y ∧ y < 4294967296 ∧ shn (k * q.toNat) y = shn (8 * n.toNat) a ∧ wr.heap[w.heap.size]? = some (.cells (mat (pw k) 32) 47 (0, 0)) ∧ Below w.heap.size w wr) (fun _ m _ => (intOf m).toNat)
      case atStart => exact ⟨8, a, n, rfl, hn, rfl, ha, rfl, hh, hb⟩
      case round =>
        obtain ⟨k, y, q, rfl, hq, rfl, hy, hs, hm, hbr⟩ := hrel
        have HM := Lib.hid hm
        have HSS := Lib.hid hs
        clear hm hs hh
        by_cases hpos : 0 < q
        · have HA := Lib.hid (and_one_i64 (m := q) (by omega) hq)
          have HC := Lib.hid (comb_step k q.toNat y)
          have hyk := shn_lt k hy
          go_wp2_with (first | (go_at_call 31; refine (apply_any _ k y _ hy HM.out).mono ?_; rintro e w' ⟨rfl, rfl⟩) | (go_at_call 32; refine (square_any _ k _ HM.out).mono ?_; rintro e w2 ⟨rfl, hb2⟩) | (refine wpList_store_row rfl 47 _ _ rfl _ _ rfl rfl 47 _ ((hb2.block _ (blk_lt HM.out)).trans HM.out) (by rw [mat_size]; exact mat_info) (by rw [mat_size, mat_size]) (by simp [mat, Value.oneCell']) ?_))
          · have h : (bits BinOp.and IntKind.i64 q 1 == 1) = true := by assumption
            rw [HA.out] at h
            have h1 : q.toNat % 2 = 1 := by simp only [beq_iff_eq] at h; omega
            have hC := HC.out
            rw [if_pos h1] at hC
            have hfin : shn ((k + k) * (q / 2).toNat) (shn k y) = shn (8 * n.toNat) a := by
              rw [show (q / 2).toNat = q.toNat / 2 by omega, ← hC]
              exact HSS.out
            have hgw : (w2.setRow w.heap.size (mat (pw (k + k)) 32)).heap[w.heap.size]? = some (.cells (mat (pw (k + k)) 32) 47 (0, 0)) := setRow_heap _ _ _ _ _ _ ((hb2.block _ (blk_lt HM.out)).trans HM.out)
            have hbw : Below w.heap.size w (w2.setRow w.heap.size (mat (pw (k + k)) 32)) := below_setRow (hbr.trans (hb2.mono hbr.size)) (Nat.le_refl _) _
            go_roundw
            case rel => exact ⟨_, _, _, _, _, _, _, _, _, _, _, _, ⟨k + k, shn k y, q / 2, rfl, by omega, rfl, hyk, hfin, hgw, hbw⟩, rfl⟩
            case measure => simp [intOf]; omega
          · have h : (bits BinOp.and IntKind.i64 q 1 == 1) = false := by assumption
            rw [HA.out] at h
            have h1 : ¬ q.toNat % 2 = 1 := by simp only [beq_eq_false_iff_ne, ne_eq] at h; omega
            have hC := HC.out
            rw [if_neg h1] at hC
            have hfin : shn ((k + k) * (q / 2).toNat) (y) = shn (8 * n.toNat) a := by
              rw [show (q / 2).toNat = q.toNat / 2 by omega, ← hC]
              exact HSS.out
            have hgw : (w2.setRow w.heap.size (mat (pw (k + k)) 32)).heap[w.heap.size]? = some (.cells (mat (pw (k + k)) 32) 47 (0, 0)) := setRow_heap _ _ _ _ _ _ ((hb2.block _ (blk_lt HM.out)).trans HM.out)
            have hbw : Below w.heap.size w (w2.setRow w.heap.size (mat (pw (k + k)) 32)) := below_setRow (hbr.trans (hb2.mono hbr.size)) (Nat.le_refl _) _
            go_roundw
            case rel => exact ⟨_, _, _, _, _, _, _, _, _, _, _, _, ⟨k + k, y, q / 2, rfl, by omega, rfl, hy, hfin, hgw, hbw⟩, rfl⟩
            case measure => simp [intOf]; omega
        · have hq0 : q.toNat = 0 := by omega
          have HQ0 := Lib.hid hq0
          clear hq0
          go_wp2
          go_ret
          refine ⟨ret_u32 ?_, hbr⟩
          have h := HSS.out
          rw [HQ0.out, Nat.mul_zero] at h
          rw [u32_xor_nat _ _ hy hb0]
          unfold comb
          rw [← h]
          rfl

set_option maxHeartbeats 1600000 in
theorem refCombine_any (a b : Nat) (n : Int) (w : World) (ha : a < 4294967296) (hb0 : b < 4294967296) (hn : n < 9223372036854775808) :
    Calls Try.prog 26 #[.int .u32 a, .int .u32 b, .int .i64 n] w fun e w' => e = .returned (.int .u32 (comb a b n : Nat)) ∧ w = w' := by
  have hp8 : shn 8 one = 8388608 := by decide
  go_enter Try.func26, Try.ntmps26
  go_wp2
  go_loop [0, 2, 7] (fun x m p => ∃ (k y : Nat) (q : Int), m = .int .i64 q ∧ q < 9223372036854775808 ∧ x = .int .u32 y ∧ y < 4294967296 ∧ shn (k * q.toNat) y = shn (8 * n.toNat) a ∧ p = .int .u32 (shn k one : Nat)) (fun _ m _ => (intOf m).toNat)
  case atStart => exact ⟨8, a, n, rfl, hn, rfl, ha, rfl, by rw [hp8]; rfl⟩
  case round =>
    obtain ⟨k, y, q, rfl, hq, rfl, hy, hs, rfl⟩ := hrel
    have HSS := Lib.hid hs
    clear hs hp8
    by_cases hpos : 0 < q
    · have HC := Lib.hid (comb_step k q.toNat y)
      have hyk := shn_lt k hy
      have hpk : shn k one < 4294967296 := shn_lt k (by decide)
      have HT := Lib.hid (tmul_power k hy)
      have HT2 : Hid (tmul (shn k one) (shn k one) 32 = shn (k + k) one) := by show _ = _; rw [tmul_power k hpk, ← shn_add]
      obtain ⟨p, hp⟩ : ∃ p, p = shn k one := ⟨_, rfl⟩
      rw [← hp] at hpk HT HT2 ⊢
      clear hp
      by_cases hodd : q % 2 = 1
      · have h1 : q.toNat % 2 = 1 := by omega
        have hC := HC.out
        rw [if_pos h1] at hC
        have HC2 := Lib.hid hC
        have HO := Lib.hid hodd
        have hod : ((q % 2 == 1) = true) := by simpa using hodd
        have H1 := Lib.hid h1
        clear hC hodd h1
        go_wp2_with fail
        refine (times_any p y _ hy).mono ?_
        rintro e w' ⟨rfl, rfl⟩
        rw [HT.out]
        go_wp2_with fail
        refine (times_any p p _ hpk).mono ?_
        rintro e w' ⟨rfl, rfl⟩
        rw [HT2.out]
        go_wp2
        refine ⟨⟨k + k, shn k y, q / 2, rfl, by omega, rfl, hyk, ?_, rfl⟩, by simp [intOf]; omega⟩
        rw [show (q / 2).toNat = q.toNat / 2 by omega, ← HC2.out]
        exact HSS.out
      · have h1 : ¬ q.toNat % 2 = 1 := by omega
        have hC := HC.out
        rw [if_neg h1] at hC
        have HC2 := Lib.hid hC
        have hod : ((q % 2 == 1) = false) := by simpa using hodd
        have H1 := Lib.hid h1
        clear hC hodd h1
        go_wp2_with fail
        refine (times_any p p _ hpk).mono ?_
        rintro e w' ⟨rfl, rfl⟩
        rw [HT2.out]
        go_wp2
        refine ⟨⟨k + k, y, q / 2, rfl, by omega, rfl, hy, ?_, rfl⟩, by simp [intOf]; omega⟩
        rw [show (q / 2).toNat = q.toNat / 2 by omega, ← HC2.out]
        exact HSS.out
    · have hq0 : q.toNat = 0 := by omega
      have HQ0 := Lib.hid hq0
      clear hq0
      go_wp2
      go_ret
      refine ⟨ret_u32 ?_, rfl⟩
      have h := HSS.out
      rw [HQ0.out, Nat.mul_zero] at h
      rw [u32_xor_nat _ _ hy hb0]
      unfold comb
      rw [← h]
      rfl
end Go.Proofs.Ytgjenjgiepheoaa

/- The walk of Update and Sum. -/
import Derived.Test.YtgjenjgiepheoaaWalksB
namespace Go.Proofs.Ytgjenjgiepheoaa
open Go.RowKit Crc

theorem blk_lt {w : World} {g : Nat} {o : Obj} (h : w.heap[g]? = some o) : g < w.heap.size := by
  rcases Nat.lt_or_ge g w.heap.size with hlt | hge
  · exact hlt
  · rw [Array.getElem?_eq_none hge] at h; cases h

theorem heap_at_alloc {w : World} {o : Obj} {n : Nat} (h : w.heap.size = n) : (w.alloc o).heap[n]? = some o := by
  subst h; exact heap_alloc_new w o

/-- The register's block holds y, the table's block the table. -/
def Reg (N y : Nat) (w : World) : Prop := w.heap[N + 1]? = some (.cells #[.int .u32 y] 22 (0, 0)) ∧ w.heap[N]? = some (.cells (tabCells 16) 40 (0, 0))

theorem step_reg (w : World) (N y : Nat) (b : Int) (n : Nat) (hbn : b = n) (hn : n < 16) (hy : y < 4294967296) (hr : Reg N y w) :
    Calls Try.prog 28 #[.int .u32 b, .pointer (some ⟨N + 1, 0, none⟩), .pointer (some ⟨N, 0, none⟩)] w fun e w' => e = .returned (.tuple #[]) ∧ Reg N (shn 4 (y ^^^ n)) w' ∧ Below N w w' := by
  subst hbn
  refine (step_any w n y (N + 1) N hn hy (by rw [cell_of_row _ _ _ _ _ _ hr.1]; rfl) (frozen_of_row _ _ _ _ _ hr.1) (fun i hi => ?_)).mono ?_
  · rw [cell_of_row _ _ _ _ _ _ hr.2, tabCells_get _ _ hi, if_pos hi]
  · rintro e w' ⟨rfl, rfl⟩
    refine ⟨rfl, ⟨?_, ?_⟩, ((Below.refl _ _).setCell (by simp) _).drew⟩
    · rw [heap_drew, heap_setCell_same _ _ _ _ _ _ hr.1]; rfl
    · rw [heap_drew, heap_setCell_other _ _ _ _ (by simp)]; exact hr.2

theorem and15 (c : UInt8) : bits .and .u32 (c.toNat : Int) 15 = ((c.toNat % 16 : Nat) : Int) := by
  have := c.toNat_lt
  rw [show (15 : Int) = ((15 : Nat) : Int) from rfl, u32_and_nat _ _ (by omega) (by decide), nat_mask4]

set_option maxHeartbeats 800000 in
theorem update_any (x : Nat) (s : ByteArray) (w : World) (hx : x < 4294967296) (hs : s.size ≤ maxLen) :
    Calls Try.prog 14 #[.int .u32 x, .string s] w fun e w' => e = .returned (.int .u32 (upd x s.data.toList : Nat)) ∧ Below w.heap.size w w' := by
  unfold maxLen at hs
  have HN := Lib.hid (not_u32 hx)
  have hi := inv_lt x
  go_enter Try.func14, Try.ntmps14
  go_wp2_with (first | (go_at_call 27; refine (table_any _).mono ?_; rintro e w1 ⟨rfl, hb1⟩) | (refine wpList_store_row rfl 40 _ _ rfl _ _ rfl rfl 40 _ (heap_alloc_new _ _) (by rw [tabCells_size]; exact tab_info) (by rw [tabCells_size]; rfl) (by kernel_rfl) ?_))
  rw [HN.out]
  have hsz := hb1.size
  go_loopw [8] (fun i wr => ∃ k : Nat, k ≤ s.size ∧ i = .int .i64 k ∧ Reg w1.heap.size (Crc.run (inv x) (s.data.toList.take k)) wr ∧ Below w.heap.size w wr) (fun i _ => s.size - (intOf i).toNat)
  case atStart =>
    refine ⟨0, by omega, rfl, ⟨?_, ?_⟩, (below_setRow (hb1.alloc hsz _) hsz _).alloc (by simp; omega) _⟩
    · exact heap_at_alloc (by simp)
    · rw [Below.heap_alloc _ _ _ (by simp), setRow_heap _ _ _ _ _ _ (heap_alloc_new _ _)]
  case round =>
    obtain ⟨k, hk, rfl, hr, hb⟩ := hrel
    have hbd := run_lt (s.data.toList.take k) hi
    by_cases hlt : k < s.size
    · have HS := Lib.hid (run_snoc (inv x) (s.data.toList.take k) s[k])
      rw [← take_snoc s k hlt, ← byte_step] at HS
      have hc := (s[k]).toNat_lt
      have hd : Crc.run (inv x) (s.data.toList.take k) ^^^ (s[k]).toNat % 16 < 4294967296 := Nat.xor_lt_two_pow (n := 32) hbd (by omega)
      have HD := shn_lt 4 hd
      have HR := Lib.hid hr
      have HA := Lib.hid (and15 s[k])
      have HB : Hid (((s[k]).toNat : Int) / 16 = (((s[k]).toNat / 16 : Nat) : Int)) := by show _ = _; omega
      clear hr
      go_wp2_with fail
      refine (step_reg wr _ _ _ _ HA.out (by omega) hbd HR.out).mono ?_
      rintro e w2 ⟨rfl, hr2, hb2⟩
      have HR2 := Lib.hid hr2
      clear hr2
      go_wp2_with fail
      refine (step_reg w2 _ _ _ _ HB.out (by omega) HD HR2.out).mono ?_
      rintro e w3 ⟨rfl, hr3, hb3⟩
      have HR3 := Lib.hid hr3
      clear hr3
      go_wp2
      refine ⟨⟨k + 1, by omega, by go_num, ?_, (hb.trans (hb2.mono hsz)).trans (hb3.mono hsz)⟩, by simp [intOf]; omega⟩
      rw [HS.out]
      exact HR3.out
    · have hcx := cell_of_row _ _ 0 _ _ _ hr.1
      go_wp2
      go_ret
      refine ⟨ret_u32 ?_, hb⟩
      rw [not_u32 hbd, List.take_of_length_le (by simp; omega)]
      rfl

set_option maxHeartbeats 800000 in
theorem sum_any (s : ByteArray) (w : World) (hs : s.size ≤ maxLen) :
    Calls Try.prog 12 #[.string s] w fun e w' => e = .returned (.int .u32 (Crc.sum s.data.toList : Nat)) ∧ Below w.heap.size w w' := by
  go_enter Try.func12, Try.ntmps12
  go_wp2_with (go_at_call 14; refine (update_any 0 _ _ (by decide) hs).mono ?_; rintro e w1 ⟨rfl, hb1⟩)
  go_ret
  exact ⟨rfl, hb1⟩

set_option maxHeartbeats 800000 in
theorem refSum_any (s : ByteArray) (w : World) (hs : s.size ≤ maxLen) :
    Calls Try.prog 13 #[.string s] w fun e w' => e = .returned (.int .u32 (Crc.sum s.data.toList : Nat)) ∧ w = w' := by
  go_enter Try.func13, Try.ntmps13
  go_wp2_with (go_at_call 15; refine (refUpdate_any 0 _ _ (by decide) hs).mono ?_; rintro e w' ⟨rfl, rfl⟩)
  go_ret
  exact ⟨rfl, rfl⟩
end Go.Proofs.Ytgjenjgiepheoaa

/- The walks of table, the closure of Update, and Update. -/
import Derived.Test.YtgjenjgiepheoaaWalksA
import Derived.Laws.Rows
import Derived.RegionTactic
import Derived.Deep.QuietTactic
import Derived.BigQuiet
import Derived.BigRegion
namespace Go.Proofs.Ytgjenjgiepheoaa
open Go.RowKit Crc

def tabCells (k : Nat) : Array Value := (List.map (fun i => Value.int .u32 (if i < k then ((shn 4 i : Nat) : Int) else 0)) (List.range 16)).toArray

theorem tabCells_size (k : Nat) : (tabCells k).size = 16 := by simp [tabCells]
theorem tabCells_get (k i : Nat) (h : i < 16) : (tabCells k)[i]? = some (Value.int .u32 (if i < k then ((shn 4 i : Nat) : Int) else 0)) := by
  simp [tabCells, h]
theorem tabCells_set (k : Nat) (h : k < 16) : (tabCells k).setIfInBounds k (.int .u32 ((shn 4 k : Nat) : Int)) = tabCells (k + 1) := by
  apply Array.ext_getElem?
  intro i
  rw [Array.getElem?_setIfInBounds, tabCells_size]
  by_cases hi : i < 16
  · rw [tabCells_get _ _ hi, tabCells_get _ _ hi]
    by_cases hk : k = i
    · subst hk; simp [h]
    · rw [if_neg hk]
      by_cases h1 : i < k
      · rw [if_pos h1, if_pos (by omega)]
      · rw [if_neg h1, if_neg (by omega)]
  · have : k ≠ i := by omega
    rw [if_neg this, Array.getElem?_eq_none (by rw [tabCells_size]; omega), Array.getElem?_eq_none (by rw [tabCells_size]; omega)]
theorem tab_info : (Try.prog.info? 40).map (·.size) = some 16 := by kernel_rfl
theorem below_setRow {B : Nat} {a w : World} (h : Below B a w) {g : Nat} (hg : B ≤ g) (cs : Array Value) : Below B a (w.setRow g cs) :=
  h.trans ⟨rfl, rfl, rfl, by simp, fun k hk => setRow_other w g k cs (by omega)⟩

def zeros16 : Array Value := #[Value.int IntKind.u32 0, Value.int IntKind.u32 0, Value.int IntKind.u32 0, Value.int IntKind.u32 0,
          Value.int IntKind.u32 0, Value.int IntKind.u32 0, Value.int IntKind.u32 0, Value.int IntKind.u32 0,
          Value.int IntKind.u32 0, Value.int IntKind.u32 0, Value.int IntKind.u32 0, Value.int IntKind.u32 0,
          Value.int IntKind.u32 0, Value.int IntKind.u32 0, Value.int IntKind.u32 0, Value.int IntKind.u32 0]

set_option maxHeartbeats 800000 in
theorem table_any (w : World) :
    Calls Try.prog 27 #[] w fun e w' => e = .returned (.agg (tabCells 16)) ∧ Below w.heap.size w w' := by
  go_enter Try.func27, Try.ntmps27
  go_wp2
  go_loopw [3] (fun i wr => ∃ k : Nat, k ≤ 16 ∧ i = .int .i64 k ∧ wr.heap[w.heap.size + 1]? = some (.cells (tabCells k) 40 (0, 0)) ∧ wr.heap[w.heap.size]? = some (.cells zeros16 40 (0, 0)) ∧ Below w.heap.size w wr) (fun i _ => 16 - (intOf i).toNat)
  case atStart => exact ⟨0, by omega, rfl, heap_alloc2_new _ _ _, heap_alloc2_old _ _ _, ((Below.refl _ _).alloc (Nat.le_refl _) _).alloc (by simp) _⟩
  case round =>
    obtain ⟨k, hk, rfl, hh, hz, hb⟩ := hrel
    by_cases hlt : k < 16
    · have hc := cell_of_row wr (w.heap.size + 1) k _ _ _ hh
      rw [tabCells_get k k hlt] at hc
      have hf := frozen_of_row wr (w.heap.size + 1) k _ _ hh
      have HH := Lib.hid hh
      have HZ := Lib.hid hz
      clear hh hz
      go_wp2_with (go_at_call 30; refine (shift_any k 4 _ (by omega) (by omega)).mono ?_; rintro e w' ⟨rfl, rfl⟩)
      have hz' := HZ.out
      have hh' := HH.out
      refine ⟨⟨k + 1, by omega, by go_num, ?_, ?_, hb.setCell (by simp) _⟩, by simp [intOf]; omega⟩
      · rw [heap_setCell_same _ _ _ _ _ _ hh', tabCells_set k hlt]
      · rw [heap_setCell_other _ _ _ _ (by simp)]; exact hz'
    · obtain rfl : k = 16 := by omega
      go_wp2_with (first | (refine wpList_load_row rfl 40 _ rfl _ rfl 40 _ (0, 0) _ hh Try.underlying40 rfl (by rw [tabCells_size]; exact tab_info) ?_) | (refine wpList_store_row rfl 40 _ _ rfl _ _ rfl rfl 40 _ hz (by rw [tabCells_size]; exact tab_info) (by rw [tabCells_size]; rfl) (by kernel_rfl) ?_))
      exact bodyPost_ret (v := .agg (tabCells 16)) (results_cell_row rfl _ _ w.heap.size 40 _ (0, 0) _ rfl (setRow_heap _ _ _ _ _ _ hz) Try.underlying40 rfl (by rw [tabCells_size]; exact tab_info)) rfl ⟨rfl, below_setRow hb (Nat.le_refl _) _⟩

theorem step_index {x b : Nat} (hx : x < 4294967296) (hb : b < 16) : bits .and .u32 (bits .xor .u32 (x : Int) (b : Int)) 15 = (((x ^^^ b) % 16 : Nat) : Int) := by
  rw [u32_xor_nat _ _ hx (by omega), show (15 : Int) = ((15 : Nat) : Int) from rfl, u32_and_nat _ _ (Nat.xor_lt_two_pow (n := 32) hx (by omega)) (by decide), nat_mask4]
theorem step_value {x b : Nat} (hx : x < 4294967296) (hb : b < 16) : bits .xor .u32 ((x : Int) / 16) ((shn 4 ((x ^^^ b) % 16) : Nat) : Int) = ((shn 4 (x ^^^ b) : Nat) : Int) := by
  rw [show (x : Int) / 16 = ((x / 16 : Nat) : Int) by omega, u32_xor_nat _ _ (by omega) (shn_lt 4 (by omega)), step4 hb]

set_option maxHeartbeats 800000 in
theorem step_any (w : World) (b x : Nat) (bx bt : Nat) (hb : b < 16) (hx : x < 4294967296) (hcx : w.cell? ⟨bx, 0, none⟩ = some (.int .u32 x)) (hfx : w.frozen? ⟨bx, 0, none⟩ = false)
    (hct : ∀ i, i < 16 → w.cell? ⟨bt, i, none⟩ = some (.int .u32 (shn 4 i : Nat))) :
    Calls Try.prog 28 #[.int .u32 b, .pointer (some ⟨bx, 0, none⟩), .pointer (some ⟨bt, 0, none⟩)] w fun e w' => e = .returned (.tuple #[]) ∧ w' = (w.setCell ⟨bx, 0, none⟩ (.int .u32 (shn 4 (x ^^^ b) : Nat))).drew := by
  have h1 := step_index hx hb
  have h2 := step_value hx hb
  have hi : (x ^^^ b) % 16 < 16 := by omega
  have hc := hct _ hi
  obtain ⟨i, hie⟩ : ∃ i, i = (x ^^^ b) % 16 := ⟨_, rfl⟩
  obtain ⟨v, hve⟩ : ∃ v, v = shn 4 (x ^^^ b) := ⟨_, rfl⟩
  rw [← hie] at h1 h2 hi hc
  rw [← hve] at h2 ⊢
  clear hie hve hct
  go_enter Try.func28, Try.ntmps28
  go_wp2
  go_region
  all_goals
    go_end0
    exact ⟨rfl, rfl⟩
end Go.Proofs.Ytgjenjgiepheoaa

/- The walk of Xor. -/
import Derived.Test.YtgjenjgiepheoaaWalksD
namespace Go.Proofs.Ytgjenjgiepheoaa
open Go.RowKit Crc

/-- The list behind k bytes of the mask. -/
def xorTo (l : List UInt8) (a : Nat) (m : List UInt8) : Nat → List UInt8
  | 0 => l
  | k + 1 => (xorTo l a m k).set (a + k) ((xorTo l a m k).getD (a + k) 0 ^^^ m.getD k 0)

theorem xorTo_length (l : List UInt8) (a : Nat) (m : List UInt8) (k : Nat) : (xorTo l a m k).length = l.length := by
  induction k with
  | zero => rfl
  | succ k ih => rw [xorTo, List.length_set, ih]

/-- A row of bytes in memory that may be written. -/
def BRow (w : World) (b : Nat) (l : List UInt8) : Prop := ∀ i, i < l.length → w.cell? ⟨b, i, none⟩ = some (.int .u8 ((l.getD i 0).toNat : Nat)) ∧ w.frozen? ⟨b, i, none⟩ = false

theorem BRow.set {w : World} {b : Nat} {l : List UInt8} (h : BRow w b l) (j : Nat) (v : UInt8) : BRow (w.setCell ⟨b, j, none⟩ (.int .u8 (v.toNat : Nat))) b (l.set j v) := by
  intro i hi
  rw [List.length_set] at hi
  refine ⟨?_, by rw [World.frozen?_setCell]; exact (h i hi).2⟩
  by_cases hij : j = i
  · subst hij
    rw [World.cell?_setCell_same w _ _ (h j hi).1]
    simp [List.getD, hi]
  · rw [World.cell?_setCell_other w _ _ _ (fun e => hij (by injection e)), (h i hi).1]
    simp [List.getD, hij]

theorem BRow.drew {w : World} {b : Nat} {l : List UInt8} (h : BRow w b l) : BRow w.drew b l := fun i hi => h i hi

theorem brow_new (w : World) (s : ByteArray) : BRow (Lib.bytesWorld w 5 s) w.heap.size s.data.toList := by
  intro i hi
  have hi' : i < s.size := by simpa using hi
  refine ⟨Lib.bytesWorld_cell w 5 s i hi', ?_⟩
  have hs : s.size ≤ (Lib.bytesCells w 5 s).size := by simp [Lib.bytesCells]
  simp only [World.frozen?, Lib.bytesWorld_at_new]
  simp
  omega

theorem below_bytesWorld (w : World) (s : ByteArray) : Below w.heap.size w (Lib.bytesWorld w 5 s) := by
  refine ⟨?_, ?_, ?_, by rw [Lib.bytesWorld_size]; omega, fun k hk => Lib.bytesWorld_at_old w 5 s k hk⟩
  all_goals
    simp [Lib.bytesWorld, World.freeze, World.alloc, World.drew, -World.alloc_eq, -World.drew_eq]

def ofList (l : List UInt8) : ByteArray := ⟨l.toArray⟩

theorem conv_row (w : World) (b cap : Nat) (l : List UInt8) (h : BRow w b l) :
    (convert 45 9 (.slice (some ⟨b, 0, none⟩) l.length cap)).run Try.prog w = .ok (.string (ofList l)) w := by
  have := run_convert_bytes_arg (P := Try.prog) w 45 5 Try.underlying45 Try.underlying5 b 0 l.length cap (l.map fun c => (c.toNat : Int)) (by simp) (fun i hi => by
    rw [Nat.zero_add, (h i hi).1]
    simp [List.getD, hi]) 9 Try.underlying9
  rw [this]
  congr 2
  simp [strOfNums, ofList, Function.comp_def]

theorem xor_u8 (a b : UInt8) : bits .xor .u8 (a.toNat : Int) (b.toNat : Int) = (((a ^^^ b).toNat : Nat) : Int) := by
  rw [u8_xor_nat _ _ a.toNat_lt b.toNat_lt, UInt8.toNat_xor]

set_option maxHeartbeats 1600000 in
theorem xor_any (s m : ByteArray) (a : Nat) (w : World) (hs : s.size ≤ 1000) (hm : m.size ≤ 1000) (ha : a ≤ 1000) :
    Calls Try.prog 16 #[.string s, .int .i64 a, .string m] w fun e w' => e = .returned (.string (ofList (xorTo s.data.toList a m.data.toList m.size))) ∧ Below w.heap.size w w' := by
  have hcv := fun w => Lib.run_convert_string_bytes (P := Try.prog) w 9 45 5 s Try.underlying9 Try.underlying45 Try.underlying5
  go_enter Try.func16, Try.ntmps16
  go_wp2
  clear hcv
  go_loopw [8] (fun i wr => ∃ k : Nat, k ≤ m.size ∧ i = .int .i64 k ∧ BRow wr w.heap.size (xorTo s.data.toList a m.data.toList k) ∧ Below w.heap.size w wr) (fun i _ => m.size - (intOf i).toNat)
  case atStart => exact ⟨0, by omega, rfl, brow_new w s, below_bytesWorld w s⟩
  case round =>
    obtain ⟨k, hk, rfl, hr, hb⟩ := hrel
    have hlen := xorTo_length s.data.toList a m.data.toList k
    rw [show s.data.toList.length = s.size from by simp] at hlen
    by_cases hlt : k < m.size
    · by_cases hin : a + k < s.size
      · obtain ⟨hc, hf⟩ := hr (a + k) (by omega)
        have HR := Lib.hid hr
        have HX := Lib.hid (xor_u8 ((xorTo s.data.toList a m.data.toList k).getD (a + k) 0) m[k])
        obtain ⟨y, hy⟩ : ∃ y, y = (xorTo s.data.toList a m.data.toList k).getD (a + k) 0 := ⟨_, rfl⟩
        rw [← hy] at hc HX
        have HY := Lib.hid hy
        clear hr hy hlen
        have HK : Hid (m.data.toList.getD k 0 = m[k]) := by
          show _ = _
          have h1 : k < m.data.toList.length := by simpa using hlt
          rw [List.getD_eq_getElem?_getD, List.getElem?_eq_getElem h1]
          rfl
        go_wp2
        go_region
        go_wp2
        rw [HX.out]
        refine ⟨⟨k + 1, by omega, by go_num, ?_, (hb.setCell (by simp) _).drew⟩, by simp [intOf]; omega⟩
        rw [xorTo, HK.out, ← HY.out]
        exact (HR.out.set _ _).drew
      · have hx : xorTo s.data.toList a m.data.toList (k + 1) = xorTo s.data.toList a m.data.toList k := by
          rw [xorTo, List.set_eq_of_length_le (by omega)]
        have HX := Lib.hid hx
        clear hx
        go_wp2
        refine ⟨⟨k + 1, by omega, by go_num, ?_, hb⟩, by simp [intOf]; omega⟩
        rw [HX.out]
        exact hr
    · have hkm : k = m.size := by omega
      have hcv := conv_row wr w.heap.size (grownCap w s.size 0 5) _ hr
      rw [hlen] at hcv
      clear hr hlen
      obtain rfl := hkm
      go_wp2
      go_ret
      exact ⟨rfl, hb⟩
end Go.Proofs.Ytgjenjgiepheoaa

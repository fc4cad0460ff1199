/- Walks: numbers in two bytes, Trim, Unused, zeros, check. -/
import Derived.Test.YtnkhifgppcnmkaaDoorW1
import Derived.Deep.OwnRows
namespace Go.Proofs.YtnkhifgppcnmkaaDoor
open Go.RowKit Iv

theorem byteAt_get (d : ByteArray) (i : Nat) (h : i < d.size) : (d[i]).toNat = byteAt d i := by
  have h1 : i < d.data.toList.length := by simpa using h
  unfold byteAt
  rw [List.getD_eq_getElem?_getD, List.getElem?_eq_getElem h1]
  rfl

theorem two_or (a b : Nat) (ha : a < 256) (hb : b < 256) : bits .or .i64 (a : Int) ((b : Int) * 256) = ((a + 256 * b : Nat) : Int) := by
  have hk : ∀ n : Int, 0 ≤ n → n < 2 ^ 63 → IntKind.i64.wrap n = n := fun n h h' => by rw [IntKind.wrap_i64]; omega
  have h := (bits_nat .i64 63 (by decide) hk a (256 * b) (by omega) (by omega)).2
  rw [show (b : Int) * 256 = ((256 * b : Nat) : Int) by omega, h, Nat.or_comm, nat_join 8 (256 * b) a (by omega) (by omega)]
  congr 1
  omega

theorem two_val (d : ByteArray) (i : Nat) (h : i < d.size) (h' : i + 1 < d.size) :
    bits .or .i64 (wrap64 ((d[i]).toNat : Int)) (wrap64 (wrap64 ((d[i + 1]).toNat : Int) * 256)) = ((twoOf d i : Nat) : Int) := by
  have ha := (d[i]).toNat_lt
  have hb := (d[i + 1]).toNat_lt
  have e1 : wrap64 ((d[i]).toNat : Int) = ((d[i]).toNat : Int) := by unfold wrap64; omega
  have e2 : wrap64 (wrap64 ((d[i + 1]).toNat : Int) * 256) = ((d[i + 1]).toNat : Int) * 256 := by unfold wrap64; omega
  rw [e1, e2, two_or _ _ ha hb, byteAt_get, byteAt_get]
  rfl

theorem num_val (d : ByteArray) (i : Nat) (h : i < d.size) (h' : i + 1 < d.size) :
    wrap64 (wrap64 ((d[i]).toNat : Int) + wrap64 (256 * wrap64 ((d[i + 1]).toNat : Int))) = ((twoOf d i : Nat) : Int) := by
  have ha := (d[i]).toNat_lt
  have hb := (d[i + 1]).toNat_lt
  unfold twoOf
  rw [← byteAt_get d i h, ← byteAt_get d (i + 1) h']
  unfold wrap64
  omega

set_option maxHeartbeats 800000 in
theorem twoAt_any (d : ByteArray) (i : Nat) (w : World) (h : i + 1 < d.size) (hd : d.size ≤ maxLen) :
    Calls Tryd.prog 83 #[.string d, .int .i64 i] w fun e w' => e = .returned (.int .i64 (twoOf d i : Nat)) ∧ Below w.heap.size w w' := by
  unfold maxLen at hd
  have q0 : ((i : Int) < (d.size : Int)) = True := eq_true (by omega)
  have q1 : ((i : Int) + 1 < (d.size : Int)) = True := eq_true (by omega)
  have q2 : (0 : Int) ≤ (i : Int) + 1 := by omega
  have q3 : ((i : Int) + 1).toNat = i + 1 := by omega
  have q4 : IntKind.i64.wrap ((i : Int) + 1) = (i : Int) + 1 := by rw [IntKind.wrap_i64]; omega
  go_enter Tryd.func83, Tryd.ntmps83
  go_wp2
  go_quiet (fail)
  go_wp2
  go_ret
  exact ⟨ret_int (two_val d i (by omega) h), below_drewN (Below.refl _ _) _⟩

set_option maxHeartbeats 800000 in
theorem number_any (d : ByteArray) (i : Nat) (w : World) (h : i + 1 < d.size) (hd : d.size ≤ maxLen) :
    Calls Tryd.prog 128 #[.string d, .int .i64 i] w fun e w' => e = .returned (.int .i64 (twoOf d i : Nat)) ∧ Below w.heap.size w w' := by
  unfold maxLen at hd
  have q0 : ((i : Int) < (d.size : Int)) = True := eq_true (by omega)
  have q1 : ((i : Int) + 1 < (d.size : Int)) = True := eq_true (by omega)
  have q2 : (0 : Int) ≤ (i : Int) + 1 := by omega
  have q3 : ((i : Int) + 1).toNat = i + 1 := by omega
  have q4 : IntKind.i64.wrap ((i : Int) + 1) = (i : Int) + 1 := by rw [IntKind.wrap_i64]; omega
  go_enter Tryd.func128, Tryd.ntmps128
  go_wp2
  go_quiet (fail)
  go_wp2
  go_ret
  exact ⟨ret_int (num_val d i (by omega) h), below_drewN (Below.refl _ _) _⟩

/-- The text behind trimRight: the zeros at the end are gone. -/
def TrimmedR (d : ByteArray) (w : World) (e : Ending) (w' : World) : Prop :=
  ∃ (r : ByteArray) (m : Nat), e = .returned (.string r) ∧ r.size ≤ d.size ∧ d.data.toList = r.data.toList ++ List.replicate m 0 ∧ (r.size = 0 ∨ byteAt r (r.size - 1) ≠ 0) ∧ w = w'

theorem front_cut (r : ByteArray) (q : Nat) (h : r.size = q + 1) (hz : byteAt r q = 0) : r.data.toList = (r.extract 0 q).data.toList ++ [0] := by
  have hl : r.data.toList.length = q + 1 := by simpa using h
  have h1 : q < r.data.toList.length := by omega
  have e : r.data.toList.take (q + 1) = r.data.toList.take q ++ [r.data.toList[q]] := List.take_succ_eq_append_getElem h1
  rw [List.take_of_length_le (by omega)] at e
  have hb : r.data.toList[q] = 0 := by
    unfold byteAt at hz
    rw [List.getD_eq_getElem?_getD, List.getElem?_eq_getElem h1] at hz
    exact UInt8.toNat_inj.1 hz
  rw [hb] at e
  rw [show (r.extract 0 q).data.toList = r.data.toList.take q by simp]
  exact e

set_option maxHeartbeats 800000 in
theorem trimRight_any (d : ByteArray) (w : World) (hd : d.size ≤ maxLen) :
    Calls Tryd.prog 130 #[.string d, .int .u8 0] w (TrimmedR d w) := by
  unfold maxLen at hd
  go_enter Tryd.func130, Tryd.ntmps130
  go_wp2
  go_loop [0] (fun x => ∃ (r : ByteArray) (m : Nat), x = .string r ∧ r.size ≤ d.size ∧ d.data.toList = r.data.toList ++ List.replicate m 0) (fun x => match x with | .string r => r.size | _ => 0)
  case atStart => exact ⟨d, 0, rfl, Nat.le_refl _, by simp⟩
  case round =>
    obtain ⟨r, m, rfl, hr, he⟩ := hrel
    have HE := Lib.hid he
    clear he
    by_cases h0 : r.size = 0
    · go_wp2
      go_ret
      exact ⟨r, m, rfl, hr, HE.out, .inl h0, rfl⟩
    · obtain ⟨q, hq⟩ : ∃ q, r.size = q + 1 := ⟨r.size - 1, by omega⟩
      clear h0
      have hq' : q < r.size := by omega
      have HB := Lib.hid (byteAt_get r q hq')
      have HC := Lib.hid (front_cut r q hq)
      have HX : Hid ((r.extract 0 q).size = q) := by show _ = _; rw [ByteArray.size_extract]; omega
      go_wp2
      · have h : ((r[q].toNat : Int) == 0) = true := by assumption
        have hz : byteAt r q = 0 := by rw [← HB.out]; simpa using h
        refine ⟨⟨r.extract 0 q, m + 1, rfl, ?_, ?_⟩, ?_⟩
        · rw [HX.out]; omega
        · rw [HE.out, HC.out hz, List.append_assoc, List.replicate_succ]; rfl
        · show (r.extract 0 q).size < r.size
          rw [HX.out]; omega
      · have h : ((r[q].toNat : Int) == 0) = false := by assumption
        have hz : byteAt r q ≠ 0 := by rw [← HB.out]; simpa using h
        go_ret
        exact ⟨r, m, rfl, hr, HE.out, .inr (by rw [hq]; exact hz), rfl⟩

/-- The text behind trimLeft: the zeros at the begin are gone. -/
def TrimmedL (d : ByteArray) (w : World) (e : Ending) (w' : World) : Prop :=
  ∃ (r : ByteArray) (m : Nat), e = .returned (.string r) ∧ d.data.toList = List.replicate m 0 ++ r.data.toList ∧ w = w'

theorem back_cut (r : ByteArray) (h : 0 < r.size) (hz : byteAt r 0 = 0) : r.data.toList = 0 :: (r.extract 1 r.size).data.toList := by
  have hl : r.data.toList.length = r.size := by simp
  have e1 : (r.extract 1 r.size).data.toList = r.data.toList.drop 1 := by
    simp only [ByteArray.data_extract, Array.toList_extract]
    rw [List.extract_eq_take_drop, List.take_of_length_le (by rw [List.length_drop]; omega)]
  rw [e1]
  unfold byteAt at hz
  cases hx : r.data.toList with
  | nil => rw [hx] at hl; simp at hl; omega
  | cons c t =>
    rw [hx] at hz
    have : c = 0 := UInt8.toNat_inj.1 hz
    rw [this]
    rfl

set_option maxHeartbeats 800000 in
theorem trimLeft_any (d : ByteArray) (w : World) :
    Calls Tryd.prog 129 #[.string d, .int .u8 0] w (TrimmedL d w) := by
  go_enter Tryd.func129, Tryd.ntmps129
  go_wp2
  go_loop [0] (fun x => ∃ (r : ByteArray) (m : Nat), x = .string r ∧ r.size ≤ d.size ∧ d.data.toList = List.replicate m 0 ++ r.data.toList) (fun x => match x with | .string r => r.size | _ => 0)
  case atStart => exact ⟨d, 0, rfl, Nat.le_refl _, by simp⟩
  case round =>
    obtain ⟨r, m, rfl, hr, he⟩ := hrel
    have HE := Lib.hid he
    clear he
    by_cases h0 : r.size = 0
    · go_wp2
      go_ret
      exact ⟨r, m, rfl, HE.out, rfl⟩
    · have hp : 0 < r.size := by omega
      clear h0
      have HB := Lib.hid (byteAt_get r 0 hp)
      have HC := Lib.hid (back_cut r hp)
      have HX : Hid ((r.extract 1 r.size).size = r.size - 1) := by show _ = _; rw [ByteArray.size_extract]; omega
      have q0 : (0 < r.size) = True := eq_true hp
      go_wp2
      · have h : ((r[0].toNat : Int) == 0) = true := by assumption
        have hz : byteAt r 0 = 0 := by rw [← HB.out]; simpa using h
        refine ⟨⟨r.extract 1 r.size, m + 1, rfl, ?_, ?_⟩, ?_⟩
        · rw [HX.out]; omega
        · rw [HE.out, HC.out hz, List.replicate_succ']; simp
        · show (r.extract 1 r.size).size < r.size
          rw [HX.out]; omega
      · go_ret
        exact ⟨r, m, rfl, HE.out, rfl⟩

/-- What Trim leaves of zeros at both ends is empty exactly if all was zero. -/
def Trimmed (d : ByteArray) (w : World) (e : Ending) (w' : World) : Prop :=
  ∃ r : ByteArray, e = .returned (.string r) ∧ (r.toList.isEmpty = unusedOf d) ∧ Below w.heap.size w w'

theorem isEmpty_iff (s : ByteArray) : s.toList.isEmpty = s.data.toList.isEmpty := by rw [ByteArray.toList_eq]

theorem trim_all {d r t : ByteArray} {m k : Nat} (h1 : d.data.toList = r.data.toList ++ List.replicate m 0) (h2 : r.size = 0 ∨ byteAt r (r.size - 1) ≠ 0) (h3 : r.data.toList = List.replicate k 0 ++ t.data.toList) :
    t.toList.isEmpty = unusedOf d := by
  rw [isEmpty_iff]
  unfold unusedOf
  rw [h1, h3]
  cases ht : t.data.toList with
  | nil => simp
  | cons c x =>
    have hne : r.size ≠ 0 := by
      have e : r.data.toList.length = r.size := by simp
      rw [h3, ht] at e
      simp at e
      omega
    rcases h2 with h2 | h2
    · exact absurd h2 hne
    · symm
      simp only [List.isEmpty_cons]
      rw [Bool.eq_false_iff]
      intro hall
      rw [List.all_eq_true] at hall
      apply h2
      have e : r.data.toList.length = r.size := by simp
      have hlt : r.size - 1 < r.data.toList.length := by omega
      unfold byteAt
      rw [List.getD_eq_getElem?_getD, List.getElem?_eq_getElem hlt]
      have hm : ∀ y ∈ r.data.toList, y = 0 := fun y hy => by
        rw [h3, ht] at hy
        have := hall y (List.mem_append.2 (.inl hy))
        simpa using this
      rw [hm _ (List.getElem_mem hlt)]
      rfl

theorem one_zero : (ByteArray.mk #[0]).size = 1 := rfl

set_option maxHeartbeats 1600000 in
set_option maxRecDepth 100000 in
theorem trim_any (d : ByteArray) (w : World) (hd : d.size ≤ maxLen) :
    Calls Tryd.prog 87 #[.string d, .string { data := #[0] }] w (Trimmed d w) := by
  by_cases h0 : d.toList.isEmpty = true
  · go_enter Tryd.func87, Tryd.ntmps87
    go_wp2
    go_ret
    refine ⟨d, rfl, ?_, Below.refl _ _⟩
    rw [h0]
    rw [isEmpty_iff] at h0
    unfold unusedOf
    rw [List.isEmpty_iff.1 h0]
    rfl
  · have h0' : d.toList.isEmpty = false := by simpa using h0
    clear h0
    have HD := Lib.hid hd
    clear hd
    have hz0 : (({ data := #[0] } : ByteArray)[0]).toNat = 0 := rfl
    go_enter Tryd.func87, Tryd.ntmps87
    go_wp2
    go_region_held3 (fun _ => True) (trivial) (first | (go_at_call 130; refine (trimRight_any _ _ HD.out).mono ?_; rintro e w1 ⟨r, m, rfl, hr, hx, hy, rfl⟩; have HX := Lib.hid hx; have HY := Lib.hid hy; clear hx hy) | (go_at_call 129; refine (trimLeft_any _ _).mono ?_; rintro e w1 ⟨t, k, rfl, ht, rfl⟩; have HT := Lib.hid ht; clear ht))
    all_goals
      go_wp2
      go_ret
      exact ⟨t, rfl, trim_all HX.out HY.out HT.out, (Below.refl _ _).drew⟩

set_option maxHeartbeats 800000 in
theorem unused_any (d : ByteArray) (w : World) (hd : d.size ≤ maxLen) :
    Calls Tryd.prog 34 #[.string d] w fun e w' => e = .returned (.bool (unusedOf d)) ∧ Below w.heap.size w w' := by
  go_enter Tryd.func34, Tryd.ntmps34
  go_wp2_with fail
  refine (trim_any _ _ hd).mono ?_
  rintro e w1 ⟨r, rfl, hr, hb⟩
  go_wp2
  go_ret
  exact ⟨rfl, hb⟩

theorem info5 : (Tryd.prog.info? 5).map (fun i => (i.zero, i.size, i.bytes)) = some (some (.int .u8 0), 1, 1) := by kernel_rfl

set_option maxRecDepth 100000 in
/-- '[]byte' made into a string. -/
theorem conv_bytes (w : World) (b o cap : Nat) (l : List UInt8) (h : ∀ i, i < l.length → w.cell? ⟨b, o + i, none⟩ = some (.int .u8 ((l.getD i 0).toNat : Nat))) :
    (convert 57 9 (.slice (some ⟨b, o, none⟩) l.length cap)).run Tryd.prog w = .ok (.string (ofL l)) w := by
  have := run_convert_bytes_arg (P := Tryd.prog) w 57 5 Tryd.underlying57 Tryd.underlying5 b o l.length cap (l.map fun c => (c.toNat : Int)) (by simp) (fun i hi => by
    rw [h i hi]
    simp [List.getD, hi]) 9 Tryd.underlying9
  rw [this]
  congr 2
  simp [strOfNums, ofL, Function.comp_def]

theorem make_bytes (k : Nat) (hk : k ≤ 100000) (w : World) :
    (Instr.makeSlice 57 (.int .i64 (k : Int)) (.int .i64 (k : Int))).run Tryd.prog w = .ok (.slice (some ⟨w.heap.size, 0, none⟩) k k) (w.alloc (.cells (madeCells #[.int .u8 0] k) 5)) :=
  run_make_row' (P := Tryd.prog) 57 5 (.int .u8 0) 1 Tryd.underlying57 info5 rfl .i64 .i64 k (by omega) (by omega) w

theorem made_cell (z : Value) (k i : Nat) (h : i < k) : (madeCells #[z] k)[i]? = some z := by
  have := toList_madeCells_one z k
  rw [← Array.getElem?_toList, this]
  simp [h]

theorem conv_zeros (w : World) (k : Nat) :
    (convert 57 9 (.slice (some ⟨w.heap.size, 0, none⟩) k k)).run Tryd.prog (w.alloc (.cells (madeCells #[.int .u8 0] k) 5)) = .ok (.string (ofL (List.replicate k 0))) (w.alloc (.cells (madeCells #[.int .u8 0] k) 5)) := by
  have h := conv_bytes (w.alloc (.cells (madeCells #[.int .u8 0] k) 5)) w.heap.size 0 k (List.replicate k 0) (fun i hi => by
    rw [List.length_replicate] at hi
    rw [Nat.zero_add, cell_of_row _ _ _ _ _ _ (heap_alloc_new w _), made_cell _ _ _ hi]
    simp [List.getD, hi])
  rw [List.length_replicate] at h
  exact h

set_option maxHeartbeats 800000 in
set_option maxRecDepth 100000 in
theorem zeros_any (k : Nat) (w : World) (hk : k ≤ 1000) :
    Calls Tryd.prog 88 #[.int .i64 k] w fun e w' => e = .returned (.string (ofL (List.replicate k 0))) ∧ Below w.heap.size w w' := by
  by_cases h0 : k = 0
  · subst h0
    have hmk : ∀ w : World, (Instr.makeSlice 57 (.int .i64 0) (.int .i64 0)).run Tryd.prog w = .ok (.slice (some ⟨w.heap.size, 0, none⟩) 0 0) (w.alloc (.cells (madeCells #[.int .u8 0] 0) 5)) := make_bytes 0 (by omega)
    have hcv := conv_zeros w 0
    go_enter Tryd.func88, Tryd.ntmps88
    go_wp2
    go_ret
    exact ⟨rfl, (Below.refl _ _).alloc (Nat.le_refl _) _⟩
  · have hpos : 0 < k := by omega
    have hmk := make_bytes k (by omega)
    have hcv := conv_zeros w k
    go_enter Tryd.func88, Tryd.ntmps88
    go_wp2
    go_ret
    exact ⟨rfl, (Below.refl _ _).alloc (Nat.le_refl _) _⟩

theorem unused_zeros (d : ByteArray) : (d.toList == (ofL (List.replicate d.size 0)).toList) = unusedOf d := by
  rw [ByteArray.toList_eq, ByteArray.toList_eq, ofL_data]
  have hs : d.size = d.data.toList.length := by simp
  rw [hs]
  unfold unusedOf
  rw [Bool.eq_iff_iff, beq_iff_eq, List.eq_replicate_iff, List.all_eq_true]
  simp

set_option maxHeartbeats 800000 in
theorem refUnused_any (d : ByteArray) (w : World) (hd : d.size ≤ 1000) :
    Calls Tryd.prog 35 #[.string d] w fun e w' => e = .returned (.bool (unusedOf d)) ∧ Below w.heap.size w w' := by
  go_enter Tryd.func35, Tryd.ntmps35
  go_wp2_with fail
  refine (zeros_any _ _ hd).mono ?_
  rintro e w1 ⟨rfl, hb⟩
  go_wp2
  go_ret
  exact ⟨ret_bool (unused_zeros d), hb⟩

/-- What check answers. -/
def checkOf (size : Int) (d : ByteArray) : Int := if (d.size : Int) ≠ size then 11 else if unusedOf d = true then 9 else 0

set_option maxHeartbeats 800000 in
theorem check_any (size : Int) (d : ByteArray) (w : World) (hd : d.size ≤ maxLen) :
    Calls Tryd.prog 82 #[.int .i64 size, .string d] w fun e w' => e = .returned (.int .i64 (checkOf size d)) ∧ Below w.heap.size w w' := by
  by_cases h : (d.size : Int) = size
  · have hb : ((d.size : Int) != size) = false := by simp [h]
    have hc : checkOf size d = if unusedOf d = true then 9 else 0 := by unfold checkOf; rw [if_neg (fun hn => hn h)]
    rw [hc]
    clear h hc
    have HD := Lib.hid hd
    clear hd
    obtain ⟨u, hu⟩ : ∃ u, u = unusedOf d := ⟨_, rfl⟩
    have HU := Lib.hid (unused_any d w HD.out)
    rw [← hu] at HU ⊢
    clear hu
    cases u
    all_goals
      go_enter Tryd.func82, Tryd.ntmps82
      go_wp2_with fail
      refine HU.out.mono ?_
      rintro e w1 ⟨rfl, hb1⟩
      go_wp2
      go_ret
      exact ⟨rfl, hb1⟩
  · have hb : ((d.size : Int) != size) = true := by simp [h]
    have hc : checkOf size d = 11 := by unfold checkOf; rw [if_pos h]
    rw [hc]
    clear h hc
    go_enter Tryd.func82, Tryd.ntmps82
    go_wp2
    go_ret
    exact ⟨rfl, Below.refl _ _⟩
end Go.Proofs.YtnkhifgppcnmkaaDoor

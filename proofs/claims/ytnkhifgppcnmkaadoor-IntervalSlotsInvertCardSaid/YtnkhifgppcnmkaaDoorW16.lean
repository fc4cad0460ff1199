/- Walks: EncodeSlots. -/
import Derived.Test.YtnkhifgppcnmkaaDoorW15
namespace Go.Proofs.YtnkhifgppcnmkaaDoor
open Go.RowKit Iv

/-- The numbers of slots, as they are. -/
theorem slot_nums {size len : Int} (h : lenOk size len = true) : ∃ s m n : Nat, size = s ∧ len = m ∧ slotCount size len = n ∧ 128 ≤ s ∧ s ≤ 512 ∧ 1 ≤ m ∧ m ≤ 200 ∧ 1 ≤ n ∧ n ≤ 127 ∧ n * m + 3 * n + 4 ≤ s ∧ (s : Int) = size ∧ m + 7 ≤ s := by
  obtain ⟨f1, f2, f3, f4⟩ := lenOk_facts h
  obtain ⟨g1, g2, g3⟩ := slotCount_facts h
  obtain ⟨n, hn⟩ : ∃ n : Nat, slotCount size len = n := ⟨(slotCount size len).toNat, by omega⟩
  obtain ⟨m, rfl⟩ : ∃ m : Nat, len = m := ⟨len.toNat, by omega⟩
  obtain ⟨s, rfl⟩ : ∃ s : Nat, size = s := ⟨size.toNat, by omega⟩
  rw [hn] at g1 g2
  refine ⟨s, m, n, rfl, rfl, hn, by omega, by omega, by omega, by omega, by omega, by omega, ?_, rfl, by omega⟩
  have e : (n : Int) * ((m : Int) + 3) = ((n * m + 3 * n : Nat) : Int) := by
    rw [Int.mul_add]; push_cast; omega
  rw [e] at g2
  omega

theorem sltAll_ok (l : List Slt) (m n k : Nat) (hk : k < n) (h : (sltAll l n).all (sltOk m) = true) : sltOk m (sltAt l k) = true := by
  rw [List.all_eq_true] at h
  exact h _ (List.mem_of_getElem? (sltAll_get l n k hk))

theorem slt_room (m n s k : Nat) (hk : k < n) (h : n * m + 3 * n + 4 ≤ s) : k * m + m + (3 * k + 3) + 4 ≤ s := by
  have : (k + 1) * m ≤ n * m := Nat.mul_le_mul_right _ hk
  rw [Nat.succ_mul] at this
  omega

set_option maxHeartbeats 6400000 in
set_option maxRecDepth 100000 in
theorem encSlots_any (size len : Int) (A : Option Addr) (c : Nat) (l : List Slt) (w : World) (hs : RowA w A (sltCells l)) :
    Calls Tryd.prog 43 #[.int .i64 size, .int .i64 len, .slice A l.length c] w fun e w' => e = .returned (.tuple #[.string (encSlots size len l).1, .int .i64 (encSlots size len l).2]) ∧ Below w.heap.size w w' := by
  have HS := Lib.hid hs
  clear hs
  cases h1 : lenOk size len with
  | false =>
    have he : encSlots size len l = (ByteArray.empty, 1) := by unfold encSlots; rw [if_pos h1]
    have hc : slotCount size len = 0 := by rw [slot_len, if_neg (by simp [h1])]
    rw [he]
    go_enter Tryd.func43, Tryd.ntmps43
    go_wp2_with fail
    refine (slotCount_any _ _ _).mono ?_
    rintro e w' ⟨rfl, rfl⟩
    rw [hc]
    go_wp2
    go_ret2
    exact ⟨rfl, Below.refl _ _⟩
  | true =>
    obtain ⟨s, m, n, rfl, rfl, hn, hs1, hs2, hm1, hm2, hn1, hn2, hroom, _, _⟩ := slot_nums h1
    by_cases h2 : slotCount s m < (l.length : Int)
    · have he : encSlots s m l = (ByteArray.empty, 8) := by unfold encSlots; rw [if_neg (by simp [h1]), if_pos h2]
      rw [he]
      have hz : ((n : Int) == 0) = false := by simp; omega
      rw [hn] at h2
      have HN := Lib.hid hn
      clear hn hroom
      go_enter Tryd.func43, Tryd.ntmps43
      go_wp2_with fail
      refine (slotCount_any _ _ _).mono ?_
      rintro e w' ⟨rfl, rfl⟩
      rw [HN.out]
      go_wp2
      go_ret2
      exact ⟨rfl, Below.refl _ _⟩
    · obtain ⟨ans, hans⟩ : ∃ ans, ans = encSlots s m l := ⟨_, rfl⟩
      rw [← hans]
      have he : ans = if (sltAll l n).all (sltOk m) = false then (ByteArray.empty, 2) else (ofL (whole s (sltContent m (sltAll l n)) (sltMarks m (sltAll l n))), 0) := by
        rw [hans]; unfold encSlots; rw [if_neg (by simp [h1]), if_neg h2, hn]; rfl
      have HA := Lib.hid he
      have hz : ((n : Int) == 0) = false := by simp; omega
      rw [hn] at h2
      have hln : (l.length : Int) ≤ (n : Int) := by omega
      have HN := Lib.hid hn
      have HROOM := Lib.hid hroom
      clear hn hroom h2 hans he h1
      go_enter Tryd.func43, Tryd.ntmps43
      go_wp2_with fail
      refine (slotCount_any _ _ _).mono ?_
      rintro e w' ⟨rfl, rfl⟩
      rw [HN.out]
      go_wp2_with fail
      refine (newPageF_any s _ (by omega) (by omega)).mono ?_
      rintro e w1 ⟨rfl, hp1, _, hb1⟩
      obtain ⟨g, hg⟩ : ∃ g, g = w.heap.size + 1 := ⟨_, rfl⟩
      obtain ⟨bb, hbb⟩ : ∃ bb, bb = w.heap.size := ⟨_, rfl⟩
      rw [← hg, ← hbb] at hp1
      rw [← hg]
      have HG : Hid (w.heap.size ≤ g ∧ w.heap.size ≤ bb) := by show _ ∧ _; omega
      have HP1 := Lib.hid hp1.toC
      have HB1 := Lib.hid hb1
      clear hp1 hb1 hg hbb
      go_wp2
      go_loopw [27] (fun x wr => ∃ k : Nat, x = .int .i64 k ∧ k ≤ n ∧ (∀ y ∈ sltAll l k, sltOk m y = true) ∧ PgC wr g bb s (sltContent m (sltAll l k)) (sltMarks m (sltAll l k)) ∧ Below w.heap.size w wr) (fun x _ => n - (intOf x).toNat)
      case atStart => exact ⟨0, rfl, Nat.zero_le _, by simp [sltAll], HP1.out, HB1.out⟩
      case round =>
        obtain ⟨k, rfl, hk, hok, hp, hb⟩ := hrel
        have HP := Lib.hid hp
        have HB := Lib.hid hb
        have HOK := Lib.hid hok
        clear hp hb hok HP1 HB1
        by_cases hkn : k < n
        · have hroom := slt_room m n s k hkn HROOM.out
          have HROOM2 := Lib.hid hroom
          have HCL : Hid ((sltContent m (sltAll l k)).length = k * m ∧ (sltMarks m (sltAll l k)).length = 3 * k) := by
            show _ ∧ _
            rw [sltContent_length _ _ HOK.out, sltMarks_length, sltAll_length]; exact ⟨rfl, rfl⟩
          clear hroom
          obtain ⟨⟨u, r⟩, hx⟩ : ∃ x, x = sltAt l k := ⟨_, rfl⟩
          have HX := Lib.hid hx
          by_cases hkl : k < l.length
          · obtain ⟨b, o, rfl, hbl, hc1, hc2⟩ := slots_at (HS.out.keep HB.out) k hkl
            rw [← hx] at hc1 hc2
            clear hx
            dsimp only at hc1 hc2
            cases u with
            | true =>
              by_cases hrm : r.size = m
              · have hrm1 : ((r.size : Int) != (m : Int)) = false := by simp [hrm]
                have hr0 : (0 : Int) < (r.size : Int) := by omega
                have HRS : Hid (r.size ≤ m) := by show _ ≤ _; omega
                have HOKX : Hid (sltOk m (true, r) = true) := by show _ = _; simp [sltOk, hrm]
                clear hrm
                have HPX : Hid (PgC (wr.alloc (.cells #[.bool true, .string r] 68)) g bb s (sltContent m (sltAll l k)) (sltMarks m (sltAll l k))) := HP.out.keep (Below.heap_alloc _ _ _ (blk_lt HP.out.fld)) (Below.heap_alloc _ _ _ (blk_lt HP.out.row))
                have HBX := Lib.hid (HB.out.alloc HB.out.size (.cells #[.bool true, .string r] 68))
                have HNE : Hid (wr.heap.size ≠ g ∧ wr.heap.size ≠ bb) := ⟨fun e => by have := blk_lt HP.out.fld; omega, fun e => by have := blk_lt HP.out.row; omega⟩
                obtain ⟨z, hz1⟩ : ∃ z, z = ofL (List.replicate (m - (r).size) 0) := ⟨_, rfl⟩
                obtain ⟨z2, hz2⟩ : ∃ z2, z2 = r ++ z := ⟨_, rfl⟩
                have HZ2 : Hid (z2.data.toList = sltBytes m (true, r) ∧ z2.size = m) := by
                  show _ ∧ _
                  have e : z2.data.toList = sltBytes m (true, r) := by rw [hz2, hz1]; unfold sltBytes; simp [ofL]
                  have e2 := sltBytes_length m (true, r) HOKX.out
                  rw [← e] at e2
                  exact ⟨e, by simpa using e2⟩
                have hz3 : z.size ≤ 1000 := by rw [hz1, ofL_size, List.length_replicate]; omega
                have ha1 : ∀ w, (Op.stringOp .add r z).run Tryd.prog w = .ok (.string z2) w := fun w => by rw [hz2]; exact run_string_add_sum w _ _ (by have := HRS.out; omega)
                have HRP : Hid (∀ w', Calls Tryd.prog 101 #[.string { data := #[0] }, .int .i64 ((m : Int) - (r.size : Int))] w' fun e w'' => e = .returned (.string z) ∧ Below w'.heap.size w' w'') := by
                  show ∀ _, _
                  intro w'; rw [hz1]; exact repeat_any (m - (r).size) _ (by have := HRS.out; omega) w' (by omega)
                have hw1 : IntKind.i64.wrap ((m : Int) - (r.size : Int)) = (m : Int) - (r.size : Int) := by have := HRS.out; rw [IntWalk.i64_in _ (by omega)]
                clear hz1 hz2 hz3
                go_wp2_with fail
                refine (fieldC_any _ g bb s (sltContent m (sltAll l k)) (sltMarks m (sltAll l k)) 0 m _ _ rfl rfl HPX.out (by have := HCL.out; have := HROOM2.out; omega) (by omega) (by omega) (by omega)).mono ?_
                rintro e w2 ⟨rfl, hp2, hch⟩
                have hs0 : w2.cell? ⟨wr.heap.size, 0, none⟩ = some (.bool true) := (World.cell?_of_block (hch.block wr.heap.size (by simp) (fun h => by rcases h with h | h; exact HNE.out.1 h; exact HNE.out.2 h))).trans (cell_of_row _ _ 0 _ _ _ (heap_alloc_new wr _))
                have hs1 : w2.cell? ⟨wr.heap.size, 1, none⟩ = some (.string r) := (World.cell?_of_block (hch.block wr.heap.size (by simp) (fun h => by rcases h with h | h; exact HNE.out.1 h; exact HNE.out.2 h))).trans (cell_of_row _ _ 1 _ _ _ (heap_alloc_new wr _))
                have hgl : wr.heap.size < w2.heap.size := by have := hch.size; simp at this; omega
                have HPUT : Hid (∀ w', Below w2.heap.size w2 w' → Calls Tryd.prog 94 #[.pointer (some ⟨g, 0, none⟩), .string z2] w' fun e w'' => e = .returned (.tuple #[]) ∧ PgC w'' g bb s (sltContent m (sltAll l (k + 1))) (sltMarks m (sltAll l (k + 1))) ∧ Below w.heap.size w w'' ∧ w''.cell? ⟨wr.heap.size, 1, none⟩ = some (.string r)) := by
                  show ∀ _, _
                  intro w' hw'
                  refine (putC_any w' g bb s _ _ z2 (hp2.keep (hw'.block _ (blk_lt hp2.fld)) (hw'.block _ (blk_lt hp2.row))) (by rw [HZ2.out.2, HCL.out.1, List.length_append, fld_length, HCL.out.2]; have := HROOM2.out; omega) (by omega)).mono ?_
                  rintro e w'' ⟨rfl, hp3, hch3⟩
                  refine ⟨rfl, ?_, ?_, (World.cell?_of_block (hch3.block wr.heap.size (Nat.lt_of_lt_of_le hgl hw'.size) (fun h => by rcases h with h | h; exact HNE.out.1 h; exact HNE.out.2 h))).trans ((hw'.cell (p := ⟨wr.heap.size, 1, none⟩) hgl).trans hs1)⟩
                  · rw [sltAll_succ, sltContent_append, sltMarks_snoc, ← HX.out]
                    rw [HZ2.out.1] at hp3
                    have e1 : sltContent m [(true, r)] = sltBytes m (true, r) := by simp [sltContent]
                    rw [e1]
                    exact hp3
                  · have hPS : ∀ q, PS g bb q → w.heap.size ≤ q := fun q hq => by have := HG.out; rcases hq with h | h <;> rw [h] <;> omega
                    have h1 : Below w.heap.size w w2 := HBX.out.trans (hch.below hPS HBX.out.size)
                    have h2 : Below w.heap.size w w' := h1.trans (hw'.mono h1.size)
                    exact h2.trans (hch3.below hPS h2.size)
                have HCHW := Lib.hid hch
                clear hch hp2
                go_wp2
                go_region_held3 (fun w' => w'.cell? ⟨wr.heap.size, 1, none⟩ = some (.string r)) (first | exact hc5 | exact (hBB.cell (p := ⟨wr.heap.size, 1, none⟩) hgl).trans hs1 | exact hs1) (first | (go_at_call 101; with_reducible_and_instances refine (HRP.out _).mono ?_; rintro e w3 ⟨rfl, hbF⟩; first | have hBB := bstep hBB hbF | have hBB := bstep ((Below.refl _ w2).drew) hbF) | (go_at_call 94; with_reducible_and_instances refine (HPUT.out _ hBB).mono ?_; rintro e w5 ⟨rfl, hp5, hb5, hc5⟩))
                all_goals
                  go_wp2
                  refine ⟨⟨k + 1, by go_num, by omega, ?_, hp5, hb5⟩, by simp [intOf]; omega⟩
                  rw [sltAll_succ, ← HX.out]
                  intro y hy
                  rcases List.mem_append.1 hy with hy | hy
                  · exact HOK.out y hy
                  · rw [List.mem_singleton.1 hy]; exact HOKX.out
              · have hrm1 : ((r.size : Int) != (m : Int)) = true := by simp; omega
                have HBAD : Hid (ans = (ByteArray.empty, 2)) := by
                  show _ = _
                  rw [HA.out]
                  refine if_pos ?_
                  cases hall : (sltAll l n).all (sltOk m) with
                  | false => rfl
                  | true =>
                    have hok2 := sltAll_ok l m n k hkn hall
                    rw [← HX.out] at hok2
                    simp only [sltOk] at hok2
                    simp at hok2
                    omega
                by_cases hr0 : (0 : Int) < (r.size : Int)
                · clear hrm
                  go_wp2
                  go_ret2
                  exact ⟨by rw [HBAD.out]; rfl, HB.out.alloc HB.out.size _⟩
                · clear hrm
                  go_wp2
                  go_ret2
                  exact ⟨by rw [HBAD.out]; rfl, HB.out.alloc HB.out.size _⟩
            | false =>
              by_cases hrm : r.size = 0
              · obtain rfl : r = ByteArray.empty := by simpa using hrm
                have HRS : Hid (ByteArray.empty.size ≤ m ∧ ByteArray.empty.size = 0) := ⟨by simp, rfl⟩
                have HOKX : Hid (sltOk m (false, ByteArray.empty) = true) := by show _ = _; rfl
                clear hrm
                have HPX : Hid (PgC (wr.alloc (.cells #[.bool false, .string ByteArray.empty] 68)) g bb s (sltContent m (sltAll l k)) (sltMarks m (sltAll l k))) := HP.out.keep (Below.heap_alloc _ _ _ (blk_lt HP.out.fld)) (Below.heap_alloc _ _ _ (blk_lt HP.out.row))
                have HBX := Lib.hid (HB.out.alloc HB.out.size (.cells #[.bool false, .string ByteArray.empty] 68))
                have HNE : Hid (wr.heap.size ≠ g ∧ wr.heap.size ≠ bb) := ⟨fun e => by have := blk_lt HP.out.fld; omega, fun e => by have := blk_lt HP.out.row; omega⟩
                obtain ⟨z, hz1⟩ : ∃ z, z = ofL (List.replicate (m - (ByteArray.empty).size) 0) := ⟨_, rfl⟩
                obtain ⟨z2, hz2⟩ : ∃ z2, z2 = ByteArray.empty ++ z := ⟨_, rfl⟩
                have HZ2 : Hid (z2.data.toList = sltBytes m (false, ByteArray.empty) ∧ z2.size = m) := by
                  show _ ∧ _
                  have e : z2.data.toList = sltBytes m (false, ByteArray.empty) := by rw [hz2, hz1]; unfold sltBytes; simp [ofL]
                  have e2 := sltBytes_length m (false, ByteArray.empty) HOKX.out
                  rw [← e] at e2
                  exact ⟨e, by simpa using e2⟩
                have hz3 : z.size ≤ 1000 := by rw [hz1, ofL_size, List.length_replicate]; omega
                have ha1 : ∀ w, (Op.stringOp .add ByteArray.empty z).run Tryd.prog w = .ok (.string z2) w := fun w => by rw [hz2]; exact run_string_add_sum w _ _ (by have := HRS.out; omega)
                have HRP : Hid (∀ w', Calls Tryd.prog 101 #[.string { data := #[0] }, .int .i64 ((m : Int))] w' fun e w'' => e = .returned (.string z) ∧ Below w'.heap.size w' w'') := by
                  show ∀ _, _
                  intro w'; rw [hz1]; exact repeat_any (m - (ByteArray.empty).size) _ (by have := HRS.out; omega) w' (by omega)
                have hw1 : IntKind.i64.wrap ((m : Int)) = (m : Int) := by have := HRS.out; rw [IntWalk.i64_in _ (by omega)]
                clear hz1 hz2 hz3
                go_wp2_with fail
                refine (fieldC_any _ g bb s (sltContent m (sltAll l k)) (sltMarks m (sltAll l k)) 4 m _ _ rfl rfl HPX.out (by have := HCL.out; have := HROOM2.out; omega) (by omega) (by omega) (by omega)).mono ?_
                rintro e w2 ⟨rfl, hp2, hch⟩
                have hs0 : w2.cell? ⟨wr.heap.size, 0, none⟩ = some (.bool false) := (World.cell?_of_block (hch.block wr.heap.size (by simp) (fun h => by rcases h with h | h; exact HNE.out.1 h; exact HNE.out.2 h))).trans (cell_of_row _ _ 0 _ _ _ (heap_alloc_new wr _))
                have hs1 : w2.cell? ⟨wr.heap.size, 1, none⟩ = some (.string ByteArray.empty) := (World.cell?_of_block (hch.block wr.heap.size (by simp) (fun h => by rcases h with h | h; exact HNE.out.1 h; exact HNE.out.2 h))).trans (cell_of_row _ _ 1 _ _ _ (heap_alloc_new wr _))
                have hgl : wr.heap.size < w2.heap.size := by have := hch.size; simp at this; omega
                have HPUT : Hid (∀ w', Below w2.heap.size w2 w' → Calls Tryd.prog 94 #[.pointer (some ⟨g, 0, none⟩), .string z2] w' fun e w'' => e = .returned (.tuple #[]) ∧ PgC w'' g bb s (sltContent m (sltAll l (k + 1))) (sltMarks m (sltAll l (k + 1))) ∧ Below w.heap.size w w'' ∧ w''.cell? ⟨wr.heap.size, 1, none⟩ = some (.string ByteArray.empty)) := by
                  show ∀ _, _
                  intro w' hw'
                  refine (putC_any w' g bb s _ _ z2 (hp2.keep (hw'.block _ (blk_lt hp2.fld)) (hw'.block _ (blk_lt hp2.row))) (by rw [HZ2.out.2, HCL.out.1, List.length_append, fld_length, HCL.out.2]; have := HROOM2.out; omega) (by omega)).mono ?_
                  rintro e w'' ⟨rfl, hp3, hch3⟩
                  refine ⟨rfl, ?_, ?_, (World.cell?_of_block (hch3.block wr.heap.size (Nat.lt_of_lt_of_le hgl hw'.size) (fun h => by rcases h with h | h; exact HNE.out.1 h; exact HNE.out.2 h))).trans ((hw'.cell (p := ⟨wr.heap.size, 1, none⟩) hgl).trans hs1)⟩
                  · rw [sltAll_succ, sltContent_append, sltMarks_snoc, ← HX.out]
                    rw [HZ2.out.1] at hp3
                    have e1 : sltContent m [(false, ByteArray.empty)] = sltBytes m (false, ByteArray.empty) := by simp [sltContent]
                    rw [e1]
                    exact hp3
                  · have hPS : ∀ q, PS g bb q → w.heap.size ≤ q := fun q hq => by have := HG.out; rcases hq with h | h <;> rw [h] <;> omega
                    have h1 : Below w.heap.size w w2 := HBX.out.trans (hch.below hPS HBX.out.size)
                    have h2 : Below w.heap.size w w' := h1.trans (hw'.mono h1.size)
                    exact h2.trans (hch3.below hPS h2.size)
                have HCHW := Lib.hid hch
                clear hch hp2
                go_wp2
                go_region_held3 (fun w' => w'.cell? ⟨wr.heap.size, 1, none⟩ = some (.string ByteArray.empty)) (first | exact hc5 | exact (hBB.cell (p := ⟨wr.heap.size, 1, none⟩) hgl).trans hs1 | exact hs1) (first | (go_at_call 101; with_reducible_and_instances refine (HRP.out _).mono ?_; rintro e w3 ⟨rfl, hbF⟩; first | have hBB := bstep hBB hbF | have hBB := bstep ((Below.refl _ w2).drew) hbF) | (go_at_call 94; with_reducible_and_instances refine (HPUT.out _ hBB).mono ?_; rintro e w5 ⟨rfl, hp5, hb5, hc5⟩))
                all_goals
                  go_wp2
                  refine ⟨⟨k + 1, by go_num, by omega, ?_, hp5, hb5⟩, by simp [intOf]; omega⟩
                  rw [sltAll_succ, ← HX.out]
                  intro y hy
                  rcases List.mem_append.1 hy with hy | hy
                  · exact HOK.out y hy
                  · rw [List.mem_singleton.1 hy]; exact HOKX.out
              · have hr0 : 0 < r.size := by omega
                have HBAD : Hid (ans = (ByteArray.empty, 2)) := by
                  show _ = _
                  rw [HA.out]
                  refine if_pos ?_
                  cases hall : (sltAll l n).all (sltOk m) with
                  | false => rfl
                  | true =>
                    have hok2 := sltAll_ok l m n k hkn hall
                    rw [← HX.out] at hok2
                    simp only [sltOk] at hok2
                    simp at hok2
                    exact absurd (by rw [hok2]; rfl) hrm
                clear hrm
                go_wp2
                go_ret2
                exact ⟨by rw [HBAD.out]; rfl, HB.out.alloc HB.out.size _⟩
          · have hx2 : (u, r) = (false, ByteArray.empty) := by rw [hx]; unfold sltAt noSlt; simp [List.getD, List.getElem?_eq_none (by omega : l.length ≤ k)]
            obtain ⟨rfl, rfl⟩ := Prod.mk.inj hx2
            clear hx hx2
            have HRS : Hid (ByteArray.empty.size ≤ m ∧ ByteArray.empty.size = 0) := ⟨by simp, rfl⟩
            have HOKX : Hid (sltOk m (false, ByteArray.empty) = true) := by show _ = _; rfl
            have HPX : Hid (PgC (wr.alloc (.cells #[.bool false, .string ByteArray.empty] 68)) g bb s (sltContent m (sltAll l k)) (sltMarks m (sltAll l k))) := HP.out.keep (Below.heap_alloc _ _ _ (blk_lt HP.out.fld)) (Below.heap_alloc _ _ _ (blk_lt HP.out.row))
            have HBX := Lib.hid (HB.out.alloc HB.out.size (.cells #[.bool false, .string ByteArray.empty] 68))
            have HNE : Hid (wr.heap.size ≠ g ∧ wr.heap.size ≠ bb) := ⟨fun e => by have := blk_lt HP.out.fld; omega, fun e => by have := blk_lt HP.out.row; omega⟩
            obtain ⟨z, hz1⟩ : ∃ z, z = ofL (List.replicate (m - (ByteArray.empty).size) 0) := ⟨_, rfl⟩
            obtain ⟨z2, hz2⟩ : ∃ z2, z2 = ByteArray.empty ++ z := ⟨_, rfl⟩
            have HZ2 : Hid (z2.data.toList = sltBytes m (false, ByteArray.empty) ∧ z2.size = m) := by
              show _ ∧ _
              have e : z2.data.toList = sltBytes m (false, ByteArray.empty) := by rw [hz2, hz1]; unfold sltBytes; simp [ofL]
              have e2 := sltBytes_length m (false, ByteArray.empty) HOKX.out
              rw [← e] at e2
              exact ⟨e, by simpa using e2⟩
            have hz3 : z.size ≤ 1000 := by rw [hz1, ofL_size, List.length_replicate]; omega
            have ha1 : ∀ w, (Op.stringOp .add ByteArray.empty z).run Tryd.prog w = .ok (.string z2) w := fun w => by rw [hz2]; exact run_string_add_sum w _ _ (by have := HRS.out; omega)
            have HRP : Hid (∀ w', Calls Tryd.prog 101 #[.string { data := #[0] }, .int .i64 ((m : Int))] w' fun e w'' => e = .returned (.string z) ∧ Below w'.heap.size w' w'') := by
              show ∀ _, _
              intro w'; rw [hz1]; exact repeat_any (m - (ByteArray.empty).size) _ (by have := HRS.out; omega) w' (by omega)
            have hw1 : IntKind.i64.wrap ((m : Int)) = (m : Int) := by have := HRS.out; rw [IntWalk.i64_in _ (by omega)]
            clear hz1 hz2 hz3
            go_wp2_with fail
            refine (fieldC_any _ g bb s (sltContent m (sltAll l k)) (sltMarks m (sltAll l k)) 4 m _ _ rfl rfl HPX.out (by have := HCL.out; have := HROOM2.out; omega) (by omega) (by omega) (by omega)).mono ?_
            rintro e w2 ⟨rfl, hp2, hch⟩
            have hs0 : w2.cell? ⟨wr.heap.size, 0, none⟩ = some (.bool false) := (World.cell?_of_block (hch.block wr.heap.size (by simp) (fun h => by rcases h with h | h; exact HNE.out.1 h; exact HNE.out.2 h))).trans (cell_of_row _ _ 0 _ _ _ (heap_alloc_new wr _))
            have hs1 : w2.cell? ⟨wr.heap.size, 1, none⟩ = some (.string ByteArray.empty) := (World.cell?_of_block (hch.block wr.heap.size (by simp) (fun h => by rcases h with h | h; exact HNE.out.1 h; exact HNE.out.2 h))).trans (cell_of_row _ _ 1 _ _ _ (heap_alloc_new wr _))
            have hgl : wr.heap.size < w2.heap.size := by have := hch.size; simp at this; omega
            have HPUT : Hid (∀ w', Below w2.heap.size w2 w' → Calls Tryd.prog 94 #[.pointer (some ⟨g, 0, none⟩), .string z2] w' fun e w'' => e = .returned (.tuple #[]) ∧ PgC w'' g bb s (sltContent m (sltAll l (k + 1))) (sltMarks m (sltAll l (k + 1))) ∧ Below w.heap.size w w'' ∧ w''.cell? ⟨wr.heap.size, 1, none⟩ = some (.string ByteArray.empty)) := by
              show ∀ _, _
              intro w' hw'
              refine (putC_any w' g bb s _ _ z2 (hp2.keep (hw'.block _ (blk_lt hp2.fld)) (hw'.block _ (blk_lt hp2.row))) (by rw [HZ2.out.2, HCL.out.1, List.length_append, fld_length, HCL.out.2]; have := HROOM2.out; omega) (by omega)).mono ?_
              rintro e w'' ⟨rfl, hp3, hch3⟩
              refine ⟨rfl, ?_, ?_, (World.cell?_of_block (hch3.block wr.heap.size (Nat.lt_of_lt_of_le hgl hw'.size) (fun h => by rcases h with h | h; exact HNE.out.1 h; exact HNE.out.2 h))).trans ((hw'.cell (p := ⟨wr.heap.size, 1, none⟩) hgl).trans hs1)⟩
              · rw [sltAll_succ, sltContent_append, sltMarks_snoc, ← HX.out]
                rw [HZ2.out.1] at hp3
                have e1 : sltContent m [(false, ByteArray.empty)] = sltBytes m (false, ByteArray.empty) := by simp [sltContent]
                rw [e1]
                exact hp3
              · have hPS : ∀ q, PS g bb q → w.heap.size ≤ q := fun q hq => by have := HG.out; rcases hq with h | h <;> rw [h] <;> omega
                have h1 : Below w.heap.size w w2 := HBX.out.trans (hch.below hPS HBX.out.size)
                have h2 : Below w.heap.size w w' := h1.trans (hw'.mono h1.size)
                exact h2.trans (hch3.below hPS h2.size)
            have HCHW := Lib.hid hch
            clear hch hp2
            go_wp2
            go_region_held3 (fun w' => w'.cell? ⟨wr.heap.size, 1, none⟩ = some (.string ByteArray.empty)) (first | exact hc5 | exact (hBB.cell (p := ⟨wr.heap.size, 1, none⟩) hgl).trans hs1 | exact hs1) (first | (go_at_call 101; with_reducible_and_instances refine (HRP.out _).mono ?_; rintro e w3 ⟨rfl, hbF⟩; first | have hBB := bstep hBB hbF | have hBB := bstep ((Below.refl _ w2).drew) hbF) | (go_at_call 94; with_reducible_and_instances refine (HPUT.out _ hBB).mono ?_; rintro e w5 ⟨rfl, hp5, hb5, hc5⟩))
            all_goals
              go_wp2
              refine ⟨⟨k + 1, by go_num, by omega, ?_, hp5, hb5⟩, by simp [intOf]; omega⟩
              rw [sltAll_succ, ← HX.out]
              intro y hy
              rcases List.mem_append.1 hy with hy | hy
              · exact HOK.out y hy
              · rw [List.mem_singleton.1 hy]; exact HOKX.out
        · obtain rfl : k = n := by omega
          have HF : Hid (ans = (ofL (whole s (sltContent m (sltAll l k)) (sltMarks m (sltAll l k))), 0)) := by
            show _ = _
            rw [HA.out]
            refine if_neg ?_
            simpa using HOK.out
          have HCL : Hid ((sltContent m (sltAll l k)).length = k * m ∧ (sltMarks m (sltAll l k)).length = 3 * k) := by
            show _ ∧ _
            rw [sltContent_length _ _ HOK.out, sltMarks_length, sltAll_length]; exact ⟨rfl, rfl⟩
          go_wp2_with fail
          refine (done_any _ g bb s _ _ HP.out (by rw [HCL.out.1, HCL.out.2]; have := HROOM.out; omega) (by omega)).mono ?_
          rintro e w2 ⟨rfl, hch⟩
          have HB2 := Lib.hid (HB.out.trans (hch.below (B := w.heap.size) (fun q hq => by have := HG.out; rcases hq with h | h <;> rw [h] <;> omega) HB.out.size))
          clear hch
          go_wp2
          go_ret2
          exact ⟨by rw [HF.out]; rfl, HB2.out⟩
end Go.Proofs.YtnkhifgppcnmkaaDoor

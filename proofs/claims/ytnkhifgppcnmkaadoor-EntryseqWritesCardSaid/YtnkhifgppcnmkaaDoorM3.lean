/- Law of chapter 18: EntryseqWrites. -/
import Derived.Test.YtnkhifgppcnmkaaDoorK5
import Derived.OpenShut
namespace Go.Proofs.YtnkhifgppcnmkaaDoor
open Go.RowKit Iv
attribute [local go_sem ↓] Go.wp_at_zero Go.wp_at_succ exec_ld23 exec_ld30 exec_st23 exec_st30 heap_alloc_new heap_alloc_old
attribute [local go_sem] ld23_run ld30_run st23_run st30_run

theorem replace_len (m : List ByteArray) (h : Hd) (d : Ds) (a : Int) (r : ByteArray) : (replaceOf m h d a r).1.length ≤ 1 := by
  unfold replaceOf
  split
  · simp
  · split
    · simp
    · split
      · simp
      · split
        · simp
        · simp
theorem places_len (m : List ByteArray) (h : Hd) (d : Ds) (ns : List Int) : (placesOf m h d ns).1.length ≤ ns.length := by
  unfold placesOf
  split
  · simp
  · split
    · simp
    · split
      · simp
      · split
        · simp
        · dsimp only
          rw [stepPl_len]
          simp

theorem small59 (A : Option Addr) (c : Nat) (l : List ByteArray) (w : World) (hs : StrsA w A l) :
    Calls Tryd.prog 59 #[.slice A l.length c, .int .i64 12] w fun e w' => e = .returned (.bool (shortN 12 600 l)) ∧ w' = w := by
  go_enter Tryd.func59, Tryd.ntmps59
  go_wp2_with fail
  refine (shortN_any 12 600 (by decide) A c l w hs).mono ?_
  rintro e w' ⟨rfl, rfl⟩
  go_wp2
  go_ret
  exact ⟨rfl, rfl⟩

set_option maxHeartbeats 1600000 in
set_option maxRecDepth 100000 in
theorem writesLaw_any (A : Option Addr) (c : Nat) (m : List ByteArray) (h : Hd) (d : Ds) (a : Int) (r : ByteArray) (Bn : Option Addr) (cn : Nat) (ns : List Int) (w : World) (hm : m.length ≤ 9223372036854775807) (hs : StrsA w A m) (ha0 : -9223372036854775808 ≤ a) (ha1 : a ≤ 9223372036854775807) (hr : r.size ≤ 9223372036854775807) (hn : ns.length ≤ 9223372036854775807) (hrn : RowA w Bn (ns.map (Value.int .i64))) :
    Calls Tryd.prog 14 #[.slice A m.length c, .agg h.cells, .agg d.cells, .int .i64 a, .string r, .slice Bn ns.length cn] w fun e w' => e = .returned (.bool true) ∧ Below w.heap.size w w' := by
  have HSA := Lib.hid hs
  have HRN := Lib.hid hrn
  obtain ⟨hc, hhc⟩ : ∃ hc, hc = h.cells := ⟨_, rfl⟩
  obtain ⟨dc, hdc⟩ : ∃ dc, dc = d.cells := ⟨_, rfl⟩
  have hds : dc.size = 21 := by rw [hdc]; exact d.size
  have hhs : hc.size = 7 := by rw [hhc]; exact h.size
  have HHC := Lib.hid hhc
  have HDC := Lib.hid hdc
  rw [← hhc, ← hdc]
  have HG0 : Hid (((w.alloc (.cells hc 30)).alloc (.cells dc 23)).heap[w.heap.size + 1]? = some (.cells dc 23 (0, 0))) := heap_at_alloc (by simp)
  have HH0 : Hid (((w.alloc (.cells hc 30)).alloc (.cells dc 23)).heap[w.heap.size]? = some (.cells hc 30 (0, 0))) := alloc_at (heap_alloc_new _ _)
  have HB0 : Hid (Below w.heap.size w ((w.alloc (.cells hc 30)).alloc (.cells dc 23))) := ((Below.refl _ _).alloc (Nat.le_refl _) _).alloc (by simp) _
  have HSM : Hid (∀ w', Below w.heap.size w w' → Calls Tryd.prog 59 #[.slice A m.length c, .int .i64 12] w' fun e w'' => e = .returned (.bool (shortN 12 600 m)) ∧ w'' = w') := fun w' hb => small59 A c m w' (hs.keep hb)
  obtain ⟨b1, hb1⟩ : ∃ b, b = shortN 12 600 m := ⟨_, rfl⟩
  rw [← hb1] at HSM
  have HB1 := Lib.hid hb1
  clear hs hrn hhc hdc hb1
  go_enter Tryd.func14, Tryd.ntmps14
  go_wp2_with fail
  refine (awakeE_any _).mono ?_
  rintro e w1 ⟨rfl, hw1⟩
  have HGD1 : Hid (w1.heap[w.heap.size + 1]? = some (.cells dc 23 (0, 0))) := block_at hw1 HG0.out
  have HGH1 : Hid (w1.heap[w.heap.size]? = some (.cells hc 30 (0, 0))) := block_at hw1 HH0.out
  have HW1 := Lib.hid (bstep HB0.out hw1)
  clear hw1
  go_wp2_with fail
  refine (HSM.out _ HW1.out).mono ?_
  rintro e w1 ⟨rfl, rfl⟩
  cases b1 with
  | false =>
    go_wp2
    go_ret
    exact ⟨rfl, HW1.out⟩
  | true =>
    by_cases h1 : 300 < (r.size : Int)
    · have hd1 : decide (300 < (r.size : Int)) = true := decide_eq_true h1
      go_wp2
      go_ret
      exact ⟨rfl, HW1.out⟩
    · have hd1 : decide (300 < (r.size : Int)) = false := decide_eq_false h1
      by_cases h2 : 20 < (ns.length : Int)
      · have hd2 : decide (20 < (ns.length : Int)) = true := decide_eq_true h2
        go_wp2
        go_ret
        exact ⟨rfl, HW1.out⟩
      · have hd2 : decide (20 < (ns.length : Int)) = false := decide_eq_false h2
        have HMS : Hid (m.length ≤ 12 ∧ (∀ s ∈ m, s.size ≤ 1000)) := by
          have := shortN_size HB1.out.symm
          exact ⟨this.1, fun s hs => by have := this.2.1 s hs; omega⟩
        obtain ⟨⟨ah, ws, at1, er⟩, ha⟩ : ∃ x, x = appendOf m h d r := ⟨_, rfl⟩
        obtain ⟨ac, hac⟩ : ∃ ac, ac = ah.cells := ⟨_, rfl⟩
        have hacz : ac.size = 7 := by rw [hac]; exact ah.size
        have HACO : Hid (ac.all (·.oneCell') = true) := by show _ = _; rw [hac]; exact hd_one _
        have HAC := Lib.hid hac
        have HWS : Hid (ws.length ≤ 1) := by have := append_ws m h d r; rw [← ha] at this; exact this.1
        have HA1 : Hid (∀ w', Below w.heap.size w w' → Calls Tryd.prog 52 #[.iface 32 (.slice A m.length c), .agg hc, .agg dc, .string r] w' fun e w'' => ∃ A9 c9, e = .returned (.tuple #[.agg ac, .slice A9 ws.length c9, .int .i64 at1, .int .i64 er]) ∧ RowA w'' A9 (wrCells ws) ∧ Below w'.heap.size w' w'') := by
          show ∀ _ _, _
          intro w' hb
          have := append_any A c m h d r w' hm HMS.out.2 (HSA.out.keep hb) hr
          rw [← ha] at this
          rw [HHC.out, HDC.out, HAC.out]
          exact this
        have HA2 : Hid (∀ w', Below w.heap.size w w' → Calls Tryd.prog 53 #[.slice A m.length c, .agg hc, .agg dc, .string r] w' fun e w'' => ∃ A9 c9, e = .returned (.tuple #[.agg ac, .slice A9 ws.length c9, .int .i64 at1, .int .i64 er]) ∧ RowA w'' A9 (wrCells ws) ∧ Below w'.heap.size w' w'') := by
          show ∀ _ _, _
          intro w' hb
          have := refAppend_any A c m h d r w' hm HMS.out.2 (HSA.out.keep hb) hr
          rw [← ha] at this
          rw [HHC.out, HDC.out, HAC.out]
          exact this
        obtain ⟨⟨rs, re⟩, hre⟩ : ∃ x, x = replaceOf m h d a r := ⟨_, rfl⟩
        have HRS : Hid (rs.length ≤ 1) := by have := replace_len m h d a r; rw [← hre] at this; exact this
        have HR1 : Hid (∀ w', Below w.heap.size w w' → Calls Tryd.prog 60 #[.iface 32 (.slice A m.length c), .agg hc, .agg dc, .int .i64 a, .string r] w' fun e w'' => ∃ A9 c9, e = .returned (.tuple #[.slice A9 rs.length c9, .int .i64 re]) ∧ RowA w'' A9 (wrCells rs) ∧ Below w'.heap.size w' w'') := by
          show ∀ _ _, _
          intro w' hb
          have := replace_any A c m h d a r w' hm HMS.out.2 (HSA.out.keep hb) ha0 ha1 hr
          rw [← hre] at this
          rw [HHC.out, HDC.out]
          exact this
        have HR2 : Hid (∀ w', Below w.heap.size w w' → Calls Tryd.prog 61 #[.slice A m.length c, .agg hc, .agg dc, .int .i64 a, .string r] w' fun e w'' => ∃ A9 c9, e = .returned (.tuple #[.slice A9 rs.length c9, .int .i64 re]) ∧ RowA w'' A9 (wrCells rs) ∧ Below w'.heap.size w' w'') := by
          show ∀ _ _, _
          intro w' hb
          have := refReplace_any A c m h d a r w' hm HMS.out.2 (HSA.out.keep hb) ha0 ha1 hr
          rw [← hre] at this
          rw [HHC.out, HDC.out]
          exact this
        obtain ⟨⟨L, pe⟩, hpe⟩ : ∃ x, x = placesOf m h d ns := ⟨_, rfl⟩
        have HPS : Hid (L.length ≤ 20) := by have := places_len m h d ns; rw [← hpe] at this; dsimp only at this; show _ ≤ _; omega
        have HP1 : Hid (∀ w', Below w.heap.size w w' → Calls Tryd.prog 58 #[.iface 32 (.slice A m.length c), .agg hc, .agg dc, .slice Bn ns.length cn] w' fun e w'' => ∃ A9 c9, e = .returned (.tuple #[.slice A9 L.length c9, .int .i64 pe]) ∧ RowA w'' A9 (L.map (Value.int .i64)) ∧ Below w'.heap.size w' w'') := by
          show ∀ _ _, _
          intro w' hb
          have := places_any A c m h d Bn cn ns w' hm HMS.out.2 (HSA.out.keep hb) (by omega) (HRN.out.keep hb)
          rw [← hpe] at this
          rw [HHC.out, HDC.out]
          exact this.mono fun e w'' ⟨A9, c9, h1, h2, h3⟩ => ⟨A9, c9, h1, own_rowA h2, h3⟩
        have HP2 : Hid (∀ w', Below w.heap.size w w' → Calls Tryd.prog 62 #[.slice A m.length c, .agg hc, .agg dc, .slice Bn ns.length cn] w' fun e w'' => ∃ A9 c9, e = .returned (.tuple #[.slice A9 L.length c9, .int .i64 pe]) ∧ RowA w'' A9 (L.map (Value.int .i64)) ∧ Below w'.heap.size w' w'') := by
          show ∀ _ _, _
          intro w' hb
          have := refPlaces_any A c m h d Bn cn ns w' hm HMS.out.2 (HSA.out.keep hb) (by omega) (HRN.out.keep hb)
          rw [← hpe] at this
          rw [HHC.out, HDC.out]
          exact this.mono fun e w'' ⟨A9, c9, h1, h2, h3⟩ => ⟨A9, c9, h1, own_rowA h2, h3⟩
        clear ha hac hre hpe h1 h2
        have hgd := HGD1.out
        have hgh := HGH1.out
        go_wp2_with fail
        refine (HA1.out _ HW1.out).mono ?_
        rintro e w2 ⟨B1, k1, rfl, hr1, hw2⟩
        have HW2 := Lib.hid (bstep HW1.out hw2)
        have HGD2 := Lib.hid (block_at hw2 HGD1.out)
        have HGH2 := Lib.hid (block_at hw2 HGH1.out)
        have HR1a := Lib.hid hr1
        clear hgd hgh hw2 hr1
        go_wp2_with (first | (refine wpl_store_fresh rfl 30 _ _ rfl ac rfl 30 _ rfl (by rw [hacz]; exact info30) (by rw [hacz]; rfl) HACO.out ?_; intro w3 hg3 hb3 hs3; have HG14 := Lib.hid hg3; have HW3 := Lib.hid (bstep HW2.out hb3); have hgd := block_at hb3 HGD2.out; have hgh := block_at hb3 HGH2.out; have HR1b := Lib.hid (HR1a.out.keep hb3); clear hg3 hb3 hs3) | fail)
        refine (HA2.out _ HW3.out).mono ?_
        rintro e w4 ⟨B2, k2, rfl, hr2, hw4⟩
        have HW4 := Lib.hid (bstep HW3.out hw4)
        have HGD4 := Lib.hid (block_at hw4 hgd)
        have HGH4 := Lib.hid (block_at hw4 hgh)
        have HR2a := Lib.hid hr2
        have HR1c := Lib.hid (HR1b.out.keep hw4)
        have HG14b := Lib.hid (block_at hw4 HG14.out)
        obtain ⟨g14, hg14⟩ : ∃ g, g = w2.heap.size := ⟨_, rfl⟩
        rw [← hg14] at HG14b
        rw [← hg14]
        clear hgd hgh hw4 hr2 hg14
        go_wp2_with (first | (refine wpl_store_fresh rfl 30 _ _ rfl ac rfl 30 _ rfl (by rw [hacz]; exact info30) (by rw [hacz]; rfl) HACO.out ?_; intro w5 hg5 hb5 hs5; have HG18 := Lib.hid hg5; have HW5 := Lib.hid (bstep HW4.out hb5); have hgd := block_at hb5 HGD4.out; have hgh := block_at hb5 HGH4.out; have HB5 := Lib.hid hb5; clear hg5 hb5 hs5) | fail)
        refine (HR1.out _ HW5.out).mono ?_
        rintro e w6 ⟨B3, k3, rfl, hr3, hw6⟩
        have HR3 := Lib.hid hr3
        have HGD6 := block_at hw6 hgd
        have HGH6 := block_at hw6 hgh
        have HW6 := Lib.hid (bstep HW5.out hw6)
        have HB6 := Lib.hid (bstep HB5.out hw6)
        have HG18b := Lib.hid (block_at hw6 HG18.out)
        obtain ⟨g18, hg18⟩ : ∃ g, g = w4.heap.size := ⟨_, rfl⟩
        rw [← hg18] at HG18b
        rw [← hg18]
        clear hgd hgh hw6 hr3 hg18
        go_wp2_with fail
        refine (HR2.out _ HW6.out).mono ?_
        rintro e w7 ⟨B4, k4, rfl, hr4, hw7⟩
        have HR4 := Lib.hid hr4
        have HGD7 := block_at hw7 HGD6
        have HGH7 := block_at hw7 HGH6
        have HW7 := Lib.hid (bstep HW6.out hw7)
        have HB67 := Lib.hid hw7
        clear HGD6 HGH6 hw7 hr4
        go_wp2_with fail
        refine (HP1.out _ HW7.out).mono ?_
        rintro e w8 ⟨B5, k5, rfl, hr5, hw8⟩
        have HR5 := Lib.hid hr5
        have HGD8 := block_at hw8 HGD7
        have HGH8 := block_at hw8 HGH7
        have HW8 := Lib.hid (bstep HW7.out hw8)
        have HB78 := Lib.hid hw8
        clear HGD7 HGH7 hw8 hr5
        go_wp2_with fail
        refine (HP2.out _ HW8.out).mono ?_
        rintro e w9 ⟨B6, k6, rfl, hr6, hw9⟩
        have HW9 := Lib.hid (bstep HW8.out hw9)
        have HB69 := Lib.hid (bstep (bstep HB67.out HB78.out) hw9)
        have HB49 := Lib.hid (bstep HB6.out HB69.out)
        have hg14 := block_at HB49.out HG14b.out
        have hg18 := block_at HB69.out HG18b.out
        have heq : ∀ w, (binOp .eql 30 (.agg ac) (.agg ac)).run Tryd.prog w = .ok (.bool true) w := fun w => by rw [HAC.out, eql_hd]; simp
        have heq2 : ∀ w, (Op.equalIn 10000 30 (.agg ac) (.agg ac)).run Tryd.prog w = .ok true w := fun w => by rw [HAC.out, equalIn_hd]; simp
        have HS1 : Hid (Calls Tryd.prog 54 #[.slice B1 ws.length k1, .slice B2 ws.length k2] w9 fun e w'' => e = .returned (.bool true) ∧ Below w9.heap.size w9 w'') := by
          have := sameWrites_any B1 B2 k1 k2 ws ws w9 (by have := HWS.out; omega) (HR1c.out.keep HB49.out) (HR2a.out.keep HB49.out)
          rw [decide_eq_true rfl] at this
          exact this
        have HS2 : Hid (∀ w', Below w9.heap.size w9 w' → Calls Tryd.prog 54 #[.slice B3 rs.length k3, .slice B4 rs.length k4] w' fun e w'' => e = .returned (.bool true) ∧ Below w'.heap.size w' w'') := by
          show ∀ _ _, _
          intro w' hb
          have := sameWrites_any B3 B4 k3 k4 rs rs w' (by have := HRS.out; omega) ((HR3.out.keep HB69.out).keep hb) ((HR4.out.keep (bstep HB78.out hw9)).keep hb)
          rw [decide_eq_true rfl] at this
          exact this
        have HS3 : Hid (∀ w', Below w9.heap.size w9 w' → Calls Tryd.prog 63 #[.slice B5 L.length k5, .slice B6 L.length k6] w' fun e w'' => e = .returned (.bool true) ∧ Below w'.heap.size w' w'') := by
          show ∀ _ _, _
          intro w' hb
          have := sameInts_any B5 B6 k5 k6 L L w' (by have := HPS.out; omega) ((HR5.out.keep hw9).keep hb) (hr6.keep hb)
          rw [decide_eq_true rfl] at this
          exact this
        clear HGD8 HGH8 hw9 hr6
        go_wp2_with fail
        refine HS1.out.mono ?_
        rintro e wa ⟨rfl, hwa⟩
        have HWA := Lib.hid hwa
        clear hwa hg14 hg18
        go_wp2_with fail
        refine (HS2.out _ HWA.out).mono ?_
        rintro e wb ⟨rfl, hwb⟩
        have HWB := Lib.hid (bstep HWA.out hwb)
        clear hwb
        go_wp2_with fail
        refine (HS3.out _ HWB.out).mono ?_
        rintro e wx ⟨rfl, hwx⟩
        have HWX := Lib.hid (bstep HWB.out hwx)
        clear hwx
        go_wp2
        go_ret
        exact ⟨rfl, bstep HW9.out HWX.out⟩

theorem writesLaw_card (A : Option Addr) (c : Nat) (l : List ByteArray) (h : Hd) (d : Ds) (a : Int) (r : ByteArray) (Bn : Option Addr) (cn : Nat) (ns : List Int) (w : World) (hl : l.length ≤ 9223372036854775807) (hs : StrsA w A l) (ha : (Lit.int .i64 a).wf = true) (hr : r.size ≤ maxLen) (hn : ns.length ≤ 9223372036854775807) (hrn : RowA w Bn (ns.map (Value.int .i64))) :
    Calls Tryd.prog 14 #[.slice A l.length c, .agg h.cells, .agg d.cells, .int .i64 a, .string r, .slice Bn ns.length cn] w fun e w' => e = .returned (.bool true) ∧ Below w.heap.size w w' := by
  have ha2 := bounds_i64 ha
  exact writesLaw_any A c l h d a r Bn cn ns w hl hs (by have := ha2.1; omega) (by have := ha2.2; omega) (Nat.le_trans hr (by decide)) hn hrn
end Go.Proofs.YtnkhifgppcnmkaaDoor

/- Law of chapter 18: EntryseqPlaces. -/
import Derived.Test.YtnkhifgppcnmkaaDoorC6
namespace Go.Proofs.YtnkhifgppcnmkaaDoor
open Go.RowKit Iv
attribute [local go_sem ↓] Go.wp_at_zero Go.wp_at_succ exec_ld23 exec_ld30 exec_st23 exec_st30 heap_alloc_new heap_alloc_old
attribute [local go_sem] ld23_run ld30_run st23_run st30_run

set_option maxHeartbeats 1600000 in
set_option maxRecDepth 100000 in
theorem placesLaw_any (d : Ds) (A : Option Addr) (c : Nat) (l : List ByteArray) (A2 : Option Addr) (c2 : Nat) (l2 : List ByteArray) (w : World) (hs : StrsA w A l) (hs2 : StrsA w A2 l2) (hl : l.length ≤ 9223372036854775807) (hl2 : l2.length ≤ 9223372036854775807) :
    Calls Tryd.prog 13 #[.agg d.cells, .slice A l.length c, .slice A2 l2.length c2] w fun e w' => e = .returned (.bool true) ∧ Below w.heap.size w w' := by
  have HSA := Lib.hid hs
  have HSB := Lib.hid hs2
  obtain ⟨dc, hdc⟩ : ∃ dc, dc = d.cells := ⟨_, rfl⟩
  have hds : dc.size = 21 := by rw [hdc]; exact d.size
  have HDO : Hid (dc.all (·.oneCell') = true) := by show _ = _; rw [hdc]; exact ds_one _
  have HDC := Lib.hid hdc
  have HSH1 : Hid (∀ w', Below w.heap.size w w' → Calls Tryd.prog 55 #[.slice A l.length c, .int .i64 20, .int .i64 300] w' fun e w'' => e = .returned (.bool (shortN 20 300 l)) ∧ w'' = w') := fun w' hb => shortN_any 20 300 (by decide) A c l w' (hs.keep hb)
  have HSH2 : Hid (∀ w', Below w.heap.size w w' → Calls Tryd.prog 55 #[.slice A2 l2.length c2, .int .i64 20, .int .i64 300] w' fun e w'' => e = .returned (.bool (shortN 20 300 l2)) ∧ w'' = w') := fun w' hb => shortN_any 20 300 (by decide) A2 c2 l2 w' (hs2.keep hb)
  obtain ⟨b1, hb1⟩ : ∃ b, b = shortN 20 300 l := ⟨_, rfl⟩
  obtain ⟨b2, hb2⟩ : ∃ b, b = shortN 20 300 l2 := ⟨_, rfl⟩
  obtain ⟨bv, hbv⟩ : ∃ b, b = validOf d := ⟨_, rfl⟩
  have HVA : Hid (∀ w', Calls Tryd.prog 56 #[.agg dc] w' fun e w'' => e = .returned (.bool bv) ∧ Below w'.heap.size w' w'') := fun w' => by rw [hdc, hbv]; exact refValid_at d w'
  rw [← hb1] at HSH1
  rw [← hb2] at HSH2
  have HB1 := Lib.hid hb1
  have HB2 := Lib.hid hb2
  have HBV := Lib.hid hbv
  have hdorg : dc[1]? = some (.int .i64 d.org) := by rw [hdc]; exact d.org_at
  rw [← hdc]
  clear hs hs2 hdc hb1 hb2 hbv
  go_enter Tryd.func13, Tryd.ntmps13
  go_wp2_with fail
  refine (awakeE_any _).mono ?_
  rintro e w1 ⟨rfl, hw1⟩
  have HGD1 : Hid (w1.heap[w.heap.size]? = some (.cells dc 23 (0, 0))) := block_at hw1 (heap_alloc_new _ _)
  have HW1 := Lib.hid (bstep ((Below.refl _ _).alloc (Nat.le_refl _) _) hw1)
  clear hw1
  have hgd := HGD1.out
  have hco := (cell_of_row _ _ 1 _ _ _ hgd).trans hdorg
  cases b1 with
  | false =>
    go_wp2_with (first | (go_at_call 55; with_reducible refine (HSH1.out _ HW1.out).mono ?_; rintro e w1 ⟨rfl, rfl⟩) | fail)
    go_ret
    exact ⟨rfl, HW1.out⟩
  | true =>
    cases b2 with
    | false =>
      go_wp2_with (first | (go_at_call 55; with_reducible refine (HSH1.out _ HW1.out).mono ?_; rintro e w1 ⟨rfl, rfl⟩) | (go_at_call 55; with_reducible refine (HSH2.out _ HW1.out).mono ?_; rintro e w1 ⟨rfl, rfl⟩) | fail)
      go_ret
      exact ⟨rfl, HW1.out⟩
    | true =>
      cases bv with
      | false =>
        go_wp2_with (first | (go_at_call 55; with_reducible refine (HSH1.out _ HW1.out).mono ?_; rintro e w1 ⟨rfl, rfl⟩) | (go_at_call 55; with_reducible refine (HSH2.out _ HW1.out).mono ?_; rintro e w1 ⟨rfl, rfl⟩) | (go_at_call 56; refine (HVA.out _).mono ?_; rintro e wv ⟨rfl, hbv⟩; have HWV := Lib.hid (bstep HW1.out hbv); clear hbv) | fail)
        go_ret
        exact ⟨rfl, HWV.out⟩
      | true =>
        by_cases hor : d.org = 1
        · have hne : (d.org != 1) = false := by simp [hor]
          have HOR := Lib.hid hor
          obtain ⟨s, hsd⟩ : ∃ s, s = buildOf d l := ⟨_, rfl⟩
          have HLS : Hid (l.length ≤ 20 ∧ (∀ x ∈ l, x.size ≤ 300) ∧ ∀ k, k < l.length → (l.getD k ByteArray.empty).size ≤ 300) := shortN_size HB1.out.symm
          have HLS2 : Hid (l2.length ≤ 20 ∧ (∀ x ∈ l2, x.size ≤ 300) ∧ ∀ k, k < l2.length → (l2.getD k ByteArray.empty).size ≤ 300) := shortN_size HB2.out.symm
          have HINV : Hid (∃ ps, BInv d s ps ∧ ps.flatten.length ≤ l.length) := by
            show ∃ _, _
            obtain ⟨ps, hB, hn⟩ := binv_take HBV.out.symm hor l (by have := HLS.out.1; omega) l.length (Nat.le_refl _)
            rw [List.take_of_length_le (Nat.le_refl _), ← hsd] at hB
            exact ⟨ps, hB, hn⟩
          obtain ⟨hc, hhc⟩ : ∃ hc, hc = s.h.cells := ⟨_, rfl⟩
          have hcz : hc.size = 7 := by rw [hhc]; exact s.h.size
          have HCO : Hid (hc.all (·.oneCell') = true) := by show _ = _; rw [hhc]; exact hd_one _
          have HHC := Lib.hid hhc
          have HBU : Hid (∀ w', Below w.heap.size w w' → Calls Tryd.prog 57 #[.agg dc, .slice A l.length c] w' fun e w'' => ∃ vm vp, e = .returned (.tuple #[.agg hc, vm, vp, .bool true]) ∧ OwnS w'.heap.size w'' vm s.m ∧ w''.ownsRow w'.heap.size 48 2 vp s.prs.length (prCells s.prs) ∧ (∀ q, vp.ownBlock = some q → vm.ownBlock ≠ some q) ∧ (s.m.length ≤ 20000 ∧ ∀ x ∈ s.m, x.size ≤ 1000) ∧ Below w'.heap.size w' w'') := by
            show ∀ _ _, _
            intro w' hb
            rw [hhc, hsd, HDC.out]
            exact build_any d A c l w' HBV.out.symm hor (by have := HLS.out.1; omega) HLS.out.2.2 (HSA.out.keep hb)
          clear hor hsd hhc
          go_wp2_with (first | (go_at_call 55; with_reducible refine (HSH1.out _ HW1.out).mono ?_; rintro e w1 ⟨rfl, rfl⟩) | (go_at_call 55; with_reducible refine (HSH2.out _ HW1.out).mono ?_; rintro e w1 ⟨rfl, rfl⟩) | (go_at_call 56; refine (HVA.out _).mono ?_; rintro e wv ⟨rfl, hbv⟩; have HWV := Lib.hid (bstep HW1.out hbv); have hgv := block_at hbv HGD1.out; have hcv := (cell_of_row _ _ 1 _ _ _ hgv).trans hdorg; clear hbv) | (go_at_call 57; refine (HBU.out _ HWV.out).mono ?_; rintro e w5 ⟨vm, vp, rfl, hom, hop, hdd, hms, hb5⟩; have HMS := Lib.hid hms; have HW5 := Lib.hid (bstep HWV.out hb5); have HOM := Lib.hid hom; have HG5 := Lib.hid (block_at hb5 hgv); clear hom hop hdd hms hb5) | (refine wpl_store_fresh rfl 30 _ _ rfl hc rfl 30 _ rfl (by rw [hcz]; exact info30) (by rw [hcz]; rfl) HCO.out ?_; intro w6 hg6 hb6 hs6; have HG6 := Lib.hid hg6; have HW6 := Lib.hid (bstep HW5.out hb6); have HGD6 := Lib.hid (block_at hb6 HG5.out); have HOM6 := Lib.hid (own_keep HOM.out hb6); have HS6 := Lib.hid hs6; clear hg6 hb6 hs6) | fail)
          obtain ⟨g7, hg7⟩ : ∃ g, g = w5.heap.size := ⟨_, rfl⟩
          rw [← hg7] at HG6 HS6
          rw [← hg7]
          obtain ⟨Am, cm, rfl, _, _⟩ := own_row HOM6.out
          have HG7L : Hid (w.heap.size < g7) := by show _ < _; rw [hg7]; exact blk_lt HG5.out
          have HVG : Hid ((Value.slice Am s.m.length cm).ownBlock ≠ some g7) := fun e => by have := (World.ownsRow.lt HOM.out _ e).2; omega
          clear hg7 hgd hco hgv hcv
          go_loopw [11, 12, 13] (fun x y i wr => ∃ k : Nat, i = .int .i64 k ∧ k ≤ l2.length ∧ wr.ownsRow w6.heap.size 3 1 x k ((l2.take k).map fun r => Value.int .i64 (r.size : Int)) ∧ y = .bool (fineOf d (l2.take k)) ∧ Below w6.heap.size w6 wr) (fun _ _ i _ => l2.length - (intOf i).toNat)
          case atStart => exact ⟨0, rfl, Nat.zero_le _, own_empty (Nat.le_refl _) (heap_alloc_new _ _), rfl, (Below.refl _ _).alloc (Nat.le_refl _) _⟩
          case round =>
            obtain ⟨k, rfl, hk, ho, rfl, hb⟩ := hrel
            have HOX := Lib.hid ho
            have HBX := Lib.hid hb
            have HBW := Lib.hid (bstep HW6.out hb)
            obtain ⟨Ax, cx, rfl, hrx, _⟩ := own_row ho
            have HRX := Lib.hid hrx
            obtain ⟨bf, hbf⟩ : ∃ bf, bf = fineOf d (l2.take k) := ⟨_, rfl⟩
            rw [← hbf]
            have HBF := Lib.hid hbf
            obtain ⟨xs, hxs⟩ : ∃ xs, xs = (l2.take k).map fun r => Value.int .i64 (r.size : Int) := ⟨_, rfl⟩
            rw [← hxs] at HOX HRX
            have HXS := Lib.hid hxs
            clear ho hb hbf hxs hrx
            by_cases hkl : k < l2.length
            · obtain ⟨b, o, rfl, hb0, hc0⟩ := HSB.out (by omega)
              have hck := (HBW.out.cell (p := ⟨b, o + k, none⟩) hb0).trans (hc0 k hkl)
              have HRS := HLS2.out.2.2 k hkl
              have HTK : Hid ((l2.take (k + 1)).map (fun r => Value.int .i64 (r.size : Int)) = xs ++ [Value.int .i64 ((l2.getD k ByteArray.empty).size : Int)]) := by
                show _ = _
                rw [List.take_succ_eq_append_getElem hkl, List.map_append, ← HXS.out]
                simp [List.getD, hkl]
              have HFK : Hid (fineOf d (l2.take (k + 1)) = (bf && (decide (1 ≤ ((l2.getD k ByteArray.empty).size : Int)) && decide (((l2.getD k ByteArray.empty).size : Int) ≤ d.len)))) := by
                show _ = _
                rw [HBF.out]
                unfold fineOf
                rw [List.take_succ_eq_append_getElem hkl, List.all_append]
                simp [List.getD, hkl]
              have HRW : Hid (w.cell? ⟨b, o + k, none⟩ = some (.string (l2.getD k ByteArray.empty)) ∧ b < w.heap.size) := ⟨hc0 k hkl, hb0⟩
              obtain ⟨r, hr⟩ : ∃ r, r = l2.getD k ByteArray.empty := ⟨_, rfl⟩
              rw [← hr] at hck HRS HTK HFK HRW
              have HLN : Hid (k + 1 ≤ maxLen ∧ (k + 1) * 8 ≤ 140737488355328) := by have := HLS2.out.1; show _ ∧ _; unfold maxLen; omega
              have hi0 : (0 : Int) ≤ (k : Int) := by omega
              have hi1 : (k : Int) < (l2.length : Int) := by omega
              clear hr hc0 hb0
              go_wp2_with (first | (at_builtin; refine wpl_pushH elemInt rfl _ _ rfl (.slice Ax k cx) k xs [.int .i64 (r.size : Int)] rfl HOX.out HBX.out _ rfl rfl rfl (by simp [Value.oneCell']) HLN.out.1 HLN.out.2 ?_; intro g cap w7 hown7 hb7; have HO7 := Lib.hid hown7; have HB7 := Lib.hid hb7; clear hown7 hb7) | fail)
              have hcr7 : w7.cell? ⟨b, o + k, none⟩ = some (.string r) := ((bstep HW6.out HB7.out).cell (p := ⟨b, o + k, none⟩) HRW.out.2).trans HRW.out.1
              have hcl7 : w7.cell? ⟨w.heap.size, 3, none⟩ = some (.int .i64 d.len) := (cell_of_row _ _ 3 _ _ _ (block_at HB7.out HGD6.out)).trans (by rw [HDC.out]; exact d.len_at)
              clear hck
              cases bf with
              | false =>
                go_quiet (fail)
                go_wp2
                exact ⟨⟨k + 1, by go_num, by omega, by rw [HTK.out]; exact own_keep HO7.out (below_drewN (Below.refl _ _) _), by rw [HFK.out]; rfl, HB7.out.trans (below_drewN (Below.refl _ _) _)⟩, by simp [intOf]; omega⟩
              | true =>
                by_cases h1 : 1 ≤ (r.size : Int)
                · have hd1 : decide (1 ≤ (r.size : Int)) = true := decide_eq_true h1
                  by_cases h2 : (r.size : Int) ≤ d.len
                  · have hd2 : decide ((r.size : Int) ≤ d.len) = true := decide_eq_true h2
                    rw [hd1, hd2] at HFK
                    clear h1 h2
                    go_quiet (fail)
                    go_wp2
                    exact ⟨⟨k + 1, by go_num, by omega, by rw [HTK.out]; exact own_keep HO7.out (below_drewN (Below.refl _ _) _), by rw [HFK.out]; rfl, HB7.out.trans (below_drewN (Below.refl _ _) _)⟩, by simp [intOf]; omega⟩
                  · have hd2 : decide ((r.size : Int) ≤ d.len) = false := decide_eq_false h2
                    rw [hd1, hd2] at HFK
                    clear h1 h2
                    go_quiet (fail)
                    go_wp2
                    exact ⟨⟨k + 1, by go_num, by omega, by rw [HTK.out]; exact own_keep HO7.out (below_drewN (Below.refl _ _) _), by rw [HFK.out]; rfl, HB7.out.trans (below_drewN (Below.refl _ _) _)⟩, by simp [intOf]; omega⟩
                · have hd1 : decide (1 ≤ (r.size : Int)) = false := decide_eq_false h1
                  rw [hd1] at HFK
                  clear h1
                  go_quiet (fail)
                  go_wp2
                  exact ⟨⟨k + 1, by go_num, by omega, by rw [HTK.out]; exact own_keep HO7.out (below_drewN (Below.refl _ _) _), by rw [HFK.out]; rfl, HB7.out.trans (below_drewN (Below.refl _ _) _)⟩, by simp [intOf]; omega⟩
            · have hkn : k = l2.length := by omega
              obtain ⟨ps, hB, hn⟩ := HINV.out
              have HBI := Lib.hid hB
              have hn9 : ps.flatten.length + l2.length < 9000 := by have := HLS.out.1; have := HLS2.out.1; omega
              obtain ⟨⟨L, er⟩, hLe⟩ : ∃ x, x = if bf = true then (atsOf d.itv ps l2, (0 : Int)) else ([], 2) := ⟨_, rfl⟩
              have HLE := Lib.hid hLe
              have HBF2 : Hid (bf = fineOf d l2) := by show _ = _; rw [HBF.out, hkn, List.take_of_length_le (Nat.le_refl _)]
              have HPO : Hid (placesOf s.m s.h d (l2.map fun r => (r.size : Int)) = (L, er)) := by
                show _ = _
                rw [places_cl hB.cl HBV.out.symm HOR.out (by omega) l2, hLe, HBF2.out]
              have HRL : Hid (RowA wr Ax ((l2.map fun r => (r.size : Int)).map (Value.int .i64))) := by
                have := HRX.out
                rw [HXS.out, hkn, List.take_of_length_le (Nat.le_refl _)] at this
                rw [List.map_map]
                exact this
              obtain ⟨wl, rfl⟩ : ∃ wl : World, wl = wr := ⟨_, rfl⟩
              have HOL : Hid (OwnS w.heap.size wl (.slice Am s.m.length cm) s.m) := own_mono (own_keep HOM6.out HBX.out) HWV.out.size
              have HPL : Hid (Calls Tryd.prog 58 #[.iface 32 (.slice Am s.m.length cm), .agg hc, .agg dc, .slice Ax l2.length cx] wl fun e w'' => ∃ Al cl, e = .returned (.tuple #[.slice Al L.length cl, .int .i64 er]) ∧ w''.ownsRow wl.heap.size 3 1 (.slice Al L.length cl) L.length (L.map (Value.int .i64)) ∧ Below wl.heap.size wl w'') := by
                have := places_any Am cm s.m s.h d Ax cx (l2.map fun r => (r.size : Int)) wl (by have := HMS.out.1; omega) HMS.out.2 (own_strsA HOL.out) (by rw [List.length_map]; have := HLS2.out.1; omega) HRL.out
                rw [HPO.out, List.length_map] at this
                rw [HHC.out, HDC.out]
                exact this
              have hgh := block_at HBX.out HG6.out
              have hgd := block_at HBX.out HGD6.out
              subst hkn
              clear hB hLe hn
              cases bf with
              | false =>
                obtain ⟨rfl, rfl⟩ : L = [] ∧ er = 2 := by have := HLE.out; simpa using this
                go_wp2_with (first | (go_at_call 58; refine HPL.out.mono ?_; rintro e w8 ⟨Al, cl, rfl, hol, hb8⟩; have HB8 := Lib.hid hb8; clear hol hb8) | fail)
                go_loopw [8, 16] (fun x y wr => Below w.heap.size w wr) (fun _ _ _ => 0)
                case atStart => exact bstep HBW.out HB8.out
                case round =>
                  have HBZ := Lib.hid hrel
                  clear hrel
                  go_wp2
                  go_ret
                  exact ⟨rfl, HBZ.out⟩
              | true =>
                obtain ⟨rfl, hL⟩ : er = 0 ∧ L = atsOf d.itv ps l2 := by have := HLE.out; rw [if_pos rfl] at this; injection this with h1 h2; exact ⟨h2, h1⟩
                have HLL : Hid (L.length = l2.length) := by show _ = _; rw [hL, atsOf_length]
                have HL := Lib.hid hL
                clear hL
                go_wp2_with (first | (go_at_call 58; refine HPL.out.mono ?_; rintro e w8 ⟨Al, cl, rfl, hol, hb8⟩; have HOA := Lib.hid hol; have HB8 := Lib.hid hb8; clear hol hb8) | fail)
                have HWL : Hid (g7 < wl.heap.size ∧ w.heap.size < wl.heap.size) := ⟨blk_lt hgh, blk_lt hgd⟩
                have HI2 : Hid (w8.heap[w.heap.size]? = some (.cells dc 23 (0, 0)) ∧ w8.heap[g7]? = some (.cells s.h.cells 30 (0, 0)) ∧ OwnS w.heap.size w8 (.slice Am s.m.length cm) s.m) := ⟨block_at HB8.out hgd, by rw [← HHC.out]; exact block_at HB8.out hgh, own_keep HOL.out HB8.out⟩
                clear hgh hgd
                go_loopw [8, 16] (fun x y wr => ∃ k : Nat, y = .int .i64 k ∧ k ≤ l2.length ∧ OwnS w.heap.size wr x ((l2.take k).foldl (stepB d) s).m ∧ (x.ownBlock ≠ some g7) ∧ (((l2.take k).foldl (stepB d) s).m.length ≤ 20000 ∧ ∀ z ∈ ((l2.take k).foldl (stepB d) s).m, z.size ≤ 1000) ∧ wr.heap[w.heap.size]? = some (.cells dc 23 (0, 0)) ∧ wr.heap[g7]? = some (.cells ((l2.take k).foldl (stepB d) s).h.cells 30 (0, 0)) ∧ wr.ownsRow wl.heap.size 3 1 (.slice Al L.length cl) L.length (L.map (Value.int .i64)) ∧ Below w.heap.size w wr) (fun _ y _ => l2.length - (intOf y).toNat)
                case atStart => exact ⟨0, rfl, Nat.zero_le _, HI2.out.2.2, HVG.out, HMS.out, HI2.out.1, HI2.out.2.1, HOA.out, bstep HBW.out HB8.out⟩
                case round =>
                  obtain ⟨k, rfl, hk, hom, hog, hms, hgd, hgh, hol, hbw⟩ := hrel
                  obtain ⟨sk, hsk⟩ : ∃ sk, sk = (l2.take k).foldl (stepB d) s := ⟨_, rfl⟩
                  rw [← hsk] at hom hms hgh
                  obtain ⟨hBk, hfk⟩ := run_take HBV.out.symm HOR.out HBI.out l2 hn9 HBF2.out.symm k hk
                  rw [← hsk] at hBk
                  have HSK := Lib.hid hsk
                  have HBK := Lib.hid hBk
                  have HOM2 := Lib.hid hom
                  have HOG := Lib.hid hog
                  have HMS2 := Lib.hid hms
                  have HGD2 := Lib.hid hgd
                  have HOL2 := Lib.hid hol
                  have HBW2 := Lib.hid hbw
                  obtain ⟨A6, c6, rfl, _, _⟩ := own_row hom
                  obtain ⟨kc, hkc⟩ : ∃ kc, kc = sk.h.cells := ⟨_, rfl⟩
                  rw [← hkc] at hgh
                  have hkz : kc.size = 7 := by rw [hkc]; exact sk.h.size
                  have HKC := Lib.hid hkc
                  have HGH2 := Lib.hid hgh
                  have HFK := Lib.hid hfk
                  clear hsk hBk hom hog hms hgd hol hbw hkc hgh hfk
                  by_cases hkl : k < l2.length
                  · obtain ⟨b, o, rfl, hb0, hc0⟩ := HSB.out (by omega)
                    have hck := (HBW2.out.cell (p := ⟨b, o + k, none⟩) hb0).trans (hc0 k hkl)
                    have hb1 : b < wr.heap.size := Nat.lt_of_lt_of_le hb0 HBW2.out.size
                    have hre : l2.getD k ByteArray.empty = l2[k] := by simp [List.getD, hkl]
                    obtain ⟨r, hr⟩ : ∃ r, r = l2.getD k ByteArray.empty := ⟨_, rfl⟩
                    have hra := fine_iff.1 HBF2.out.symm l2[k] (List.getElem_mem _)
                    have hat := atsOf_get d.itv l2 ps k hkl
                    have HTK : Hid ((l2.take (k + 1)).foldl (stepB d) s = stepB d sk r) := by
                      show _ = _
                      rw [HSK.out, hr, hre, List.take_succ_eq_append_getElem hkl, List.foldl_append]
                      rfl
                    rw [← hre, ← hr] at hra hat
                    rw [← hr] at hck
                    obtain ⟨pg, he, hpz, _, _, _, _⟩ := HBK.out.step HBV.out.symm HOR.out (by have := HFK.out; have := HBI.out; omega) r (by omega) hra.2
                    obtain ⟨n, hnn⟩ : ∃ n : Nat, n = (nextPs d.itv (psOf d.itv ps (l2.take k)) r).length := ⟨_, rfl⟩
                    obtain ⟨at1, hat1⟩ : ∃ a, a = atOf (psOf d.itv ps (l2.take k)).length d.itv (lastPg (psOf d.itv ps (l2.take k))) r := ⟨_, rfl⟩
                    rw [← hnn, ← hat1] at he
                    rw [← hat1, ← HL.out] at hat
                    obtain ⟨ah, hah⟩ : ∃ ah : Hd, ah = { sk.h with cnt := sk.h.cnt + 1, fin := (n : Int) } := ⟨_, rfl⟩
                    rw [← hah] at he
                    have HST : Hid (stepB d sk r = ⟨ah, putOf sk.m [((n : Int), pg)], sk.prs ++ [(at1, r)], at1⟩) := by show _ = _; unfold stepB; rw [he, if_pos rfl]
                    obtain ⟨ac, hac⟩ : ∃ ac, ac = ah.cells := ⟨_, rfl⟩
                    have hacz : ac.size = 7 := by rw [hac]; exact ah.size
                    have haco : Ones ac := by unfold Ones; rw [hac]; exact hd_one _
                    have HAC := Lib.hid hac
                    have HPZ := Lib.hid hpz
                    have HA1 : Hid (∀ w', Below wr.heap.size wr w' → Calls Tryd.prog 52 #[.iface 32 (.slice A6 sk.m.length c6), .agg kc, .agg dc, .string r] w' fun e w'' => ∃ A9 c9, e = .returned (.tuple #[.agg ac, .slice A9 1 c9, .int .i64 at1, .int .i64 0]) ∧ RowA w'' A9 (wrCells [((n : Int), pg)]) ∧ Below w'.heap.size w' w'') := by
                      show ∀ _ _, _
                      intro w' hb
                      have := append_any A6 c6 sk.m sk.h d r w' (by have := HMS2.out.1; omega) HMS2.out.2 ((own_strsA HOM2.out).keep hb) (by have := (valid_itv HBV.out.symm).2.2.1; omega)
                      rw [he] at this
                      rw [HKC.out, HDC.out, HAC.out]
                      exact this
                    have HRW : Hid (w.cell? ⟨b, o + k, none⟩ = some (.string r) ∧ b < w.heap.size) := ⟨by rw [hr]; exact hc0 k hkl, hb0⟩
                    obtain ⟨bl, ol, rfl, hbl, hcl⟩ := (own_rowA HOL2.out) (by rw [List.length_map]; have := HLL.out; omega)
                    have hcl2 := (hcl k (by rw [List.length_map]; have := HLL.out; omega)).trans (show (L.map (Value.int .i64))[k]? = some (.int .i64 at1) by rw [List.getElem?_map, hat]; rfl)
                    have HCL : Hid (wr.cell? ⟨bl, ol + k, none⟩ = some (.int .i64 at1) ∧ bl < wr.heap.size) := ⟨hcl2, hbl⟩
                    clear hr hre hra hat he hpz hnn hat1 hac hah hcl hcl2 hbl hc0
                    have hi0 : (0 : Int) ≤ (k : Int) := by omega
                    have hi1 : (k : Int) < (l2.length : Int) := by omega
                    have hi2 : (k : Int) < (L.length : Int) := by have := HLL.out; omega
                    have HCK : Hid (wr.cell? ⟨b, o + k, none⟩ = some (.string r) ∧ b < wr.heap.size) := ⟨hck, hb1⟩
                    have HKS : Hid (∀ w', Below wr.heap.size wr w' → Below wr.heap.size wr w' ∧ w'.heap[w.heap.size]? = some (.cells dc 23 (0, 0)) ∧ w'.heap[g7]? = some (.cells kc 30 (0, 0)) ∧ w'.cell? ⟨b, o + k, none⟩ = some (.string r)) := fun w' hb => ⟨hb, block_at hb HGD2.out, block_at hb HGH2.out, (hb.cell (p := ⟨b, o + k, none⟩) HCK.out.2).trans HCK.out.1⟩
                    go_upto_region 18 with fail
                    go_cut [17, 18, 19, 20] (fun v1 v2 v3 v4 wx => ∃ g A9 c9, v1 = .pointer (some ⟨g, 0, none⟩) ∧ v2 = .slice A9 1 c9 ∧ v3 = .int .i64 at1 ∧ v4 = .int .i64 0 ∧ Laid wr wx g ac A9 [((n : Int), pg)])
                    case first =>
                      go_region_held_law (fun w' => Below wr.heap.size wr w' ∧ w'.heap[w.heap.size]? = some (.cells dc 23 (0, 0)) ∧ w'.heap[g7]? = some (.cells kc 30 (0, 0)) ∧ w'.cell? ⟨b, o + k, none⟩ = some (.string r))
                        ((refine HKS.out _ ?_; first | with_reducible exact (Below.refl _ _).drew | with_reducible exact bstep (‹Below wr.heap.size wr _ ∧ _›).1 hb9 | with_reducible exact keep_alloc (‹Below wr.heap.size wr _ ∧ _›).1 _ | with_reducible exact keep_alloc_drew (‹Below wr.heap.size wr _ ∧ _›).1 _ | with_reducible exact keep_setRow (‹Below wr.heap.size wr _ ∧ _›).1 _ (by first | exact Nat.le_refl _ | (simp; done) | omega | (simp; omega)) _))
                        (first | (go_at_call 52; with_reducible_and_instances refine (HA1.out _ (‹Below wr.heap.size wr _ ∧ _›).1).mono ?_; rintro e w9 ⟨A9, c9, rfl, hr9, hb9⟩; have hB9 := bstep (‹Below wr.heap.size wr _ ∧ _›).1 hb9; have hz9 : wr.heap.size ≤ w9.heap.size := hB9.size; first | (have hq9 : w9.heap[_]? = some (Obj.cells #[.int .i64 0, .int .i64 0, .int .i64 0, .int .i64 0, .int .i64 0, .int .i64 0, .int .i64 0] 30 (0, 0)) := block_at hb9 (heap_alloc_new _ (Obj.cells #[.int .i64 0, .int .i64 0, .int .i64 0, .int .i64 0, .int .i64 0, .int .i64 0, .int .i64 0] 30))) | skip))
                      all_goals
                        go_wp2
                        go_meet
                        refine ⟨_, _, _, rfl, rfl, rfl, rfl, ?_⟩
                        first | exact Laid.behind hd0_nostr hr9 hB9 | exact Laid.ahead hq9 hd0_nostr hr9 hB9 (Nat.le_refl _)
                    case rest =>
                      obtain ⟨g9, A9, c9, rfl, rfl, rfl, rfl, hl9⟩ := hcut
                      obtain ⟨wa, rfl⟩ : ∃ wa : World, wa = wc := ⟨_, rfl⟩
                      have HL9 := Lib.hid hl9
                      have hcl3 : wa.cell? ⟨bl, ol + k, none⟩ = some (.int .i64 at1) := (hl9.bel.cell (p := ⟨bl, ol + k, none⟩) HCL.out.2).trans HCL.out.1
                      have HGHa : Hid (wa.heap[g7]? = some (.cells kc 30 (0, 0))) := block_at hl9.bel HGH2.out
                      have HGDa : Hid (wa.heap[w.heap.size]? = some (.cells dc 23 (0, 0))) := block_at hl9.bel HGD2.out
                      have HBWa := Lib.hid (bstep HBW2.out hl9.bel)
                      have HOMa : Hid (OwnS w.heap.size wa (.slice A6 sk.m.length c6) sk.m) := own_keep HOM2.out hl9.bel
                      have HOLa := Lib.hid (own_keep HOL2.out hl9.bel)
                      have h97 : g9 ≠ g7 := by have := hl9.le; have := blk_lt HGH2.out; omega
                      have HG97 : Hid (g7 < wr.heap.size) := blk_lt HGH2.out
                      clear hck hb1 hl9
                      have HPUT : Hid (∀ w', Below wa.heap.size wa w' → Calls Tryd.prog 26 #[.slice A6 sk.m.length c6, .slice A9 1 c9] w' fun e w'' => ∃ v, e = .returned v ∧ OwnS w'.heap.size w'' v (putOf sk.m [((n : Int), pg)]) ∧ Below w'.heap.size w' w'') := fun w' hb => putM_any (.slice A6 sk.m.length c6) sk.m A9 c9 [((n : Int), pg)] w' HMS2.out.1 (fun w'' hb2 => cat_own (own_keep HOMa.out (bstep hb hb2))) (by simp) (HL9.out.wr.keep hb)
                      have hgh := HGHa.out
                      go_upto_region 21 with fail
                      clear hcl3
                      go_region_held_law (fun w' => Below w.heap.size w w' ∧ w'.heap[g9]? = some (.cells ac 30 (0, 0)))
                        (first | exact ⟨HBWa.out.drew, HL9.out.row⟩ | exact ⟨bstep HBWa.out.drew hb26, block_at hb26 HL9.out.row⟩ | exact ⟨below_setRow (‹Below w.heap.size w _ ∧ _›).1 (Nat.le_of_lt HG7L.out) _, setRow_at (‹Below w.heap.size w _ ∧ _›).2 h97 _⟩ | fail)
                        (first | (go_at_call 26; with_reducible_and_instances refine (HPUT.out _ (Below.refl _ _).drew).mono ?_; rintro e w26 ⟨v, rfl, hown, hb26⟩; have hq26 := block_at hb26 HGHa.out))
                      all_goals
                        go_wp2
                        refine ⟨⟨k + 1, by go_num, by omega, ?_⟩, by simp [intOf]; omega⟩
                        rw [HTK.out, HST.out]
                        have h7 : g7 < wa.heap.size := blk_lt HGHa.out
                        refine ⟨own_mono (own_setRow hown h7 _) HBWa.out.size, fun e => ?_, ⟨putOf_le _ _ HMS2.out.1, putOf_small _ (fun x hx => ?_) _ HMS2.out.2⟩, setRow_at (block_at hb26 HGDa.out) (by have := HG7L.out; omega) _, by rw [← HAC.out]; exact setRow_heap _ _ _ _ _ _ hq26, own_setRow (own_keep (own_keep HOLa.out (Below.refl _ _).drew) hb26) HWL.out.1 _, below_setRow (bstep HBWa.out.drew hb26) (Nat.le_of_lt HG7L.out) _⟩
                        · have := (World.ownsRow.lt hown _ e).1
                          have e2 : wa.drew.heap.size = wa.heap.size := rfl
                          omega
                        · have : x = ((n : Int), pg) := by simpa using hx
                          subst this
                          have h1 := HPZ.out
                          have h2 := (valid_itv HBV.out.symm).2.1
                          dsimp only
                          omega
                  · have hle : ((L.length : Int) == (l2.length : Int)) = true := by have := HLL.out; simp [this]
                    go_wp2
                    go_ret
                    exact ⟨rfl, HBW2.out⟩
        · have hne : (d.org != 1) = true := by simp [hor]
          clear hor
          go_wp2_with (first | (go_at_call 55; with_reducible refine (HSH1.out _ HW1.out).mono ?_; rintro e w1 ⟨rfl, rfl⟩) | (go_at_call 55; with_reducible refine (HSH2.out _ HW1.out).mono ?_; rintro e w1 ⟨rfl, rfl⟩) | (go_at_call 56; refine (HVA.out _).mono ?_; rintro e wv ⟨rfl, hbv⟩; have HWV := Lib.hid (bstep HW1.out hbv); have hgv := block_at hbv HGD1.out; have hcv := (cell_of_row _ _ 1 _ _ _ hgv).trans hdorg; clear hbv) | fail)
          go_ret
          exact ⟨rfl, HWV.out⟩

theorem placesLaw_card (d : Ds) (A : Option Addr) (c : Nat) (l : List ByteArray) (A2 : Option Addr) (c2 : Nat) (l2 : List ByteArray) (w : World) (hl : l.length ≤ 9223372036854775807) (hs : StrsA w A l) (hl2 : l2.length ≤ 9223372036854775807) (hs2 : StrsA w A2 l2) :
    Calls Tryd.prog 13 #[.agg d.cells, .slice A l.length c, .slice A2 l2.length c2] w fun e w' => e = .returned (.bool true) ∧ Below w.heap.size w w' := placesLaw_any d A c l A2 c2 l2 w hs hs2 hl hl2
end Go.Proofs.YtnkhifgppcnmkaaDoor

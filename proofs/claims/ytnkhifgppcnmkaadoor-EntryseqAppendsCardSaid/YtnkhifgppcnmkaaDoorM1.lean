/- Law of chapter 18: EntryseqAppends. -/
import Derived.Test.YtnkhifgppcnmkaaDoorC5
import Derived.Test.YtnkhifgppcnmkaaDoorC4
namespace Go.Proofs.YtnkhifgppcnmkaaDoor
open Go.RowKit Iv
attribute [local go_sem ↓] Go.wp_at_zero Go.wp_at_succ exec_ld23 exec_ld30 exec_st23 exec_st30 heap_alloc_new heap_alloc_old
attribute [local go_sem] ld23_run ld30_run st23_run st30_run

theorem shortE_size {l : List ByteArray} (h : shortE l = true) (k : Nat) (hk : k < l.length) : (l.getD k ByteArray.empty).size ≤ 300 := by
  unfold shortE at h
  simp only [Bool.and_eq_true, decide_eq_true_eq, List.all_eq_true] at h
  have h1 : l.getD k ByteArray.empty = l[k] := by simp [List.getD, hk]
  rw [h1]
  exact h.2 _ (List.getElem_mem hk)

set_option maxHeartbeats 1600000 in
set_option maxRecDepth 100000 in
theorem appends_any (d : Ds) (A : Option Addr) (c : Nat) (l : List ByteArray) (w : World) (hl : l.length ≤ 9223372036854775807) (hs : StrsA w A l) :
    Calls Tryd.prog 12 #[.agg d.cells, .slice A l.length c] w fun e w' => e = .returned (.bool true) ∧ Below w.heap.size w w' := by
  have HSA := Lib.hid hs
  obtain ⟨dc, hdc⟩ : ∃ dc, dc = d.cells := ⟨_, rfl⟩
  have hds : dc.size = 21 := by rw [hdc]; exact d.size
  have HDO : Hid (dc.all (·.oneCell') = true) := by show _ = _; rw [hdc]; exact ds_one _
  have HDC := Lib.hid hdc
  rw [← hdc]
  clear hs hdc
  go_enter Tryd.func12, Tryd.ntmps12
  go_wp2_with fail
  refine (awakeE_any _).mono ?_
  rintro e w1 ⟨rfl, hb1⟩
  have HGD1 : Hid (w1.heap[w.heap.size]? = some (.cells dc 23 (0, 0))) := (hb1.block _ (by simp)).trans (heap_alloc_new _ _)
  have HB1 := Lib.hid (bstep ((Below.refl _ _).alloc (Nat.le_refl _) _) hb1)
  clear hb1
  go_wp2_with fail
  refine (smallE_any A c l _ hl (HSA.out.keep HB1.out)).mono ?_
  rintro e w1 ⟨rfl, rfl⟩
  cases hsh : shortE l with
  | false =>
    clear hsh
    go_wp2
    go_ret
    exact ⟨rfl, HB1.out⟩
  | true =>
    have HSH := Lib.hid hsh
    clear hsh
    go_wp2_with (first | (refine wpl_build 30 _ rfl rfl [] hd0.cells (by kernel_rfl) built_hd0 ?_) | (refine wpl_store_freshN rfl 30 _ _ rfl hd0.cells rfl 30 _ (w1.heap.size + 1) (by simp) rfl (by rw [Hd.size]; exact info30) (by rw [Hd.size]; rfl) (hd_one _) ?_; intro w2 hg2 hb2 hs2; have HG2 := Lib.hid hg2; have HB2 := Lib.hid hb2; have HS2 := Lib.hid hs2; clear hg2 hb2 hs2) | fail)
    have HM2 : Hid (w2.heap[w1.heap.size]? = some (.cells #[.string ⟨#[]⟩] 9 (0, 0))) := block_at HB2.out (heap_alloc_new _ _)
    have HBW2 : Hid (Below w.heap.size w w2) := bstep (keep_alloc HB1.out _) HB2.out
    have HGD2 : Hid (w2.heap[w.heap.size]? = some (.cells dc 23 (0, 0))) := block_at HB2.out (alloc_at HGD1.out)
    have HO2 : Hid (OwnS w.heap.size w2 (.slice (some ⟨w1.heap.size, 0, none⟩) 1 1) [⟨#[]⟩]) := own_one HM2.out HB1.out.size
    have HM1 : Hid (∀ s ∈ ([⟨#[]⟩] : List ByteArray), s.size ≤ 1000) := memE
    obtain ⟨g5, hg5⟩ : ∃ g5, g5 = w1.heap.size + 1 := ⟨_, rfl⟩
    rw [← hg5] at HG2 ⊢
    have HG5 : Hid (w.heap.size ≤ g5) := by show _ ≤ _; have := HB1.out.size; omega
    have HS5 : Hid (w.heap.size < g5) := by show _ < _; have := HB1.out.size; omega
    clear hg5
    go_loopw [6, 7] (fun x y wr => ∃ (k : Nat) (m : List ByteArray) (h : Hd), y = .int .i64 k ∧ k ≤ l.length ∧ m.length ≤ 20000 ∧ (∀ s ∈ m, s.size ≤ 1000) ∧ OwnS w.heap.size wr x m ∧ wr.heap[w.heap.size]? = some (.cells dc 23 (0, 0)) ∧ wr.heap[g5]? = some (.cells h.cells 30 (0, 0)) ∧ Below w.heap.size w wr) (fun _ y _ => l.length - (intOf y).toNat)
    case atStart => exact ⟨0, [⟨#[]⟩], hd0, rfl, Nat.zero_le _, by decide, HM1.out, HO2.out, HGD2.out, HG2.out, HBW2.out⟩
    case round =>
      obtain ⟨k, m, h, rfl, hk, hml, hmz, hown, hgd, hgh, hbw⟩ := hrel
      have HMZ := Lib.hid hmz
      have HOW := Lib.hid hown
      have HGD := Lib.hid hgd
      have HBW := Lib.hid hbw
      obtain ⟨A6, c6, rfl, _, _⟩ := own_row hown
      obtain ⟨hc, hhc⟩ : ∃ hc, hc = h.cells := ⟨_, rfl⟩
      rw [← hhc] at hgh
      have hcz : hc.size = 7 := by rw [hhc]; exact h.size
      have HHC := Lib.hid hhc
      have HGH := Lib.hid hgh
      clear hmz hown hgd hbw hhc hgh
      by_cases hkl : k < l.length
      · obtain ⟨b, o, rfl, hb1, hc1⟩ := (HSA.out.keep HBW.out) (by omega)
        have hck := hc1 k hkl
        obtain ⟨r, hr⟩ : ∃ r, r = l.getD k ByteArray.empty := ⟨_, rfl⟩
        rw [← hr] at hck
        have HRZ : Hid (r.size ≤ 9223372036854775807) := by show _ ≤ _; have := shortE_size HSH.out k hkl; rw [← hr] at this; omega
        obtain ⟨⟨ah, ws, at1, er⟩, ha⟩ : ∃ a, a = appendOf m h d r := ⟨_, rfl⟩
        obtain ⟨ac, hac⟩ : ∃ ac, ac = ah.cells := ⟨_, rfl⟩
        have hacz : ac.size = 7 := by rw [hac]; exact ah.size
        have haco : Ones ac := by unfold Ones; rw [hac]; exact hd_one _
        have HAC := Lib.hid hac
        have HWS : Hid (ws.length ≤ 1 ∧ ∀ x ∈ ws, x.2.size ≤ 1000) := by have := append_ws m h d r; rw [← ha] at this; exact this
        have HA1 : Hid (∀ w', Below wr.heap.size wr w' → Calls Tryd.prog 52 #[.iface 32 (.slice A6 m.length c6), .agg hc, .agg dc, .string r] w' fun e w'' => ∃ A9 c9, e = .returned (.tuple #[.agg ac, .slice A9 ws.length c9, .int .i64 at1, .int .i64 er]) ∧ RowA w'' A9 (wrCells ws) ∧ Below w'.heap.size w' w'') := by
          show ∀ _ _, _
          intro w' hb
          have := append_any A6 c6 m h d r w' (by omega) HMZ.out ((own_strsA HOW.out).keep hb) HRZ.out
          rw [← ha] at this
          rw [HHC.out, HDC.out, HAC.out]
          exact this
        have HA2 : Hid (∀ w', Below wr.heap.size wr w' → Calls Tryd.prog 53 #[.slice A6 m.length c6, .agg hc, .agg dc, .string r] w' fun e w'' => ∃ A9 c9, e = .returned (.tuple #[.agg ac, .slice A9 ws.length c9, .int .i64 at1, .int .i64 er]) ∧ RowA w'' A9 (wrCells ws) ∧ Below w'.heap.size w' w'') := by
          show ∀ _ _, _
          intro w' hb
          have := refAppend_any A6 c6 m h d r w' (by omega) HMZ.out ((own_strsA HOW.out).keep hb) HRZ.out
          rw [← ha] at this
          rw [HHC.out, HDC.out, HAC.out]
          exact this
        clear hr ha hac hc1
        have hi0 : (0 : Int) ≤ (k : Int) := by omega
        have hi1 : (k : Int) < (l.length : Int) := by omega
        go_upto_region 9 with fail
        have HCK : Hid (wr.cell? ⟨b, o + k, none⟩ = some (.string r) ∧ b < wr.heap.size) := ⟨hck, hb1⟩
        have HKS : Hid (∀ w', Below wr.heap.size wr w' → Below wr.heap.size wr w' ∧ w'.heap[w.heap.size]? = some (.cells dc 23 (0, 0)) ∧ w'.heap[g5]? = some (.cells hc 30 (0, 0)) ∧ w'.cell? ⟨b, o + k, none⟩ = some (.string r)) := fun w' hb => ⟨hb, block_at hb HGD.out, block_at hb HGH.out, (hb.cell (p := ⟨b, o + k, none⟩) HCK.out.2).trans HCK.out.1⟩
        go_cut [8, 9, 10, 11] (fun v8 v9 v10 v11 wx => ∃ g A9 c9, v8 = .pointer (some ⟨g, 0, none⟩) ∧ v9 = .slice A9 ws.length c9 ∧ v10 = .int .i64 at1 ∧ v11 = .int .i64 er ∧ Laid wr wx g ac A9 ws)
        case first =>
          go_region_held_law (fun w' => Below wr.heap.size wr w' ∧ w'.heap[w.heap.size]? = some (.cells dc 23 (0, 0)) ∧ w'.heap[g5]? = some (.cells hc 30 (0, 0)) ∧ w'.cell? ⟨b, o + k, none⟩ = some (.string r))
            ((refine HKS.out _ ?_; first | with_reducible exact (Below.refl _ _).drew | with_reducible exact bstep (‹Below wr.heap.size wr _ ∧ _›).1 hb9 | with_reducible exact keep_alloc (‹Below wr.heap.size wr _ ∧ _›).1 _ | with_reducible exact keep_alloc_drew (‹Below wr.heap.size wr _ ∧ _›).1 _ | with_reducible exact keep_setRow (‹Below wr.heap.size wr _ ∧ _›).1 _ (by first | exact Nat.le_refl _ | (simp; done) | omega | (simp; omega)) _))
            (first | (go_at_call 52; with_reducible_and_instances refine (HA1.out _ (‹Below wr.heap.size wr _ ∧ _›).1).mono ?_; rintro e w9 ⟨A9, c9, rfl, hr9, hb9⟩; have hB9 := bstep (‹Below wr.heap.size wr _ ∧ _›).1 hb9; have hz9 : wr.heap.size ≤ w9.heap.size := hB9.size; first | (have hq9 : w9.heap[_]? = some (Obj.cells #[.int .i64 0, .int .i64 0, .int .i64 0, .int .i64 0, .int .i64 0, .int .i64 0, .int .i64 0] 30 (0, 0)) := block_at hb9 (heap_alloc_new _ (Obj.cells #[.int .i64 0, .int .i64 0, .int .i64 0, .int .i64 0, .int .i64 0, .int .i64 0, .int .i64 0] 30))) | skip))
          all_goals
            go_wp2
            go_meet
            refine ⟨_, _, _, rfl, rfl, rfl, rfl, ?_⟩
            first | exact Laid.behind hd0_nostr hr9 hB9 | exact Laid.ahead hq9 hd0_nostr hr9 hB9 (Nat.le_refl _)
        case rest =>
          obtain ⟨g9, A9, c9, rfl, rfl, rfl, rfl, hl9⟩ := hcut
          obtain ⟨wa, rfl⟩ : ∃ wa : World, wa = wc := ⟨_, rfl⟩
          have HL9 := Lib.hid hl9
          have HGDa : Hid (wa.heap[w.heap.size]? = some (.cells dc 23 (0, 0))) := block_at hl9.bel HGD.out
          have HGHa : Hid (wa.heap[g5]? = some (.cells hc 30 (0, 0))) := block_at hl9.bel HGH.out
          have HCKa : Hid (wa.cell? ⟨b, o + k, none⟩ = some (.string r) ∧ b < wa.heap.size) := ⟨(hl9.bel.cell (p := ⟨b, o + k, none⟩) hb1).trans hck, Nat.lt_of_lt_of_le hb1 hl9.bel.size⟩
          have HBWa := Lib.hid (bstep HBW.out hl9.bel)
          clear hl9 hck hb1
          have HA3 : Hid (∀ w', Below wa.heap.size wa w' → Calls Tryd.prog 53 #[.slice A6 m.length c6, .agg hc, .agg dc, .string r] w' fun e w'' => ∃ A9 c9, e = .returned (.tuple #[.agg ac, .slice A9 ws.length c9, .int .i64 at1, .int .i64 er]) ∧ RowA w'' A9 (wrCells ws) ∧ Below w'.heap.size w' w'') := fun w' hb => HA2.out w' (bstep HL9.out.bel hb)
          go_upto_region 10 with fail
          have HKSa : Hid (∀ w', Below wa.heap.size wa w' → Below wa.heap.size wa w' ∧ w'.heap[w.heap.size]? = some (.cells dc 23 (0, 0)) ∧ w'.heap[g5]? = some (.cells hc 30 (0, 0)) ∧ w'.cell? ⟨b, o + k, none⟩ = some (.string r)) := fun w' hb => ⟨hb, block_at hb HGDa.out, block_at hb HGHa.out, (hb.cell (p := ⟨b, o + k, none⟩) HCKa.out.2).trans HCKa.out.1⟩
          go_cut [12, 13, 14, 15] (fun v12 v13 v14 v15 wx => ∃ g A9 c9, v12 = .pointer (some ⟨g, 0, none⟩) ∧ v13 = .slice A9 ws.length c9 ∧ v14 = .int .i64 at1 ∧ v15 = .int .i64 er ∧ Laid wa wx g ac A9 ws)
          case first =>
            go_region_held_law (fun w' => Below wa.heap.size wa w' ∧ w'.heap[w.heap.size]? = some (.cells dc 23 (0, 0)) ∧ w'.heap[g5]? = some (.cells hc 30 (0, 0)) ∧ w'.cell? ⟨b, o + k, none⟩ = some (.string r))
              ((refine HKSa.out _ ?_; first | with_reducible exact (Below.refl _ _).drew | with_reducible exact bstep (‹Below wa.heap.size wa _ ∧ _›).1 hb10 | with_reducible exact keep_alloc (‹Below wa.heap.size wa _ ∧ _›).1 _ | with_reducible exact keep_alloc_drew (‹Below wa.heap.size wa _ ∧ _›).1 _ | with_reducible exact keep_setRow (‹Below wa.heap.size wa _ ∧ _›).1 _ (by first | exact Nat.le_refl _ | (simp; done) | omega | (simp; omega)) _))
              (first | (go_at_call 53; with_reducible_and_instances refine (HA3.out _ (‹Below wa.heap.size wa _ ∧ _›).1).mono ?_; rintro e w10 ⟨A9, c9, rfl, hr10, hb10⟩; have hB10 := bstep (‹Below wa.heap.size wa _ ∧ _›).1 hb10; have hz10 : wa.heap.size ≤ w10.heap.size := hB10.size; first | (have hq10 : w10.heap[_]? = some (Obj.cells #[.int .i64 0, .int .i64 0, .int .i64 0, .int .i64 0, .int .i64 0, .int .i64 0, .int .i64 0] 30 (0, 0)) := block_at hb10 (heap_alloc_new _ (Obj.cells #[.int .i64 0, .int .i64 0, .int .i64 0, .int .i64 0, .int .i64 0, .int .i64 0, .int .i64 0] 30))) | skip))
            all_goals
              go_wp2
              go_meet
              refine ⟨_, _, _, rfl, rfl, rfl, rfl, ?_⟩
              first | exact Laid.behind hd0_nostr hr10 hB10 | exact Laid.ahead hq10 hd0_nostr hr10 hB10 (Nat.le_refl _)
          case rest =>
            obtain ⟨g10, A10, c10, rfl, rfl, rfl, rfl, hl10⟩ := hcut
            obtain ⟨wb, rfl⟩ : ∃ wb : World, wb = wc := ⟨_, rfl⟩
            have HL10 := Lib.hid hl10
            have HL9b := Lib.hid (HL9.out.keep hl10.bel)
            have HGDb : Hid (wb.heap[w.heap.size]? = some (.cells dc 23 (0, 0))) := block_at hl10.bel HGDa.out
            have HGHb : Hid (wb.heap[g5]? = some (.cells hc 30 (0, 0))) := block_at hl10.bel HGHa.out
            have HBWb := Lib.hid (bstep HBWa.out hl10.bel)
            have HOWb : Hid (OwnS w.heap.size wb (.slice A6 m.length c6) m) := own_keep HOW.out (bstep HL9.out.bel hl10.bel)
            have hr1 := HL9b.out.row
            have hr2 := hl10.row
            have hneq : ∀ w, (binOp .neq 30 (.agg ac) (.agg ac)).run Tryd.prog w = .ok (.bool false) w := fun w => by rw [HAC.out, neq_hd]; simp
            have heq2 : ∀ w, (Op.equalIn 10000 30 (.agg ac) (.agg ac)).run Tryd.prog w = .ok true w := fun w => by rw [HAC.out, equalIn_hd]; simp
            have HSW : Hid (Calls Tryd.prog 54 #[.slice A9 ws.length c9, .slice A10 ws.length c10] wb fun e w'' => e = .returned (.bool true) ∧ Below wb.heap.size wb w'') := by
              have := sameWrites_any A9 A10 c9 c10 ws ws wb (by have := HWS.out.1; omega) HL9b.out.wr HL10.out.wr
              rw [decide_eq_true rfl] at this
              exact this
            clear hl10
            by_cases he : er = 0
            · subst he
              go_wp2_with (first | (go_at_call 54; refine HSW.out.mono ?_; rintro e w11 ⟨rfl, hb11⟩; have HB11 := Lib.hid hb11; clear hb11) | fail)
              have HGDc : Hid (w11.heap[w.heap.size]? = some (.cells dc 23 (0, 0))) := block_at HB11.out HGDb.out
              have HGHc : Hid (w11.heap[g5]? = some (.cells hc 30 (0, 0))) := block_at HB11.out HGHb.out
              have HG10c : Hid (w11.heap[g10]? = some (.cells ac 30 (0, 0))) := block_at HB11.out HL10.out.row
              have HW10c := Lib.hid (HL10.out.wr.keep HB11.out)
              have HBWc := Lib.hid (bstep HBWb.out HB11.out)
              have HOWc : Hid (OwnS w.heap.size w11 (.slice A6 m.length c6) m) := own_keep HOWb.out HB11.out
              have hl5 : g5 < w11.heap.size := blk_lt HGHc.out
              have h105 : g10 ≠ g5 := by have := HL10.out.le; have := blk_lt HGHa.out; omega
              have hd5 : w.heap.size ≠ g5 := by have := HG5.out; have := HS5.out; omega
              have HPUT : Hid (∀ w', Below w11.heap.size w11 w' → Calls Tryd.prog 26 #[.slice A6 m.length c6, .slice A10 ws.length c10] w' fun e w'' => ∃ v, e = .returned v ∧ OwnS w'.heap.size w'' v (putOf m ws) ∧ Below w'.heap.size w' w'') := fun w' hb => putM_any (.slice A6 m.length c6) m A10 c10 ws w' hml (fun w'' hb2 => cat_own (own_keep HOWc.out (bstep hb hb2))) (by have := HWS.out.1; omega) (HW10c.out.keep hb)
              clear hr1 hr2 hneq heq2
              have hgh := HGHc.out
              have HPM : Hid ((putOf m ws).length ≤ 20000 ∧ ∀ s ∈ putOf m ws, s.size ≤ 1000) := ⟨putOf_le ws m hml, putOf_small ws HWS.out.2 m HMZ.out⟩
              go_region_held_law (fun w' => Below w.heap.size w w' ∧ w'.heap[g10]? = some (.cells ac 30 (0, 0)))
                (first | exact ⟨HBWc.out.drew, HG10c.out⟩ | exact ⟨bstep HBWc.out.drew hb26, block_at hb26 HG10c.out⟩ | with_reducible exact ⟨below_setRow (‹Below w.heap.size w _ ∧ _›).1 HG5.out _, setRow_at (‹Below w.heap.size w _ ∧ _›).2 h105 _⟩)
                (first | (go_at_call 26; with_reducible_and_instances refine (HPUT.out _ (Below.refl _ _).drew).mono ?_; rintro e w26 ⟨v, rfl, hown, hb26⟩; have hq26 := block_at hb26 HGHc.out))
              all_goals
                go_wp2
                exact ⟨⟨k + 1, putOf m ws, ah, by go_num, by omega, HPM.out.1, HPM.out.2, own_mono (own_setRow hown hl5 _) HBWc.out.size, setRow_at (block_at hb26 HGDc.out) hd5 _, by rw [← HAC.out]; exact setRow_heap _ _ _ _ _ _ hq26, below_setRow (bstep HBWc.out.drew hb26) HG5.out _⟩, by simp [intOf]; omega⟩
            · have hne : (er == 0) = false := by simp [he]
              clear he
              go_wp2_with (first | (go_at_call 54; refine HSW.out.mono ?_; rintro e w11 ⟨rfl, hb11⟩; have HB11 := Lib.hid hb11; clear hb11) | fail)
              exact ⟨⟨k + 1, m, h, by go_num, by omega, hml, HMZ.out, own_keep HOWb.out HB11.out, block_at HB11.out HGDb.out, by rw [← HHC.out]; exact block_at HB11.out HGHb.out, bstep HBWb.out HB11.out⟩, by simp [intOf]; omega⟩
      · go_wp2
        go_ret
        exact ⟨rfl, HBW.out⟩
end Go.Proofs.YtnkhifgppcnmkaaDoor

/- Walks of chapter 18: the reference's Append. -/
import Derived.Test.YtnkhifgppcnmkaaDoorC2

/- Walks of chapter 18: the reference's Append. -/
namespace Go.Proofs.YtnkhifgppcnmkaaDoor
open Go.RowKit Iv

/-- The boxes of the reference's Append, and a row of its own. -/
structure ReS (w w' : World) (h : Hd) (d : Ds) (Z : Array Value) (v : Value) (l : List ByteArray) : Prop where
  hh : w'.heap[w.heap.size]? = some (.cells h.cells 30 (0, 0))
  hd : w'.heap[w.heap.size + 1]? = some (.cells d.cells 23 (0, 0))
  hz : w'.heap[w.heap.size + 1 + 1]? = some (.cells Z 30 (0, 0))
  own : OwnS (w.heap.size + 1 + 1 + 1) w' v l
  bel : Below w.heap.size w w'

theorem ReS.keep {w w' w2 : World} {h : Hd} {d : Ds} {Z : Array Value} {v : Value} {l : List ByteArray} (H : ReS w w' h d Z v l) (hb : Below w'.heap.size w' w2) : ReS w w2 h d Z v l :=
  ⟨(hb.block _ (blk_lt H.hh)).trans H.hh, (hb.block _ (blk_lt H.hd)).trans H.hd, (hb.block _ (blk_lt H.hz)).trans H.hz, own_keep H.own hb, bstep H.bel hb⟩

theorem ReS.set {w w' : World} {h h' : Hd} {d : Ds} {Z : Array Value} {v : Value} {l : List ByteArray} (H : ReS w w' h d Z v l) (i : Nat) (u : Value) (e : h.cells.setIfInBounds i u = h'.cells) : ReS w (w'.setCell ⟨w.heap.size, i, none⟩ u) h' d Z v l := by
  refine ⟨by rw [heap_setCell_same _ _ _ _ _ _ H.hh, e], by rw [heap_setCell_other _ _ _ _ (by simp)]; exact H.hd, by rw [heap_setCell_other _ _ _ _ (by simp; omega)]; exact H.hz, own_setCell H.own ?_, H.bel.setCell (Nat.le_refl _) _⟩
  intro hv
  have := (World.ownsRow.lt H.own _ hv).1
  omega

theorem ReS.nil {w w' : World} {h : Hd} {d : Ds} {Z : Array Value} {v : Value} {l : List ByteArray} (H : ReS w w' h d Z v l) : ReS w w' h d Z (.slice none 0 0) [] :=
  ⟨H.hh, H.hd, H.hz, World.ownsRow_nil _ _ _ _, H.bel⟩

theorem ownS_cat {B n : Nat} {w : World} {v : Value} {l : List ByteArray} {r : ByteArray} (h : w.ownsRow B 9 1 v n ([] ++ l.map Value.string ++ [Value.string r])) : OwnS B w v (l ++ [r]) := by
  have e : [] ++ l.map Value.string ++ [Value.string r] = (l ++ [r]).map Value.string := by simp
  rw [e] at h
  have hl := h.1
  rw [List.length_map, Nat.mul_one] at hl
  unfold OwnS
  rw [hl]
  exact h

theorem page_ok {l : List ByteArray} {r : ByteArray} (hl : l.length ≤ 512) (hlz : ∀ s ∈ l, s.size ≤ 512) (hr : r.size ≤ 200) : (l ++ [r]).length ≤ 1000 ∧ ∀ s ∈ l ++ [r], s.size ≤ 1000 := by
  refine ⟨by rw [List.length_append, List.length_singleton]; omega, fun s hs => ?_⟩
  rcases List.mem_append.1 hs with hs | hs
  · have := hlz s hs; omega
  · have : s = r := by simpa using hs
    subst this; omega

theorem refFits_own (size : Int) (B n : Nat) (v : Value) (l : List ByteArray) (r : ByteArray) (w : World) (hl : l.length ≤ 512) (hlz : ∀ s ∈ l, s.size ≤ 512) (hr : r.size ≤ 200)
    (ho : w.ownsRow B 9 1 v n ([] ++ l.map Value.string ++ [Value.string r])) :
    Calls Tryd.prog 42 #[.int .i64 size, v] w fun e w' => e = .returned (.bool (fitsOf size (l ++ [r]))) ∧ Below w.heap.size w w' := by
  obtain ⟨A0, c0, rfl, hs, hc⟩ := own_strs (ownS_cat ho)
  exact refFits_any size A0 c0 (l ++ [r]) w (page_ok hl hlz hr).1 (page_ok hl hlz hr).2 hs

theorem refEnc_own (size : Int) (B n : Nat) (v : Value) (l : List ByteArray) (r : ByteArray) (w : World) (hl : l.length ≤ 512) (hlz : ∀ s ∈ l, s.size ≤ 512) (hr : r.size ≤ 200)
    (ho : w.ownsRow B 9 1 v n ([] ++ l.map Value.string ++ [Value.string r])) :
    Calls Tryd.prog 38 #[.int .i64 size, v] w fun e w' => e = .returned (.tuple #[.string (encodeOf size (l ++ [r])).1, .int .i64 (encodeOf size (l ++ [r])).2]) ∧ Below w.heap.size w w' := by
  obtain ⟨A0, c0, rfl, hs, hc⟩ := own_strs (ownS_cat ho)
  exact refEncode_any size A0 c0 (l ++ [r]) w (page_ok hl hlz hr).1 (page_ok hl hlz hr).2 hs


set_option maxHeartbeats 1600000 in
set_option maxRecDepth 100000 in
theorem refAppend_any (A : Option Addr) (c : Nat) (m : List ByteArray) (h : Hd) (d : Ds) (r : ByteArray) (w : World) (hm : m.length ≤ 9223372036854775807) (hz : ∀ s ∈ m, s.size ≤ 1000) (hs : StrsA w A m) (hrz : r.size ≤ 9223372036854775807) :
    Calls Tryd.prog 53 #[.slice A m.length c, .agg h.cells, .agg d.cells, .string r] w (AppTo w (appendOf m h d r)) := by
  have HLD : Hid (∀ w', Below w.heap.size w w' → Calls Tryd.prog 110 #[.slice A m.length c, .agg d.cells, .int .i64 h.fin] w' fun e w'' => DecodedO w' (loadOf m d h.fin) e w'') := fun w' hb => refLoad_any A c m d h.fin w' hm hz (hs.keep hb)
  obtain ⟨pv, hpv⟩ : ∃ pv, pv = Value.slice A m.length c := ⟨_, rfl⟩
  rw [← hpv] at HLD ⊢
  clear hpv hs hz
  have HG : Hid (((w.alloc (.cells h.cells 30)).alloc (.cells d.cells 23)).heap[w.heap.size + 1]? = some (.cells d.cells 23 (0, 0)) ∧ ((w.alloc (.cells h.cells 30)).alloc (.cells d.cells 23)).heap[w.heap.size]? = some (.cells h.cells 30 (0, 0))) := ⟨heap_at_alloc (by simp), by rw [Below.heap_alloc _ _ _ (by simp)]; exact heap_alloc_new w _⟩
  have hds := d.size
  have hhs := h.size
  obtain ⟨k, hk⟩ : ∃ k, k = doorOf h d 1 := ⟨_, rfl⟩
  have HDO : Hid (∀ w', Calls Tryd.prog 109 #[.agg h.cells, .agg d.cells, .int .i64 1] w' fun e w'' => e = .returned (.int .i64 k) ∧ Below w'.heap.size w' w'') := fun w' => by rw [hk]; exact door_any h d 1 w'
  go_enter Tryd.func53, Tryd.ntmps53
  go_wp2_with (first | (refine wpl_load_row 23 _ rfl rfl (w.heap.size + 1) rfl 23 d.cells (0, 0) _ (by rw [Below.heap_alloc _ _ _ (by simp)]; exact HG.out.1) Tryd.underlying23 (by rw [Ds.size]; exact info23) ?_) | (refine wpl_load_row 30 _ rfl rfl w.heap.size rfl 30 h.cells (0, 0) _ (by rw [Below.heap_alloc _ _ _ (by simp; omega)]; exact HG.out.2) Tryd.underlying30 (by rw [Hd.size]; exact info30) ?_) | fail)
  refine (HDO.out _).mono ?_
  rintro e w1 ⟨rfl, hb1⟩
  have hgz : ∃ Z : Array Value, Z.size = 7 ∧ w1.heap[w.heap.size + 1 + 1]? = some (.cells Z 30 (0, 0)) := ⟨_, rfl, (hb1.block _ (by simp)).trans (heap_at_alloc (by simp))⟩
  obtain ⟨Z, hZ, hgz⟩ := hgz
  have HGH : Hid (w1.heap[w.heap.size]? = some (.cells h.cells 30 (0, 0))) := (hb1.block _ (by simp; omega)).trans ((Below.heap_alloc _ _ _ (by simp; omega)).trans HG.out.2)
  have HGD : Hid (w1.heap[w.heap.size + 1]? = some (.cells d.cells 23 (0, 0))) := (hb1.block _ (by simp)).trans ((Below.heap_alloc _ _ _ (by simp)).trans HG.out.1)
  have HB1 := Lib.hid (bstep ((((Below.refl _ _).alloc (Nat.le_refl _) _).alloc (by simp) _).alloc (by simp; omega) _) hb1)
  have HGZ := Lib.hid hgz
  have HZ := Lib.hid hZ
  clear hb1 hgz hZ HDO
  by_cases hk0 : k = 0
  · obtain ⟨hv, hp⟩ := door_zero (hk.symm.trans hk0)
    obtain ⟨hc0, hc1, hf0, hf1⟩ := plain_facts hp
    obtain ⟨hi0, hi1, hlen⟩ := valid_facts hv
    have HD0 : Hid (doorOf h d 1 = 0) := hk.symm.trans hk0
    clear hv hp hk
    subst hk0
    have hk3 : w1.cell? ⟨w.heap.size + 1, 3, none⟩ = some (.int .i64 d.len) := (cell_of_row _ _ 3 _ _ _ HGD.out).trans d.len_at
    have hk2 : w1.cell? ⟨w.heap.size, 2, none⟩ = some (.int .i64 h.fin) := (cell_of_row _ _ 2 _ _ _ HGH.out).trans h.fin_at
    by_cases hr1 : (r.size : Int) < 1
    · have hd1 : decide ((r.size : Int) < 1) = true := decide_eq_true hr1
      have HAN : Hid (appendOf m h d r = ⟨hd0, [], 0, 2⟩) := by
        show _ = _
        unfold appendOf
        rw [HD0.out, if_neg (by simp), if_pos (by omega)]
      clear hr1
      go_wp2_with (first | (refine wpl_build 30 _ rfl rfl [] hd0.cells (by kernel_rfl) built_hd0 ?_) | (refine wpList_store_row rfl 30 _ _ rfl (w.heap.size + 1 + 1) hd0.cells rfl rfl 30 Z HGZ.out (by rw [Hd.size]; exact info30) (by rw [HZ.out, Hd.size]) (hd_one _) ?_) | fail)
      refine bodyPost_ret (v := .tuple #[.agg hd0.cells, .slice none 0 0, .int .i64 0, .int .i64 2]) (results_cell4 (p := 8) (q := 9) (r := 10) (s := 11) rfl _ _ (w.heap.size + 1 + 1) 30 hd0.cells (0, 0) _ rfl (setRow_heap _ _ _ _ _ _ HGZ.out) Tryd.underlying30 (by rw [Hd.size]; exact info30) _ _ _ rfl rfl rfl) rfl ?_
      rw [HAN.out]
      exact ⟨none, 0, rfl, fun h => absurd h (by simp [wrCells]), below_setRow HB1.out (by omega) _⟩
    · by_cases hr2 : d.len < (r.size : Int)
      · have hd1 : decide ((r.size : Int) < 1) = false := decide_eq_false hr1
        have hd2 : decide (d.len < (r.size : Int)) = true := decide_eq_true hr2
        have HAN : Hid (appendOf m h d r = ⟨hd0, [], 0, 2⟩) := by
          show _ = _
          unfold appendOf
          rw [HD0.out, if_neg (by simp), if_pos (by omega)]
        clear hr1 hr2
        go_wp2_with (first | (refine wpl_build 30 _ rfl rfl [] hd0.cells (by kernel_rfl) built_hd0 ?_) | (refine wpList_store_row rfl 30 _ _ rfl (w.heap.size + 1 + 1) hd0.cells rfl rfl 30 Z HGZ.out (by rw [Hd.size]; exact info30) (by rw [HZ.out, Hd.size]) (hd_one _) ?_) | fail)
        refine bodyPost_ret (v := .tuple #[.agg hd0.cells, .slice none 0 0, .int .i64 0, .int .i64 2]) (results_cell4 (p := 8) (q := 9) (r := 10) (s := 11) rfl _ _ (w.heap.size + 1 + 1) 30 hd0.cells (0, 0) _ rfl (setRow_heap _ _ _ _ _ _ HGZ.out) Tryd.underlying30 (by rw [Hd.size]; exact info30) _ _ _ rfl rfl rfl) rfl ?_
        rw [HAN.out]
        exact ⟨none, 0, rfl, fun h => absurd h (by simp [wrCells]), below_setRow HB1.out (by omega) _⟩
      · have hd1 : decide ((r.size : Int) < 1) = false := decide_eq_false hr1
        have hd2 : decide (d.len < (r.size : Int)) = false := decide_eq_false hr2
        have hr200 : r.size ≤ 200 := by omega
        by_cases hf : 0 < h.fin
        · have hfd : decide (0 < h.fin) = true := decide_eq_true hf
          have HND : Hid (doorOf h d 1 = 0) := HD0
          obtain ⟨⟨l, k2⟩, hlk⟩ : ∃ x, x = loadOf m d h.fin := ⟨_, rfl⟩
          have HEO : Hid (endOfC m h d = (l, k2)) := by show _ = _; unfold endOfC; rw [if_neg (by omega), hlk]
          rw [← hlk] at HLD
          clear hlk
          have HSM : Hid (l.length ≤ 512 ∧ ∀ s ∈ l, s.size ≤ 512) := by
            have := end_small m h d
            rw [HEO.out] at this
            exact this
          have HGDa : Hid ((w1.alloc (.cells #[] 9)).heap[w.heap.size + 1]? = some (.cells d.cells 23 (0, 0))) := (Below.heap_alloc _ _ _ (blk_lt HGD.out)).trans HGD.out
          have hk2a : (w1.alloc (.cells #[] 9)).cell? ⟨w.heap.size, 2, none⟩ = some (.int .i64 h.fin) := (cell_of_row _ _ 2 _ _ _ ((Below.heap_alloc _ _ _ (blk_lt HGH.out)).trans HGH.out)).trans h.fin_at
          go_wp2_with (first | (refine wpl_load_row 23 _ rfl rfl (w.heap.size + 1) rfl 23 d.cells (0, 0) _ HGDa.out Tryd.underlying23 (by rw [Ds.size]; exact info23) ?_) | fail)
          refine (HLD.out _ (HB1.out.alloc HB1.out.size _)).mono ?_
          rintro e W ⟨v, rfl, hown, hb2⟩
          have HB2 := Lib.hid (bstep (HB1.out.alloc HB1.out.size _) hb2)
          have HGZ2 : Hid (W.heap[w.heap.size + 1 + 1]? = some (.cells Z 30 (0, 0))) := (hb2.block _ (by have := blk_lt HGZ.out; simp; omega)).trans ((Below.heap_alloc _ _ _ (blk_lt HGZ.out)).trans HGZ.out)
          have HGH2 : Hid (W.heap[w.heap.size]? = some (.cells h.cells 30 (0, 0))) := (hb2.block _ (by have := blk_lt HGH.out; simp; omega)).trans ((Below.heap_alloc _ _ _ (blk_lt HGH.out)).trans HGH.out)
          have HGD2 : Hid (W.heap[w.heap.size + 1]? = some (.cells d.cells 23 (0, 0))) := (hb2.block _ (by have := blk_lt HGD.out; simp; omega)).trans HGDa.out
          obtain ⟨A1, c1, rfl, _, _⟩ := own_row hown
          have HRS : Hid (ReS w W h d Z (.slice A1 l.length c1) l) := ⟨HGH2.out, HGD2.out, HGZ2.out, own_mono hown (by have := blk_lt HGZ.out; simp; omega), HB2.out⟩
          clear hown hb2 hk2 hk3 hk2a
          dsimp only
          by_cases hk2 : k2 = 0
          · subst hk2
            have g2 : W.cell? ⟨w.heap.size, 2, none⟩ = some (.int .i64 h.fin) := (cell_of_row _ _ 2 _ _ _ HRS.out.hh).trans h.fin_at
            have g7 : W.cell? ⟨w.heap.size + 1, 7, none⟩ = some (.int .i64 d.itv) := (cell_of_row _ _ 7 _ _ _ HRS.out.hd).trans d.itv_at
            clear hd1 hd2 hfd
            go_upto_region 12 with fail
            skip
            go_cut [69] (fun v69 wx => v69 = .bool (freshOf h.fin d.itv l r) ∧ Below W.heap.size W wx)
            case first =>
              have hz0 : (h.fin == 0) = false := by simp; omega
              have HF : Hid ((!fitsOf d.itv (l ++ [r])) = freshOf h.fin d.itv l r) := by show _ = _; unfold freshOf; rw [decide_eq_false (by omega : ¬ h.fin = 0)]; rfl
              have HFT : Hid (∀ n v w', w'.ownsRow W.heap.size 9 1 v n ([] ++ l.map Value.string ++ [Value.string r]) → Calls Tryd.prog 42 #[.int .i64 d.itv, v] w' fun e w'' => e = .returned (.bool (fitsOf d.itv (l ++ [r]))) ∧ Below w'.heap.size w' w'') := fun n v w' ho => refFits_own d.itv _ n v l r w' HSM.out.1 HSM.out.2 hr200 ho
              obtain ⟨gb, hgb⟩ : ∃ gb, gb = fitsOf d.itv (l ++ [r]) := ⟨_, rfl⟩
              rw [← hgb] at HF HFT
              have HL1 : Hid (0 + l.length ≤ maxLen ∧ (0 + l.length) * 16 ≤ 140737488355328 ∧ 0 + l.length + 1 ≤ maxLen ∧ (0 + l.length + 1) * 16 ≤ 140737488355328) := by show _ ∧ _; have := HSM.out.1; unfold maxLen; omega
              have HCT : Hid (∀ w', Below W.heap.size W w' → Cat w' (.slice A1 l.length c1) l.length (l.map Value.string)) := fun w' hb => cat_own (own_keep HRS.out.own hb)
              have HK : Hid (∀ w', Below W.heap.size W w' → w'.cell? ⟨w.heap.size, 2, none⟩ = some (.int .i64 h.fin) ∧ w'.cell? ⟨w.heap.size + 1, 7, none⟩ = some (.int .i64 d.itv)) := fun w' hBB => ⟨(hBB.cell (p := ⟨w.heap.size, 2, none⟩) (blk_lt HRS.out.hh)).trans g2, (hBB.cell (p := ⟨w.heap.size + 1, 7, none⟩) (blk_lt HRS.out.hd)).trans g7⟩
              clear hgb hf
              go_region_held_law (fun w' => w'.cell? ⟨w.heap.size, 2, none⟩ = some (.int .i64 h.fin) ∧ w'.cell? ⟨w.heap.size + 1, 7, none⟩ = some (.int .i64 d.itv))
                (first | exact HK.out _ hBB | exact HK.out _ (hBB.alloc hBB.size _) | exact HK.out _ (by ((repeat' first | exact Below.refl _ _ | refine Below.drew ?_ | refine Below.alloc ?_ ?_ _) <;> first | done | exact Nat.le_refl _ | (simp; done) | (simp; omega))))
                (first
                  | (refine step_cat elemStr (by rfl) _ _ rfl W.heap.size (.slice (some ⟨_, 0, none⟩) 0 0) 0 [] rfl (own_empty (by first | exact Nat.le_refl _ | (simp; done) | (simp; omega)) (by (first | exact heap_alloc_new _ _ | exact heap_at_alloc (by simp) | exact (Below.heap_alloc _ _ _ (by first | (simp; done) | (simp; omega))).trans (heap_alloc_new _ _) | exact (Below.heap_alloc _ _ _ (by first | (simp; done) | (simp; omega))).trans (heap_at_alloc (by simp))))) (by first | (simp; done) | (simp; omega)) (.slice A1 l.length c1) l.length (l.map Value.string) rfl (HCT.out _ (by ((repeat' first | exact Below.refl _ _ | refine Below.drew ?_ | refine Below.alloc ?_ ?_ _) <;> first | done | exact Nat.le_refl _ | (simp; done) | (simp; omega)))) (by simp) (strs_one l) HL1.out.1 HL1.out.2.1 ?_; intro v1 w2 hown1 hgr1; have hBB : Below W.heap.size W w2 := below_grown (by ((repeat' first | exact Below.refl _ _ | refine Below.drew ?_ | refine Below.alloc ?_ ?_ _) <;> first | done | exact Nat.le_refl _ | (simp; done) | (simp; omega))) hgr1 (own_empty (e := 9) (size := 1) (by first | exact Nat.le_refl _ | (simp; done) | (simp; omega)) (by (first | exact heap_alloc_new _ _ | exact heap_at_alloc (by simp) | exact (Below.heap_alloc _ _ _ (by first | (simp; done) | (simp; omega))).trans (heap_alloc_new _ _) | exact (Below.heap_alloc _ _ _ (by first | (simp; done) | (simp; omega))).trans (heap_at_alloc (by simp))))))
                  | (refine step_cat elemStr (by rfl) _ _ rfl W.heap.size v1 (0 + l.length) ([] ++ l.map Value.string) rfl (by first | exact hown1 | exact World.ownsRow.alloc hown1 _) (by first | exact hBB.size | (have := hBB.size; simp; omega)) (.slice (some ⟨_, 0, none⟩) 1 1) 1 [.string r] rfl (cat_block (cs := #[.string r]) (t := 9) (by first | exact heap_alloc_new _ _ | exact (hgr1.block _ (by first | (simp; done) | (simp; omega)) (by simp [Value.ownBlock])).trans (by (first | exact heap_alloc_new _ _ | exact heap_at_alloc (by simp) | exact (Below.heap_alloc _ _ _ (by first | (simp; done) | (simp; omega))).trans (heap_alloc_new _ _) | exact (Below.heap_alloc _ _ _ (by first | (simp; done) | (simp; omega))).trans (heap_at_alloc (by simp)))))) rfl (by simp [Value.oneCell']) HL1.out.2.2.1 HL1.out.2.2.2 ?_; intro v3 w3 hown3 hgr3; have hBB : Below W.heap.size W w3 := below_grown (by first | exact hBB | exact hBB.alloc hBB.size _) hgr3 (by first | exact hown1 | exact World.ownsRow.alloc hown1 _))
                  | (go_at_call 42; with_reducible_and_instances refine (HFT.out _ _ _ hown3).mono ?_; rintro e wf ⟨rfl, hbF⟩; have hBB := bstep hBB hbF))
              all_goals
                go_wp2
                go_meet
                exact ⟨by rw [← HF.out], hBB⟩
            case rest =>
              obtain ⟨rfl, hbx⟩ := hcut
              have HRX := Lib.hid (HRS.out.keep hbx)
              obtain ⟨fr, hfr⟩ : ∃ fr, fr = freshOf h.fin d.itv l r := ⟨_, rfl⟩
              rw [← hfr]
              have HFR := Lib.hid hfr
              clear hfr hbx g2 g7
              have g2 : wc.cell? ⟨w.heap.size, 2, none⟩ = some (.int .i64 h.fin) := (cell_of_row _ _ 2 _ _ _ HRX.out.hh).trans h.fin_at
              have gf2 : wc.frozen? ⟨w.heap.size, 2, none⟩ = false := frozen_of_row _ _ 2 _ _ HRX.out.hh
              go_upto_if 69 with fail
              go_cut [13] (fun v13 wx => ∃ A2 c2 l2, v13 = .slice A2 (List.length l2) c2 ∧ l2 = lastOf h.fin d.itv l r ∧ ReS w wx { h with fin := finOf h.fin d.itv l r } d Z (.slice A2 l2.length c2) l2)
              case first =>
                cases fr with
                | true =>
                  have e : finOf h.fin d.itv l r = h.fin + 1 := by unfold finOf; rw [← HFR.out]; rfl
                  have HE := Lib.hid e
                  clear e
                  go_wp2
                  go_region
                  go_wp2
                  go_meet
                  refine ⟨none, 0, [], rfl, by unfold lastOf; rw [← HFR.out]; rfl, ?_⟩
                  rw [HE.out]
                  exact ((HRX.out.set (h' := { h with fin := h.fin + 1 }) 2 (.int .i64 (h.fin + 1)) rfl).nil).keep (Below.refl _ _).drew
                | false =>
                  have e : finOf h.fin d.itv l r = h.fin := by unfold finOf; rw [← HFR.out]; rfl
                  have HE := Lib.hid e
                  clear e
                  go_wp2
                  go_meet
                  refine ⟨A1, c1, l, rfl, by unfold lastOf; rw [← HFR.out]; rfl, ?_⟩
                  rw [HE.out]
                  exact HRX.out
              case rest =>
                obtain ⟨A2, c2, l2, rfl, hl2, hrs⟩ := hcut
                obtain ⟨F, hF⟩ : ∃ F, F = finOf h.fin d.itv l r := ⟨_, rfl⟩
                rw [← hF] at hrs
                have HF := Lib.hid hF
                have hF0 : 0 ≤ F ∧ F ≤ 16777217 := by rw [hF]; unfold finOf; split <;> omega
                obtain ⟨hF0, hF1⟩ := hF0
                have HL2 := Lib.hid hl2
                have HB2s : Hid (l2.length ≤ 512 ∧ ∀ s ∈ l2, s.size ≤ 512) := by
                  show _ ∧ _
                  rw [hl2]; unfold lastOf; split
                  · simp
                  · exact HSM.out
                have hl2l := HB2s.out.1
                have HRT := Lib.hid hrs
                have hk2t : wc.cell? ⟨w.heap.size, 2, none⟩ = some (.int .i64 F) := (cell_of_row _ _ 2 _ _ _ hrs.hh)
                have hk1t : wc.cell? ⟨w.heap.size, 1, none⟩ = some (.int .i64 h.cnt) := (cell_of_row _ _ 1 _ _ _ hrs.hh)
                have hk7t : wc.cell? ⟨w.heap.size + 1, 7, none⟩ = some (.int .i64 d.itv) := (cell_of_row _ _ 7 _ _ _ hrs.hd).trans d.itv_at
                have hf1t : wc.frozen? ⟨w.heap.size, 1, none⟩ = false := frozen_of_row _ _ 1 _ _ hrs.hh
                obtain ⟨A3, c3, he3, hs3, _⟩ := own_strs hrs.own
                cases he3
                have HS3 := Lib.hid hs3
                obtain ⟨K, hK⟩ : ∃ K, K = F * d.itv := ⟨_, rfl⟩
                have hK0 : 0 ≤ K := by rw [hK]; exact Int.mul_nonneg hF0 (by omega)
                have hK1 : K ≤ 8589935104 := by
                  have := Int.mul_le_mul hF1 hi1 (by omega) (by omega : (0:Int) ≤ 16777217)
                  rw [hK]; omega
                have hK2 := hK.symm
                have HKK := Lib.hid hK
                clear hF hl2 hrs hs3 hK g2 gf2
                go_wp2
                go_loopw [16, 17] (fun x y wr => ∃ k : Nat, x = .int .i64 (K + ((content (l2.take k)).length : Int)) ∧ y = .int .i64 k ∧ k ≤ l2.length ∧ wc = wr) (fun _ y _ => l2.length - (intOf y).toNat)
                case atStart => exact ⟨0, by simp [content], rfl, Nat.zero_le _, rfl⟩
                case round =>
                  obtain ⟨k, rfl, rfl, hk, rfl⟩ := hrel
                  obtain ⟨a, ha⟩ : ∃ a, a = (content (l2.take k)).length := ⟨_, rfl⟩
                  have ha1 : a ≤ 262144 := by rw [ha]; exact pageSum l2 hl2l HB2s.out.2 k
                  by_cases hkl : k < l2.length
                  · obtain ⟨b, o, hA, hlt, hc⟩ := HS3.out (by omega)
                    have hck := hc k hkl
                    have HCT2 : Hid ((content (l2.take (k + 1))).length = a + (l2.getD k ByteArray.empty).size) := by show _ = _; rw [content_takeS _ _ hkl, ← ha]
                    have hsz : (l2.getD k ByteArray.empty).size ≤ 512 := HB2s.out.2 _ (by simp [List.getD, hkl])
                    obtain ⟨s, hs⟩ : ∃ s, s = l2.getD k ByteArray.empty := ⟨_, rfl⟩
                    rw [← hs] at hck HCT2 hsz
                    subst hA
                    rw [← ha]
                    clear hs hc ha
                    go_wp2
                    refine ⟨⟨k + 1, ?_, by go_num, by omega, trivial⟩, by simp [intOf]; omega⟩
                    rw [HCT2.out]
                    go_num
                  · obtain rfl : k = l2.length := by omega
                    have HCA : Hid (a = (content l2).length) := by show _ = _; rw [ha, List.take_of_length_le (Nat.le_refl _)]
                    rw [← ha]
                    clear ha HS3 hk hkl
                    go_upto_region 20 with fail
                    obtain ⟨wk, hwk⟩ : ∃ wk, wk = wc.setCell ⟨w.heap.size, 1, none⟩ (.int .i64 (h.cnt + 1)) := ⟨_, rfl⟩
                    rw [← hwk]
                    have HRK : Hid (ReS w wk { h with cnt := h.cnt + 1, fin := F } d Z (.slice A2 l2.length c2) l2) := by show ReS _ _ _ _ _ _ _; rw [hwk]; exact HRT.out.set 1 _ rfl
                    obtain ⟨h', hh'⟩ : ∃ h' : Hd, h' = { h with cnt := h.cnt + 1, fin := F } := ⟨_, rfl⟩
                    rw [← hh'] at HRK
                    have hfin' : h'.fin = F := by rw [hh']
                    have HFI := Lib.hid hfin'
                    obtain ⟨pg, hpg⟩ : ∃ pg, pg = encodeOf d.itv (l2 ++ [r]) := ⟨_, rfl⟩
                    obtain ⟨T, hT⟩ : ∃ T, T = K + (a : Int) := ⟨_, rfl⟩
                    rw [← hT]
                    have HAN : Hid (appendOf m h d r = ⟨h', [(F, pg.1)], T, 0⟩) := by
                      show _ = _
                      unfold appendOf
                      rw [HD0.out, if_neg (by simp), if_neg (by omega), HEO.out, if_neg (by simp)]
                      unfold atOf
                      rw [← HF.out, ← HL2.out, ← hpg, ← hh', ← HKK.out, hT, HCA.out]
                    have HEC : Hid (∀ n v w', w'.ownsRow wk.heap.size 9 1 v n ([] ++ l2.map Value.string ++ [Value.string r]) → Calls Tryd.prog 38 #[.int .i64 d.itv, v] w' fun e w'' => e = .returned (.tuple #[.string pg.1, .int .i64 pg.2]) ∧ Below w'.heap.size w' w'') := fun n v w' ho => by rw [hpg]; exact refEnc_own d.itv _ n v l2 r w' HB2s.out.1 HB2s.out.2 hr200 ho
                    have HL1 : Hid (0 + l2.length ≤ maxLen ∧ (0 + l2.length) * 16 ≤ 140737488355328 ∧ 0 + l2.length + 1 ≤ maxLen ∧ (0 + l2.length + 1) * 16 ≤ 140737488355328) := by show _ ∧ _; have := HB2s.out.1; unfold maxLen; omega
                    have HCT : Hid (∀ w', Below wk.heap.size wk w' → Cat w' (.slice A2 l2.length c2) l2.length (l2.map Value.string)) := fun w' hb => cat_own (own_keep HRK.out.own hb)
                    have g7k : wk.cell? ⟨w.heap.size + 1, 7, none⟩ = some (.int .i64 d.itv) := (cell_of_row _ _ 7 _ _ _ HRK.out.hd).trans d.itv_at
                    have HK : Hid (∀ w', Below wk.heap.size wk w' → w'.cell? ⟨w.heap.size + 1, 7, none⟩ = some (.int .i64 d.itv)) := fun w' hBB => (hBB.cell (p := ⟨w.heap.size + 1, 7, none⟩) (blk_lt HRK.out.hd)).trans g7k
                    obtain ⟨p1, p2⟩ := pg
                    dsimp only at HAN HEC
                    clear hwk hpg hT hh' hfin' hk2t hk1t hk7t hf1t hK2 hK0 hK1 ha1
                    go_cut [18, 19] (fun v18 v19 wx => v18 = .string p1 ∧ v19 = .int .i64 p2 ∧ Below wk.heap.size wk wx)
                    case first =>
                      go_region_held_law (fun w' => w'.cell? ⟨w.heap.size + 1, 7, none⟩ = some (.int .i64 d.itv))
                        (first | exact HK.out _ hBB | exact HK.out _ (hBB.alloc hBB.size _) | exact HK.out _ (by ((repeat' first | exact Below.refl _ _ | refine Below.drew ?_ | refine Below.alloc ?_ ?_ _) <;> first | done | exact Nat.le_refl _ | (simp; done) | (simp; omega))))
                        (first
                    | (refine step_cat elemStr (by rfl) _ _ rfl wk.heap.size (.slice (some ⟨_, 0, none⟩) 0 0) 0 [] rfl (own_empty (by first | exact Nat.le_refl _ | (simp; done) | (simp; omega)) (by (first | exact heap_alloc_new _ _ | exact heap_at_alloc (by simp) | exact (Below.heap_alloc _ _ _ (by first | (simp; done) | (simp; omega))).trans (heap_alloc_new _ _) | exact (Below.heap_alloc _ _ _ (by first | (simp; done) | (simp; omega))).trans (heap_at_alloc (by simp))))) (by first | (simp; done) | (simp; omega)) (.slice A2 l2.length c2) l2.length (l2.map Value.string) rfl (HCT.out _ (by ((repeat' first | exact Below.refl _ _ | refine Below.drew ?_ | refine Below.alloc ?_ ?_ _) <;> first | done | exact Nat.le_refl _ | (simp; done) | (simp; omega)))) (by simp) (strs_one l2) HL1.out.1 HL1.out.2.1 ?_; intro v1 w2 hown1 hgr1; have hBB : Below wk.heap.size wk w2 := below_grown (by ((repeat' first | exact Below.refl _ _ | refine Below.drew ?_ | refine Below.alloc ?_ ?_ _) <;> first | done | exact Nat.le_refl _ | (simp; done) | (simp; omega))) hgr1 (own_empty (e := 9) (size := 1) (by first | exact Nat.le_refl _ | (simp; done) | (simp; omega)) (by (first | exact heap_alloc_new _ _ | exact heap_at_alloc (by simp) | exact (Below.heap_alloc _ _ _ (by first | (simp; done) | (simp; omega))).trans (heap_alloc_new _ _) | exact (Below.heap_alloc _ _ _ (by first | (simp; done) | (simp; omega))).trans (heap_at_alloc (by simp))))))
                    | (refine step_cat elemStr (by rfl) _ _ rfl wk.heap.size v1 (0 + l2.length) ([] ++ l2.map Value.string) rfl (by first | exact hown1 | exact World.ownsRow.alloc hown1 _) (by first | exact hBB.size | (have := hBB.size; simp; omega)) (.slice (some ⟨_, 0, none⟩) 1 1) 1 [.string r] rfl (cat_block (cs := #[.string r]) (t := 9) (by first | exact heap_alloc_new _ _ | exact (hgr1.block _ (by first | (simp; done) | (simp; omega)) (by simp [Value.ownBlock])).trans (by (first | exact heap_alloc_new _ _ | exact heap_at_alloc (by simp) | exact (Below.heap_alloc _ _ _ (by first | (simp; done) | (simp; omega))).trans (heap_alloc_new _ _) | exact (Below.heap_alloc _ _ _ (by first | (simp; done) | (simp; omega))).trans (heap_at_alloc (by simp)))))) rfl (by simp [Value.oneCell']) HL1.out.2.2.1 HL1.out.2.2.2 ?_; intro v3 w3 hown3 hgr3; have hBB : Below wk.heap.size wk w3 := below_grown (by first | exact hBB | exact hBB.alloc hBB.size _) hgr3 (by first | exact hown1 | exact World.ownsRow.alloc hown1 _))
                    | (go_at_call 38; with_reducible_and_instances refine (HEC.out _ _ _ hown3).mono ?_; rintro e wf ⟨rfl, hbF⟩; have hBB := bstep hBB hbF))
                      all_goals
                        go_wp2
                        go_meet
                        exact ⟨rfl, rfl, hBB⟩
                    case rest =>
                      obtain ⟨rfl, rfl, hbx⟩ := hcut
                      go_wp2
                      have HR9 := Lib.hid (HRK.out.keep hbx)
                      have q1 : wc.cell? ⟨w.heap.size, 0, none⟩ = some (.int .i64 h'.app) := cell_of_row _ _ 0 _ _ _ HR9.out.hh
                      have q2 : wc.cell? ⟨w.heap.size, 1, none⟩ = some (.int .i64 h'.cnt) := cell_of_row _ _ 1 _ _ _ HR9.out.hh
                      have q3 : wc.cell? ⟨w.heap.size, 2, none⟩ = some (.int .i64 h'.fin) := cell_of_row _ _ 2 _ _ _ HR9.out.hh
                      have q4 : wc.cell? ⟨w.heap.size, 3, none⟩ = some (.int .i64 h'.root) := cell_of_row _ _ 3 _ _ _ HR9.out.hh
                      have q5 : wc.cell? ⟨w.heap.size, 4, none⟩ = some (.int .i64 h'.ht) := cell_of_row _ _ 4 _ _ _ HR9.out.hh
                      have q6 : wc.cell? ⟨w.heap.size, 5, none⟩ = some (.int .i64 h'.spl) := cell_of_row _ _ 5 _ _ _ HR9.out.hh
                      have q7 : wc.cell? ⟨w.heap.size, 6, none⟩ = some (.int .i64 h'.areas) := cell_of_row _ _ 6 _ _ _ HR9.out.hh
                      obtain ⟨g, hg⟩ : ∃ g, g = w.heap.size := ⟨_, rfl⟩
                      obtain ⟨R, hR⟩ : ∃ R, R = w.heap.size + 1 + 1 := ⟨_, rfl⟩
                      have hne : g ≠ R := by omega
                      have hne2 : R ≠ g := by omega
                      have HR : Hid (w.heap.size ≤ R) := by show _ ≤ _; omega
                      have hgz7 := HR9.out.hz
                      have hl1 := blk_lt HR9.out.hz
                      have hl2 := blk_lt HR9.out.hh
                      rw [← hR] at hgz7 hl1 ⊢
                      rw [← hg] at q1 q2 q3 q4 q5 q6 q7 hl2
                      have hcell : ∀ i, i < 7 → ∃ z, wc.cell? ⟨R, i, none⟩ = some z := fun i hi => ⟨Z[i]'(by rw [HZ.out]; exact hi), by rw [cell_of_row _ _ i _ _ _ hgz7]; exact Array.getElem?_eq_getElem _⟩
                      obtain ⟨z0, y0⟩ := hcell 0 (by decide)
                      obtain ⟨z1, y1⟩ := hcell 1 (by decide)
                      obtain ⟨z2, y2⟩ := hcell 2 (by decide)
                      obtain ⟨z3, y3⟩ := hcell 3 (by decide)
                      obtain ⟨z4, y4⟩ := hcell 4 (by decide)
                      obtain ⟨z5, y5⟩ := hcell 5 (by decide)
                      obtain ⟨z6, y6⟩ := hcell 6 (by decide)
                      have hfz : ∀ i, wc.frozen? ⟨R, i, none⟩ = false := fun i => frozen_of_row _ _ i _ _ hgz7
                      have f0 := hfz 0
                      have f1 := hfz 1
                      have f2 := hfz 2
                      have f3 := hfz 3
                      have f4 := hfz 4
                      have f5 := hfz 5
                      have f6 := hfz 6
                      have HGZ7 := Lib.hid hgz7
                      have hfin' := HFI.out
                      have HGG := Lib.hid hg
                      rw [← hg]
                      clear hR hgz7 hcell hfz hds hhs hbx hg g7k
                      skip
                      go_region
                      obtain ⟨wy, hwy⟩ : ∃ wy, wy = ((((((wc.setCell ⟨R, 0, none⟩ (.int .i64 h'.app)).setCell ⟨R, 1, none⟩ (.int .i64 h'.cnt)).setCell ⟨R, 2, none⟩ (.int .i64 F)).setCell ⟨R, 3, none⟩ (.int .i64 h'.root)).setCell ⟨R, 4, none⟩ (.int .i64 h'.ht)).setCell ⟨R, 5, none⟩ (.int .i64 h'.spl)).setCell ⟨R, 6, none⟩ (.int .i64 h'.areas) := ⟨_, rfl⟩
                      rw [← hwy]
                      have HWR : Hid (wy.heap[R]? = some (.cells h'.cells 30 (0, 0))) := by
                        show _ = _
                        rw [hwy, heap_set7 wc R Z 30 HGZ7.out HZ.out]
                        unfold Hd.cells
                        rw [hfin']
                      have HWS : Hid (wy.heap.size = wc.heap.size) := by show _ = _; rw [hwy]; simp [World.setCell]
                      have HWB : Hid (Below w.heap.size w wy) := by
                        show Below _ _ _
                        rw [hwy]
                        exact ((((((HR9.out.bel.setCell HR.out _).setCell HR.out _).setCell HR.out _).setCell HR.out _).setCell HR.out _).setCell HR.out _).setCell HR.out _
                      clear hwy y0 y1 y2 y3 y4 y5 y6 f0 f1 f2 f3 f4 f5 f6 q1 q2 q3 q4 q5 q6 q7 hfin'
                      go_wp2_with fail
                      have hrow : (wy.alloc (.cells #[.int .i64 F, .string p1] 97)).drew.heap[R]? = some (.cells h'.cells 30 (0, 0)) := (Below.heap_alloc _ _ _ (blk_lt HWR.out)).trans HWR.out
                      refine bodyPost_ret (v := .tuple #[.agg h'.cells, .slice (some ⟨wc.heap.size, 0, none⟩) 1 1, .int .i64 T, .int .i64 0]) (results_cell4 (p := 8) (q := 9) (r := 10) (s := 11) rfl _ _ R 30 h'.cells (0, 0) _ rfl hrow Tryd.underlying30 (by rw [Hd.size]; exact info30) _ _ _ rfl rfl rfl) rfl ?_
                      rw [HAN.out]
                      refine ⟨some ⟨wc.heap.size, 0, none⟩, 1, rfl, ?_, (HWB.out.alloc HWB.out.size _).drew⟩
                      intro _
                      rw [← HWS.out]
                      refine ⟨wy.heap.size, 0, rfl, by simp, fun i hi => ?_⟩
                      have hb : (wy.alloc (.cells #[.int .i64 F, .string p1] 97)).drew.heap[wy.heap.size]? = some (.cells #[.int .i64 F, .string p1] 97 (0, 0)) := heap_alloc_new wy _
                      rw [Nat.zero_add, cell_of_row _ _ i _ _ _ hb]
                      simp [wrCells]
          · have HAN : Hid (appendOf m h d r = ⟨hd0, [], 0, k2⟩) := by
              show _ = _
              unfold appendOf
              rw [HD0.out, if_neg (by simp), if_neg (by omega), HEO.out, if_pos hk2]
            have hn2 : (k2 != 0) = true := by simp [hk2]
            clear hk2
            go_wp2_with (first | (refine wpl_build 30 _ rfl rfl [] hd0.cells (by kernel_rfl) built_hd0 ?_) | (refine wpList_store_row rfl 30 _ _ rfl (w.heap.size + 1 + 1) hd0.cells rfl rfl 30 Z HGZ2.out (by rw [Hd.size]; exact info30) (by rw [HZ.out, Hd.size]) (hd_one _) ?_) | fail)
            refine bodyPost_ret (v := .tuple #[.agg hd0.cells, .slice none 0 0, .int .i64 0, .int .i64 k2]) (results_cell4 (p := 8) (q := 9) (r := 10) (s := 11) rfl _ _ (w.heap.size + 1 + 1) 30 hd0.cells (0, 0) _ rfl (setRow_heap _ _ _ _ _ _ HGZ2.out) Tryd.underlying30 (by rw [Hd.size]; exact info30) _ _ _ rfl rfl rfl) rfl ?_
            rw [HAN.out]
            exact ⟨none, 0, rfl, fun h => absurd h (by simp [wrCells]), below_setRow HB2.out (by omega) _⟩
        · have hfd : decide (0 < h.fin) = false := decide_eq_false hf
          have hf0' : h.fin = 0 := by omega
          have HEO : Hid (endOfC m h d = ([], 0)) := by show _ = _; unfold endOfC; rw [if_pos hf0']
          have HF0 := Lib.hid hf0'
          have HSM : Hid (([] : List ByteArray).length ≤ 512 ∧ ∀ s ∈ ([] : List ByteArray), s.size ≤ 512) := by show _ ∧ _; simp
          have hk2a : (w1.alloc (.cells #[] 9)).cell? ⟨w.heap.size, 2, none⟩ = some (.int .i64 h.fin) := (cell_of_row _ _ 2 _ _ _ ((Below.heap_alloc _ _ _ (blk_lt HGH.out)).trans HGH.out)).trans h.fin_at
          clear hf0' hf
          go_upto_region 12 with fail
          obtain ⟨W, hW⟩ : ∃ W, W = w1.alloc (.cells #[] 9) := ⟨_, rfl⟩
          rw [← hW]
          have HRS : Hid (ReS w W h d Z (.slice (some ⟨w1.heap.size, 0, none⟩) 0 0) []) := by
            show ReS _ _ _ _ _ _ _
            rw [hW]
            exact ⟨(Below.heap_alloc _ _ _ (blk_lt HGH.out)).trans HGH.out, (Below.heap_alloc _ _ _ (blk_lt HGD.out)).trans HGD.out, (Below.heap_alloc _ _ _ (blk_lt HGZ.out)).trans HGZ.out, own_empty (by have := blk_lt HGZ.out; omega) (heap_alloc_new w1 _), HB1.out.alloc HB1.out.size _⟩
          have g2 : W.cell? ⟨w.heap.size, 2, none⟩ = some (.int .i64 h.fin) := (cell_of_row _ _ 2 _ _ _ HRS.out.hh).trans h.fin_at
          have g7 : W.cell? ⟨w.heap.size + 1, 7, none⟩ = some (.int .i64 d.itv) := (cell_of_row _ _ 7 _ _ _ HRS.out.hd).trans d.itv_at
          clear hW hk2a
          go_cut [69] (fun v69 wx => v69 = .bool (freshOf h.fin d.itv [] r) ∧ Below W.heap.size W wx)
          case first =>
            have hz0 : (h.fin == 0) = true := by simp [HF0.out]
            have HF : Hid (true = freshOf h.fin d.itv [] r) := by show _ = _; unfold freshOf; simp [HF0.out]
            go_quiet (fail)
            go_wp2
            go_meet
            exact ⟨by rw [← HF.out], below_drewN (Below.refl _ _) _⟩
          case rest =>
            obtain ⟨rfl, hbx⟩ := hcut
            have HRX := Lib.hid (HRS.out.keep hbx)
            obtain ⟨fr, hfr⟩ : ∃ fr, fr = freshOf h.fin d.itv [] r := ⟨_, rfl⟩
            rw [← hfr]
            have HFR := Lib.hid hfr
            clear hfr hbx g2 g7
            have g2 : wc.cell? ⟨w.heap.size, 2, none⟩ = some (.int .i64 h.fin) := (cell_of_row _ _ 2 _ _ _ HRX.out.hh).trans h.fin_at
            have gf2 : wc.frozen? ⟨w.heap.size, 2, none⟩ = false := frozen_of_row _ _ 2 _ _ HRX.out.hh
            go_upto_if 69 with fail
            go_cut [13] (fun v13 wx => ∃ A2 c2 l2, v13 = .slice A2 (List.length l2) c2 ∧ l2 = lastOf h.fin d.itv [] r ∧ ReS w wx { h with fin := finOf h.fin d.itv [] r } d Z (.slice A2 l2.length c2) l2)
            case first =>
              cases fr with
              | true =>
                have e : finOf h.fin d.itv [] r = h.fin + 1 := by unfold finOf; rw [← HFR.out]; rfl
                have HE := Lib.hid e
                clear e
                go_wp2
                go_region
                go_wp2
                go_meet
                refine ⟨none, 0, [], rfl, by unfold lastOf; rw [← HFR.out]; rfl, ?_⟩
                rw [HE.out]
                exact ((HRX.out.set (h' := { h with fin := h.fin + 1 }) 2 (.int .i64 (h.fin + 1)) rfl).nil).keep (Below.refl _ _).drew
              | false =>
                have e : finOf h.fin d.itv [] r = h.fin := by unfold finOf; rw [← HFR.out]; rfl
                have HE := Lib.hid e
                clear e
                go_wp2
                go_meet
                refine ⟨(some ⟨w1.heap.size, 0, none⟩), 0, [], rfl, by unfold lastOf; rw [← HFR.out]; rfl, ?_⟩
                rw [HE.out]
                exact HRX.out
            case rest =>
              obtain ⟨A2, c2, l2, rfl, hl2, hrs⟩ := hcut
              obtain ⟨F, hF⟩ : ∃ F, F = finOf h.fin d.itv [] r := ⟨_, rfl⟩
              rw [← hF] at hrs
              have HF := Lib.hid hF
              have hF0 : 0 ≤ F ∧ F ≤ 16777217 := by rw [hF]; unfold finOf; split <;> omega
              obtain ⟨hF0, hF1⟩ := hF0
              have HL2 := Lib.hid hl2
              have HB2s : Hid (l2.length ≤ 512 ∧ ∀ s ∈ l2, s.size ≤ 512) := by
                show _ ∧ _
                rw [hl2]; unfold lastOf; split
                · simp
                · exact HSM.out
              have hl2l := HB2s.out.1
              have HRT := Lib.hid hrs
              have hk2t : wc.cell? ⟨w.heap.size, 2, none⟩ = some (.int .i64 F) := (cell_of_row _ _ 2 _ _ _ hrs.hh)
              have hk1t : wc.cell? ⟨w.heap.size, 1, none⟩ = some (.int .i64 h.cnt) := (cell_of_row _ _ 1 _ _ _ hrs.hh)
              have hk7t : wc.cell? ⟨w.heap.size + 1, 7, none⟩ = some (.int .i64 d.itv) := (cell_of_row _ _ 7 _ _ _ hrs.hd).trans d.itv_at
              have hf1t : wc.frozen? ⟨w.heap.size, 1, none⟩ = false := frozen_of_row _ _ 1 _ _ hrs.hh
              obtain ⟨A3, c3, he3, hs3, _⟩ := own_strs hrs.own
              cases he3
              have HS3 := Lib.hid hs3
              obtain ⟨K, hK⟩ : ∃ K, K = F * d.itv := ⟨_, rfl⟩
              have hK0 : 0 ≤ K := by rw [hK]; exact Int.mul_nonneg hF0 (by omega)
              have hK1 : K ≤ 8589935104 := by
                have := Int.mul_le_mul hF1 hi1 (by omega) (by omega : (0:Int) ≤ 16777217)
                rw [hK]; omega
              have hK2 := hK.symm
              have HKK := Lib.hid hK
              clear hF hl2 hrs hs3 hK g2 gf2
              go_wp2
              go_loopw [16, 17] (fun x y wr => ∃ k : Nat, x = .int .i64 (K + ((content (l2.take k)).length : Int)) ∧ y = .int .i64 k ∧ k ≤ l2.length ∧ wc = wr) (fun _ y _ => l2.length - (intOf y).toNat)
              case atStart => exact ⟨0, by simp [content], rfl, Nat.zero_le _, rfl⟩
              case round =>
                obtain ⟨k, rfl, rfl, hk, rfl⟩ := hrel
                obtain ⟨a, ha⟩ : ∃ a, a = (content (l2.take k)).length := ⟨_, rfl⟩
                have ha1 : a ≤ 262144 := by rw [ha]; exact pageSum l2 hl2l HB2s.out.2 k
                by_cases hkl : k < l2.length
                · obtain ⟨b, o, hA, hlt, hc⟩ := HS3.out (by omega)
                  have hck := hc k hkl
                  have HCT2 : Hid ((content (l2.take (k + 1))).length = a + (l2.getD k ByteArray.empty).size) := by show _ = _; rw [content_takeS _ _ hkl, ← ha]
                  have hsz : (l2.getD k ByteArray.empty).size ≤ 512 := HB2s.out.2 _ (by simp [List.getD, hkl])
                  obtain ⟨s, hs⟩ : ∃ s, s = l2.getD k ByteArray.empty := ⟨_, rfl⟩
                  rw [← hs] at hck HCT2 hsz
                  subst hA
                  rw [← ha]
                  clear hs hc ha
                  go_wp2
                  refine ⟨⟨k + 1, ?_, by go_num, by omega, trivial⟩, by simp [intOf]; omega⟩
                  rw [HCT2.out]
                  go_num
                · obtain rfl : k = l2.length := by omega
                  have HCA : Hid (a = (content l2).length) := by show _ = _; rw [ha, List.take_of_length_le (Nat.le_refl _)]
                  rw [← ha]
                  clear ha HS3 hk hkl
                  go_upto_region 20 with fail
                  obtain ⟨wk, hwk⟩ : ∃ wk, wk = wc.setCell ⟨w.heap.size, 1, none⟩ (.int .i64 (h.cnt + 1)) := ⟨_, rfl⟩
                  rw [← hwk]
                  have HRK : Hid (ReS w wk { h with cnt := h.cnt + 1, fin := F } d Z (.slice A2 l2.length c2) l2) := by show ReS _ _ _ _ _ _ _; rw [hwk]; exact HRT.out.set 1 _ rfl
                  obtain ⟨h', hh'⟩ : ∃ h' : Hd, h' = { h with cnt := h.cnt + 1, fin := F } := ⟨_, rfl⟩
                  rw [← hh'] at HRK
                  have hfin' : h'.fin = F := by rw [hh']
                  have HFI := Lib.hid hfin'
                  obtain ⟨pg, hpg⟩ : ∃ pg, pg = encodeOf d.itv (l2 ++ [r]) := ⟨_, rfl⟩
                  obtain ⟨T, hT⟩ : ∃ T, T = K + (a : Int) := ⟨_, rfl⟩
                  rw [← hT]
                  have HAN : Hid (appendOf m h d r = ⟨h', [(F, pg.1)], T, 0⟩) := by
                    show _ = _
                    unfold appendOf
                    rw [HD0.out, if_neg (by simp), if_neg (by omega), HEO.out, if_neg (by simp)]
                    unfold atOf
                    rw [← HF.out, ← HL2.out, ← hpg, ← hh', ← HKK.out, hT, HCA.out]
                  have HEC : Hid (∀ n v w', w'.ownsRow wk.heap.size 9 1 v n ([] ++ l2.map Value.string ++ [Value.string r]) → Calls Tryd.prog 38 #[.int .i64 d.itv, v] w' fun e w'' => e = .returned (.tuple #[.string pg.1, .int .i64 pg.2]) ∧ Below w'.heap.size w' w'') := fun n v w' ho => by rw [hpg]; exact refEnc_own d.itv _ n v l2 r w' HB2s.out.1 HB2s.out.2 hr200 ho
                  have HL1 : Hid (0 + l2.length ≤ maxLen ∧ (0 + l2.length) * 16 ≤ 140737488355328 ∧ 0 + l2.length + 1 ≤ maxLen ∧ (0 + l2.length + 1) * 16 ≤ 140737488355328) := by show _ ∧ _; have := HB2s.out.1; unfold maxLen; omega
                  have HCT : Hid (∀ w', Below wk.heap.size wk w' → Cat w' (.slice A2 l2.length c2) l2.length (l2.map Value.string)) := fun w' hb => cat_own (own_keep HRK.out.own hb)
                  have g7k : wk.cell? ⟨w.heap.size + 1, 7, none⟩ = some (.int .i64 d.itv) := (cell_of_row _ _ 7 _ _ _ HRK.out.hd).trans d.itv_at
                  have HK : Hid (∀ w', Below wk.heap.size wk w' → w'.cell? ⟨w.heap.size + 1, 7, none⟩ = some (.int .i64 d.itv)) := fun w' hBB => (hBB.cell (p := ⟨w.heap.size + 1, 7, none⟩) (blk_lt HRK.out.hd)).trans g7k
                  obtain ⟨p1, p2⟩ := pg
                  dsimp only at HAN HEC
                  clear hwk hpg hT hh' hfin' hk2t hk1t hk7t hf1t hK2 hK0 hK1 ha1
                  go_cut [18, 19] (fun v18 v19 wx => v18 = .string p1 ∧ v19 = .int .i64 p2 ∧ Below wk.heap.size wk wx)
                  case first =>
                    go_region_held_law (fun w' => w'.cell? ⟨w.heap.size + 1, 7, none⟩ = some (.int .i64 d.itv))
                      (first | exact HK.out _ hBB | exact HK.out _ (hBB.alloc hBB.size _) | exact HK.out _ (by ((repeat' first | exact Below.refl _ _ | refine Below.drew ?_ | refine Below.alloc ?_ ?_ _) <;> first | done | exact Nat.le_refl _ | (simp; done) | (simp; omega))))
                      (first
                  | (refine step_cat elemStr (by rfl) _ _ rfl wk.heap.size (.slice (some ⟨_, 0, none⟩) 0 0) 0 [] rfl (own_empty (by first | exact Nat.le_refl _ | (simp; done) | (simp; omega)) (by (first | exact heap_alloc_new _ _ | exact heap_at_alloc (by simp) | exact (Below.heap_alloc _ _ _ (by first | (simp; done) | (simp; omega))).trans (heap_alloc_new _ _) | exact (Below.heap_alloc _ _ _ (by first | (simp; done) | (simp; omega))).trans (heap_at_alloc (by simp))))) (by first | (simp; done) | (simp; omega)) (.slice A2 l2.length c2) l2.length (l2.map Value.string) rfl (HCT.out _ (by ((repeat' first | exact Below.refl _ _ | refine Below.drew ?_ | refine Below.alloc ?_ ?_ _) <;> first | done | exact Nat.le_refl _ | (simp; done) | (simp; omega)))) (by simp) (strs_one l2) HL1.out.1 HL1.out.2.1 ?_; intro v1 w2 hown1 hgr1; have hBB : Below wk.heap.size wk w2 := below_grown (by ((repeat' first | exact Below.refl _ _ | refine Below.drew ?_ | refine Below.alloc ?_ ?_ _) <;> first | done | exact Nat.le_refl _ | (simp; done) | (simp; omega))) hgr1 (own_empty (e := 9) (size := 1) (by first | exact Nat.le_refl _ | (simp; done) | (simp; omega)) (by (first | exact heap_alloc_new _ _ | exact heap_at_alloc (by simp) | exact (Below.heap_alloc _ _ _ (by first | (simp; done) | (simp; omega))).trans (heap_alloc_new _ _) | exact (Below.heap_alloc _ _ _ (by first | (simp; done) | (simp; omega))).trans (heap_at_alloc (by simp))))))
                  | (refine step_cat elemStr (by rfl) _ _ rfl wk.heap.size v1 (0 + l2.length) ([] ++ l2.map Value.string) rfl (by first | exact hown1 | exact World.ownsRow.alloc hown1 _) (by first | exact hBB.size | (have := hBB.size; simp; omega)) (.slice (some ⟨_, 0, none⟩) 1 1) 1 [.string r] rfl (cat_block (cs := #[.string r]) (t := 9) (by first | exact heap_alloc_new _ _ | exact (hgr1.block _ (by first | (simp; done) | (simp; omega)) (by simp [Value.ownBlock])).trans (by (first | exact heap_alloc_new _ _ | exact heap_at_alloc (by simp) | exact (Below.heap_alloc _ _ _ (by first | (simp; done) | (simp; omega))).trans (heap_alloc_new _ _) | exact (Below.heap_alloc _ _ _ (by first | (simp; done) | (simp; omega))).trans (heap_at_alloc (by simp)))))) rfl (by simp [Value.oneCell']) HL1.out.2.2.1 HL1.out.2.2.2 ?_; intro v3 w3 hown3 hgr3; have hBB : Below wk.heap.size wk w3 := below_grown (by first | exact hBB | exact hBB.alloc hBB.size _) hgr3 (by first | exact hown1 | exact World.ownsRow.alloc hown1 _))
                  | (go_at_call 38; with_reducible_and_instances refine (HEC.out _ _ _ hown3).mono ?_; rintro e wf ⟨rfl, hbF⟩; have hBB := bstep hBB hbF))
                    all_goals
                      go_wp2
                      go_meet
                      exact ⟨rfl, rfl, hBB⟩
                  case rest =>
                    obtain ⟨rfl, rfl, hbx⟩ := hcut
                    go_wp2
                    have HR9 := Lib.hid (HRK.out.keep hbx)
                    have q1 : wc.cell? ⟨w.heap.size, 0, none⟩ = some (.int .i64 h'.app) := cell_of_row _ _ 0 _ _ _ HR9.out.hh
                    have q2 : wc.cell? ⟨w.heap.size, 1, none⟩ = some (.int .i64 h'.cnt) := cell_of_row _ _ 1 _ _ _ HR9.out.hh
                    have q3 : wc.cell? ⟨w.heap.size, 2, none⟩ = some (.int .i64 h'.fin) := cell_of_row _ _ 2 _ _ _ HR9.out.hh
                    have q4 : wc.cell? ⟨w.heap.size, 3, none⟩ = some (.int .i64 h'.root) := cell_of_row _ _ 3 _ _ _ HR9.out.hh
                    have q5 : wc.cell? ⟨w.heap.size, 4, none⟩ = some (.int .i64 h'.ht) := cell_of_row _ _ 4 _ _ _ HR9.out.hh
                    have q6 : wc.cell? ⟨w.heap.size, 5, none⟩ = some (.int .i64 h'.spl) := cell_of_row _ _ 5 _ _ _ HR9.out.hh
                    have q7 : wc.cell? ⟨w.heap.size, 6, none⟩ = some (.int .i64 h'.areas) := cell_of_row _ _ 6 _ _ _ HR9.out.hh
                    obtain ⟨g, hg⟩ : ∃ g, g = w.heap.size := ⟨_, rfl⟩
                    obtain ⟨R, hR⟩ : ∃ R, R = w.heap.size + 1 + 1 := ⟨_, rfl⟩
                    have hne : g ≠ R := by omega
                    have hne2 : R ≠ g := by omega
                    have HR : Hid (w.heap.size ≤ R) := by show _ ≤ _; omega
                    have hgz7 := HR9.out.hz
                    have hl1 := blk_lt HR9.out.hz
                    have hl2 := blk_lt HR9.out.hh
                    rw [← hR] at hgz7 hl1 ⊢
                    rw [← hg] at q1 q2 q3 q4 q5 q6 q7 hl2
                    have hcell : ∀ i, i < 7 → ∃ z, wc.cell? ⟨R, i, none⟩ = some z := fun i hi => ⟨Z[i]'(by rw [HZ.out]; exact hi), by rw [cell_of_row _ _ i _ _ _ hgz7]; exact Array.getElem?_eq_getElem _⟩
                    obtain ⟨z0, y0⟩ := hcell 0 (by decide)
                    obtain ⟨z1, y1⟩ := hcell 1 (by decide)
                    obtain ⟨z2, y2⟩ := hcell 2 (by decide)
                    obtain ⟨z3, y3⟩ := hcell 3 (by decide)
                    obtain ⟨z4, y4⟩ := hcell 4 (by decide)
                    obtain ⟨z5, y5⟩ := hcell 5 (by decide)
                    obtain ⟨z6, y6⟩ := hcell 6 (by decide)
                    have hfz : ∀ i, wc.frozen? ⟨R, i, none⟩ = false := fun i => frozen_of_row _ _ i _ _ hgz7
                    have f0 := hfz 0
                    have f1 := hfz 1
                    have f2 := hfz 2
                    have f3 := hfz 3
                    have f4 := hfz 4
                    have f5 := hfz 5
                    have f6 := hfz 6
                    have HGZ7 := Lib.hid hgz7
                    have hfin' := HFI.out
                    have HGG := Lib.hid hg
                    rw [← hg]
                    clear hR hgz7 hcell hfz hds hhs hbx hg g7k
                    skip
                    go_region
                    obtain ⟨wy, hwy⟩ : ∃ wy, wy = ((((((wc.setCell ⟨R, 0, none⟩ (.int .i64 h'.app)).setCell ⟨R, 1, none⟩ (.int .i64 h'.cnt)).setCell ⟨R, 2, none⟩ (.int .i64 F)).setCell ⟨R, 3, none⟩ (.int .i64 h'.root)).setCell ⟨R, 4, none⟩ (.int .i64 h'.ht)).setCell ⟨R, 5, none⟩ (.int .i64 h'.spl)).setCell ⟨R, 6, none⟩ (.int .i64 h'.areas) := ⟨_, rfl⟩
                    rw [← hwy]
                    have HWR : Hid (wy.heap[R]? = some (.cells h'.cells 30 (0, 0))) := by
                      show _ = _
                      rw [hwy, heap_set7 wc R Z 30 HGZ7.out HZ.out]
                      unfold Hd.cells
                      rw [hfin']
                    have HWS : Hid (wy.heap.size = wc.heap.size) := by show _ = _; rw [hwy]; simp [World.setCell]
                    have HWB : Hid (Below w.heap.size w wy) := by
                      show Below _ _ _
                      rw [hwy]
                      exact ((((((HR9.out.bel.setCell HR.out _).setCell HR.out _).setCell HR.out _).setCell HR.out _).setCell HR.out _).setCell HR.out _).setCell HR.out _
                    clear hwy y0 y1 y2 y3 y4 y5 y6 f0 f1 f2 f3 f4 f5 f6 q1 q2 q3 q4 q5 q6 q7 hfin'
                    go_wp2_with fail
                    have hrow : (wy.alloc (.cells #[.int .i64 F, .string p1] 97)).drew.heap[R]? = some (.cells h'.cells 30 (0, 0)) := (Below.heap_alloc _ _ _ (blk_lt HWR.out)).trans HWR.out
                    refine bodyPost_ret (v := .tuple #[.agg h'.cells, .slice (some ⟨wc.heap.size, 0, none⟩) 1 1, .int .i64 T, .int .i64 0]) (results_cell4 (p := 8) (q := 9) (r := 10) (s := 11) rfl _ _ R 30 h'.cells (0, 0) _ rfl hrow Tryd.underlying30 (by rw [Hd.size]; exact info30) _ _ _ rfl rfl rfl) rfl ?_
                    rw [HAN.out]
                    refine ⟨some ⟨wc.heap.size, 0, none⟩, 1, rfl, ?_, (HWB.out.alloc HWB.out.size _).drew⟩
                    intro _
                    rw [← HWS.out]
                    refine ⟨wy.heap.size, 0, rfl, by simp, fun i hi => ?_⟩
                    have hb : (wy.alloc (.cells #[.int .i64 F, .string p1] 97)).drew.heap[wy.heap.size]? = some (.cells #[.int .i64 F, .string p1] 97 (0, 0)) := heap_alloc_new wy _
                    rw [Nat.zero_add, cell_of_row _ _ i _ _ _ hb]
                    simp [wrCells]
  · have HAN : Hid (appendOf m h d r = ⟨hd0, [], 0, k⟩) := by
      show _ = _
      unfold appendOf
      rw [← hk, if_pos hk0]
    have hn : (k != 0) = true := by simp [hk0]
    clear hk hk0
    go_wp2_with (first | (refine wpl_build 30 _ rfl rfl [] hd0.cells (by kernel_rfl) built_hd0 ?_) | (refine wpList_store_row rfl 30 _ _ rfl (w.heap.size + 1 + 1) hd0.cells rfl rfl 30 Z HGZ.out (by rw [Hd.size]; exact info30) (by rw [HZ.out, Hd.size]) (hd_one _) ?_) | fail)
    refine bodyPost_ret (v := .tuple #[.agg hd0.cells, .slice none 0 0, .int .i64 0, .int .i64 k]) (results_cell4 (p := 8) (q := 9) (r := 10) (s := 11) rfl _ _ (w.heap.size + 1 + 1) 30 hd0.cells (0, 0) _ rfl (setRow_heap _ _ _ _ _ _ HGZ.out) Tryd.underlying30 (by rw [Hd.size]; exact info30) _ _ _ rfl rfl rfl) rfl ?_
    rw [HAN.out]
    exact ⟨none, 0, rfl, fun h => absurd h (by simp [wrCells]), below_setRow HB1.out (by omega) _⟩
end Go.Proofs.YtnkhifgppcnmkaaDoor

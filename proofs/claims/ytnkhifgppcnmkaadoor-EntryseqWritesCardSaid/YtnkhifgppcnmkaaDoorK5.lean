/- Walks of chapter 18: the reference's Places. -/
import Derived.Test.YtnkhifgppcnmkaaDoorK4
import Derived.Test.YtnkhifgppcnmkaaDoorC4
namespace Go.Proofs.YtnkhifgppcnmkaaDoor
open Go.RowKit Iv

/-- The state of the reference's Places: the header's box (its End is F), the description's, the records of the last page, the addresses. -/
structure RpS (w wr : World) (h : Hd) (d : Ds) (F : Int) (l : List ByteArray) (out : List Int) (vl vo : Value) : Prop where
  hh : wr.heap[w.heap.size]? = some (.cells ({ h with fin := F } : Hd).cells 30 (0, 0))
  hd : wr.heap[w.heap.size + 1]? = some (.cells d.cells 23 (0, 0))
  ol : OwnS (w.heap.size + 1 + 1) wr vl l
  oo : wr.ownsRow (w.heap.size + 1 + 1) 3 1 vo out.length (out.map (Value.int .i64))
  dd : ∀ q, vo.ownBlock = some q → vl.ownBlock ≠ some q
  sm : l.length ≤ 512 ∧ ∀ s ∈ l, s.size ≤ 512
  bel : Below w.heap.size w wr
theorem RpS.keep {w wr wr' : World} {h : Hd} {d : Ds} {F : Int} {l : List ByteArray} {out : List Int} {vl vo : Value} (H : RpS w wr h d F l out vl vo) (hb : Below wr.heap.size wr wr') : RpS w wr' h d F l out vl vo :=
  ⟨block_at hb H.hh, block_at hb H.hd, own_keep H.ol hb, own_keep H.oo hb, H.dd, H.sm, bstep H.bel hb⟩
/-- The header's End is set, the page is a new one. -/
theorem RpS.fresh {w wr : World} {h : Hd} {d : Ds} {F : Int} {l : List ByteArray} {out : List Int} {vl vo : Value} (H : RpS w wr h d F l out vl vo) : RpS w (wr.setCell ⟨w.heap.size, 2, none⟩ (.int .i64 (F + 1))) h d (F + 1) [] out (.slice none 0 0) vo :=
  ⟨by rw [heap_setCell_same _ _ _ _ _ _ H.hh]; rfl, by rw [heap_setCell_other _ _ _ _ (by simp)]; exact H.hd, World.ownsRow_nil _ _ _ _, own_setCell H.oo (fun e => by have := (World.ownsRow.lt H.oo _ e).1; omega), fun _ _ => by simp [Value.ownBlock], by simp, H.bel.setCell (Nat.le_refl _) _⟩
/-- A new row of records. -/
theorem RpS.row {w wr wr' : World} {h : Hd} {d : Ds} {F : Int} {l l' : List ByteArray} {out : List Int} {vl vo vl' : Value} (H : RpS w wr h d F l out vl vo) (hb : Below wr.heap.size wr wr') (ho : OwnS wr.heap.size wr' vl' l') (hs : l'.length ≤ 512 ∧ ∀ s ∈ l', s.size ≤ 512) : RpS w wr' h d F l' out vl' vo :=
  ⟨block_at hb H.hh, block_at hb H.hd, own_mono ho (by have := blk_lt H.hd; omega), own_keep H.oo hb, fun q hq e => by have := (World.ownsRow.lt H.oo q hq).2; have := (World.ownsRow.lt ho q e).1; omega, hs, bstep H.bel hb⟩
/-- One address more. -/
theorem RpS.push {w wr w7 : World} {h : Hd} {d : Ds} {F : Int} {l : List ByteArray} {out : List Int} {vl vo : Value} {a : Int} {g cap : Nat} (H : RpS w wr h d F l out vl vo)
    (hrow : w7.ownsRow (w.heap.size + 1 + 1) 3 1 (.slice (some ⟨g, 0, none⟩) (out.length + 1) cap) (out.length + 1) (out.map (Value.int .i64) ++ [Value.int .i64 a]))
    (hg : (wr.alloc (.cells #[.int .i64 a] 3)).grownBy w7 vo.ownBlock) (hat : vo.ownBlock = some g ∨ g = wr.heap.size + 1) : RpS w w7 h d F l (out ++ [a]) vl (.slice (some ⟨g, 0, none⟩) (out.length + 1) cap) := by
  have hvo : ∀ q, vo.ownBlock = some q → w.heap.size + 1 + 1 ≤ q := fun q hq => (World.ownsRow.lt H.oo q hq).1
  have hvl : ∀ q, vl.ownBlock = some q → q < wr.heap.size := fun q hq => (World.ownsRow.lt H.ol q hq).2
  refine ⟨grown_at hg (alloc_at H.hh) (fun e => by have := hvo _ e.symm; omega), grown_at hg (alloc_at H.hd) (fun e => by have := hvo _ e.symm; omega), own_of_block H.ol (fun q hq => (hg.block q (by have := hvl q hq; simp; omega) (fun e => H.dd q e.symm hq)).trans (Below.heap_alloc _ _ _ (hvl q hq))), by rw [List.length_append, List.length_singleton, List.map_append]; exact hrow, fun q hq e => ?_, H.sm, below_grown (keep_alloc H.bel _) hg (own_mono (World.ownsRow.alloc H.oo _) (by omega))⟩
  have e1 : g = q := Option.some.inj hq
  subst e1
  rcases hat with h1 | h1
  · exact H.dd g h1 e
  · have := hvl g e; omega

theorem any_false {d : Ds} {ns : List Int} (h : ∀ j, j < ns.length → inB (ns.getD j 0) 1 d.len = true) : ns.any (fun n => !(inB n 1 d.len)) = false := by
  rw [List.any_eq_false]
  intro n hn
  obtain ⟨j, hj, rfl⟩ := List.getElem_of_mem hn
  have := h j hj
  simpa [List.getD, hj] using this
theorem any_true {d : Ds} {ns : List Int} {j : Nat} (hj : j < ns.length) (h : inB (ns.getD j 0) 1 d.len = false) : ns.any (fun n => !(inB n 1 d.len)) = true := by
  rw [List.any_eq_true]
  refine ⟨ns[j], List.getElem_mem hj, ?_⟩
  simp [List.getD, hj] at h
  simp [h]

set_option maxHeartbeats 1600000 in
set_option maxRecDepth 100000 in
theorem refPlaces_any (A : Option Addr) (c : Nat) (m : List ByteArray) (h : Hd) (d : Ds) (Bn : Option Addr) (cn : Nat) (ns : List Int) (w : World) (hm : m.length ≤ 9223372036854775807) (hz : ∀ s ∈ m, s.size ≤ 1000) (hs : StrsA w A m) (hl : ns.length ≤ 1000000) (hn : RowA w Bn (ns.map (Value.int .i64))) :
    Calls Tryd.prog 62 #[.slice A m.length c, .agg h.cells, .agg d.cells, .slice Bn ns.length cn] w (PlTo w (placesOf m h d ns)) := by
  obtain ⟨hc, hhc⟩ : ∃ hc, hc = h.cells := ⟨_, rfl⟩
  obtain ⟨dc, hdc⟩ : ∃ dc, dc = d.cells := ⟨_, rfl⟩
  have HLD : Hid (∀ w', Below w.heap.size w w' → Calls Tryd.prog 110 #[.slice A m.length c, .agg dc, .int .i64 h.fin] w' fun e w'' => DecodedO w' (loadOf m d h.fin) e w'') := fun w' hb => by rw [hdc]; exact refLoad_any A c m d h.fin w' hm hz (hs.keep hb)
  obtain ⟨k, hk⟩ : ∃ k, k = doorOf h d 1 := ⟨_, rfl⟩
  have HDO : Hid (∀ w', Calls Tryd.prog 109 #[.agg hc, .agg dc, .int .i64 1] w' fun e w'' => e = .returned (.int .i64 k) ∧ Below w'.heap.size w' w'') := fun w' => by rw [hk, hhc, hdc]; exact door_any h d 1 w'
  have hds : dc.size = 21 := by rw [hdc]; exact d.size
  have hhs : hc.size = 7 := by rw [hhc]; exact h.size
  obtain ⟨pv, hpv⟩ : ∃ pv, pv = Value.slice A m.length c := ⟨_, rfl⟩
  have HHC := Lib.hid hhc
  have HDC := Lib.hid hdc
  have HNS := Lib.hid hn
  have HK := Lib.hid hk
  rw [← hpv, ← hhc, ← hdc]
  rw [← hpv] at HLD
  have HG0 : Hid (((w.alloc (.cells hc 30)).alloc (.cells dc 23)).heap[w.heap.size + 1]? = some (.cells dc 23 (0, 0))) := heap_at_alloc (by simp)
  have HH0 : Hid (((w.alloc (.cells hc 30)).alloc (.cells dc 23)).heap[w.heap.size]? = some (.cells hc 30 (0, 0))) := alloc_at (heap_alloc_new _ _)
  have HB0 : Hid (Below w.heap.size w ((w.alloc (.cells hc 30)).alloc (.cells dc 23))) := ((Below.refl _ _).alloc (Nat.le_refl _) _).alloc (by simp) _
  clear hs hz hpv hhc hdc hk hn
  go_enter Tryd.func62, Tryd.ntmps62
  go_wp2_with (first | (refine wpl_load_row 23 _ rfl rfl (w.heap.size + 1) rfl 23 dc (0, 0) _ HG0.out Tryd.underlying23 (by rw [hds]; exact info23) ?_) | (refine wpl_load_row 30 _ rfl rfl w.heap.size rfl 30 hc (0, 0) _ HH0.out Tryd.underlying30 (by rw [hhs]; exact info30) ?_) | fail)
  refine (HDO.out _).mono ?_
  rintro e w1 ⟨rfl, hb1⟩
  have HGD1 : Hid (w1.heap[w.heap.size + 1]? = some (.cells dc 23 (0, 0))) := block_at hb1 HG0.out
  have HGH1 : Hid (w1.heap[w.heap.size]? = some (.cells hc 30 (0, 0))) := block_at hb1 HH0.out
  have HB1 := Lib.hid (bstep HB0.out hb1)
  clear hb1 HDO
  by_cases hk0 : k = 0
  · have hn0 : (k != 0) = false := by simp [hk0]
    have HD0 : Hid (doorOf h d 1 = 0) := HK.out.symm.trans hk0
    obtain ⟨hv, hp⟩ := door_zero HD0.out
    obtain ⟨hc0, hc1, hf0, hf1⟩ := plain_facts hp
    obtain ⟨hi0, hi1, hlen⟩ := valid_facts hv
    clear hv hp hk0
    go_wp2
    go_loopw [11] (fun x wr => ∃ j : Nat, x = .int .i64 j ∧ j ≤ ns.length ∧ (∀ i, i < j → inB (ns.getD i 0) 1 d.len = true) ∧ Below w1.heap.size w1 wr) (fun x _ => ns.length - (intOf x).toNat)
    case atStart => exact ⟨0, rfl, Nat.zero_le _, fun i hi => by omega, Below.refl _ _⟩
    case round =>
      obtain ⟨j, rfl, hj, hall, hbx⟩ := hrel
      have HALL := Lib.hid hall
      have HBX := Lib.hid (bstep HB1.out hbx)
      have HGDx := Lib.hid (block_at hbx HGD1.out)
      have HGHx := Lib.hid (block_at hbx HGH1.out)
      have HBY := Lib.hid hbx
      clear hall hbx
      by_cases hjl : j < ns.length
      · obtain ⟨b, o, rfl, hb0, hcn⟩ := HNS.out (by rw [List.length_map]; omega)
        have e1 : (ns.map (Value.int .i64))[j]? = some (.int .i64 (ns.getD j 0)) := by simp [List.getD, hjl]
        have hck := (HBX.out.cell (p := ⟨b, o + j, none⟩) hb0).trans ((hcn j (by rw [List.length_map]; omega)).trans e1)
        have hkl : wr.cell? ⟨w.heap.size + 1, 3, none⟩ = some (.int .i64 d.len) := (cell_of_row _ _ 3 _ _ _ HGDx.out).trans (by rw [HDC.out]; exact d.len_at)
        obtain ⟨n, hnn⟩ : ∃ n, n = ns.getD j 0 := ⟨_, rfl⟩
        have HNN := Lib.hid hnn
        rw [← hnn] at hck
        have hi2 : (0 : Int) ≤ (j : Int) := by omega
        have hi3 : (j : Int) < (ns.length : Int) := by omega
        clear hnn e1 hcn
        have HERR : Hid (inB n 1 d.len = false → placesOf m h d ns = ([], 2)) := by
          show _ → _
          intro he
          unfold placesOf
          rw [HD0.out, if_neg (by simp), if_pos (any_true hjl (by rw [← HNN.out]; exact he))]
        by_cases h1 : n < 1
        · have hd1 : decide (n < 1) = true := decide_eq_true h1
          have HAN := Lib.hid (HERR.out (by unfold inB; simp; omega))
          clear h1
          go_upto_region 7 with fail
          go_quiet (fail)
          go_wp2
          go_ret2
          rw [HAN.out]
          exact plTo_err _ _ _ (bstep HBX.out (below_drewN (Below.refl _ _) _))
        · have hd1 : decide (n < 1) = false := decide_eq_false h1
          by_cases h2 : d.len < n
          · have hd2 : decide (d.len < n) = true := decide_eq_true h2
            have HAN := Lib.hid (HERR.out (by unfold inB; simp; omega))
            clear h1 h2
            go_upto_region 7 with fail
            go_quiet (fail)
            go_wp2
            go_ret2
            rw [HAN.out]
            exact plTo_err _ _ _ (bstep HBX.out (below_drewN (Below.refl _ _) _))
          · have hd2 : decide (d.len < n) = false := decide_eq_false h2
            have HIN : Hid (inB n 1 d.len = true) := by show _ = _; unfold inB; simp; omega
            clear h1 h2
            go_upto_region 7 with fail
            go_quiet (fail)
            go_wp2
            exact ⟨⟨j + 1, by go_num, by omega, fun i hi => by
              rcases Nat.lt_or_ge i j with h3 | h3
              · exact HALL.out i h3
              · obtain rfl : i = j := by omega
                rw [← HNN.out]; exact HIN.out, bstep HBY.out (below_drewN (Below.refl _ _) _)⟩, by simp [intOf]; omega⟩
      · have HANY : Hid (∀ i, i < ns.length → inB (ns.getD i 0) 1 d.len = true) := fun i hi => HALL.out i (by omega)
        have HPO : Hid (placesOf m h d ns = if ns = [] then ([], 0) else if (endOfC m h d).2 ≠ 0 then ([], (endOfC m h d).2) else ((ns.foldl (stepPl d.itv) (h, (endOfC m h d).1, [])).2.2, 0)) := by
          show _ = _
          unfold placesOf
          rw [HD0.out, if_neg (by simp), any_false HANY.out, if_neg (by simp)]
        obtain ⟨wz, rfl⟩ : ∃ wz : World, wz = wr := ⟨_, rfl⟩
        have HNE : Hid (0 < ns.length → ns ≠ []) := fun h0 e => by rw [e] at h0; simp at h0
        have hcf : wz.cell? ⟨w.heap.size, 2, none⟩ = some (.int .i64 h.fin) := (cell_of_row _ _ 2 _ _ _ HGHx.out).trans (by rw [HHC.out]; exact h.fin_at)
        have hcf2 : (wz.alloc (.cells #[] 9)).cell? ⟨w.heap.size, 2, none⟩ = some (.int .i64 h.fin) := (cell_of_row _ _ 2 _ _ _ (alloc_at HGHx.out)).trans (by rw [HHC.out]; exact h.fin_at)
        have HGDz : Hid ((wz.alloc (.cells #[] 9)).heap[w.heap.size + 1]? = some (.cells dc 23 (0, 0))) := alloc_at HGDx.out
        obtain ⟨bb, hbb⟩ : ∃ bb, bb = (decide (0 < h.fin) && decide (0 < (ns.length : Int))) := ⟨_, rfl⟩
        have HBB := Lib.hid hbb
        clear hbb
        go_upto_region 10 with fail
        go_cut [54] (fun v54 wx => v54 = .bool bb ∧ wx = wz.alloc (.cells #[] 9))
        case first =>
          by_cases hF : 0 < h.fin
          · have hfd : decide (0 < h.fin) = true := decide_eq_true hF
            by_cases hN : 0 < (ns.length : Int)
            · have hnd : decide (0 < (ns.length : Int)) = true := decide_eq_true hN
              have hnd2 : decide (0 < ns.length) = true := decide_eq_true (by omega)
              have HT : Hid (true = bb) := by show _ = _; rw [HBB.out, hfd, hnd]; rfl
              clear hF hN
              go_wp2
              go_meet
              exact ⟨by rw [← HT.out], rfl⟩
            · have hnd : decide (0 < (ns.length : Int)) = false := decide_eq_false hN
              have hnd2 : decide (0 < ns.length) = false := decide_eq_false (by omega)
              have HT : Hid (false = bb) := by show _ = _; rw [HBB.out, hfd, hnd]; rfl
              clear hF hN
              go_wp2
              go_meet
              exact ⟨by rw [← HT.out], rfl⟩
          · have hfd : decide (0 < h.fin) = false := decide_eq_false hF
            have HT : Hid (false = bb) := by show _ = _; rw [HBB.out, hfd]; rfl
            clear hF
            go_wp2
            go_meet
            exact ⟨by rw [← HT.out], rfl⟩
        case rest =>
        obtain ⟨rfl, rfl⟩ := hcut
        go_upto_if 54 with fail
        go_cut [12] (fun v12 wx => ∃ Al cl l0, v12 = .slice Al (List.length l0) cl ∧ placesOf m h d ns = ((ns.foldl (stepPl d.itv) (h, l0, [])).2.2, 0) ∧ OwnS wz.heap.size wx (.slice Al l0.length cl) l0 ∧ (l0.length ≤ 512 ∧ ∀ s ∈ l0, s.size ≤ 512) ∧ Below wz.heap.size wz wx)
        case first =>
          cases bb with
          | true =>
            have hbt := HBB.out.symm
            rw [Bool.and_eq_true, decide_eq_true_eq, decide_eq_true_eq] at hbt
            have hF := hbt.1
            have hN : 0 < ns.length := by have := hbt.2; omega
            clear hbt
            skip
            · skip
              have HEO : Hid (endOfC m h d = loadOf m d h.fin) := by show _ = _; unfold endOfC; rw [if_neg (by omega)]
              have HLS := Lib.hid (load_small m d h.fin)
              obtain ⟨⟨l, k2⟩, hlk⟩ : ∃ x, x = loadOf m d h.fin := ⟨_, rfl⟩
              rw [← hlk] at HEO HLD HLS
              have HPP : Hid (placesOf m h d ns = if k2 ≠ 0 then ([], k2) else ((ns.foldl (stepPl d.itv) (h, l, [])).2.2, 0)) := by show _ = _; rw [HPO.out, if_neg (HNE.out hN), HEO.out]
              clear hF hN hlk
              go_wp2_with (first | (refine wpl_load_row 23 _ rfl rfl (w.heap.size + 1) rfl 23 dc (0, 0) _ HGDz.out Tryd.underlying23 (by rw [hds]; exact info23) ?_) | fail)
              refine (HLD.out _ (HBX.out.alloc HBX.out.size _)).mono ?_
              rintro e w4 ⟨v, rfl, hown, hb4⟩
              have hown : OwnS (wz.alloc (.cells #[] 9)).heap.size w4 v l := hown
              have HB4 := Lib.hid (bstep ((Below.refl wz.heap.size wz).alloc (Nat.le_refl _) _) hb4)
              obtain ⟨A2, c2, rfl, _, _⟩ := own_row hown
              have HOW := Lib.hid hown
              clear hown hb4
              dsimp only at HLS ⊢
              by_cases hk2 : k2 = 0
              · subst hk2
                have HPQ : Hid (placesOf m h d ns = ((ns.foldl (stepPl d.itv) (h, l, [])).2.2, 0)) := by show _ = _; rw [HPP.out, if_neg (by simp)]
                go_wp2
                go_meet
                exact ⟨_, _, l, rfl, HPQ.out, own_mono HOW.out (by simp), HLS.out, HB4.out⟩
              · have HAN : Hid (placesOf m h d ns = ([], k2)) := by show _ = _; rw [HPP.out, if_pos hk2]
                have hn2 : (k2 != 0) = true := by simp [hk2]
                clear hk2
                go_wp2
                go_ret2
                rw [HAN.out]
                exact plTo_err _ _ _ (bstep HBX.out HB4.out)
          | false =>
            have HPQ : Hid (placesOf m h d ns = ((ns.foldl (stepPl d.itv) (h, [], [])).2.2, 0)) := by
              show _ = _
              rw [HPO.out]
              by_cases h0 : ns = []
              · rw [if_pos h0, h0]; rfl
              · have hbt := HBB.out.symm
                have hpos : 0 < ns.length := List.length_pos_iff.2 h0
                have hFn : ¬ 0 < h.fin := by
                  intro hF
                  rw [decide_eq_true hF, decide_eq_true (by omega : 0 < (ns.length : Int))] at hbt
                  simp at hbt
                have he : endOfC m h d = ([], 0) := by unfold endOfC; rw [if_pos (by omega)]
                rw [if_neg h0, he, if_neg (by simp)]
            go_wp2
            go_meet
            exact ⟨_, _, [], rfl, HPQ.out, own_empty (Nat.le_refl _) (heap_alloc_new _ _), by simp, (Below.refl _ _).alloc (Nat.le_refl _) _⟩
        case rest =>
          obtain ⟨Al, cl, l0, rfl, hpq, hol, hsm, hbz⟩ := hcut
          have HPQ := Lib.hid hpq
          obtain ⟨wy, rfl⟩ : ∃ wy : World, wy = wc := ⟨_, rfl⟩
          have HI : Hid (RpS w (wy.alloc (.cells #[] 3)) h d h.fin l0 [] (.slice Al l0.length cl) (.slice (some ⟨wy.heap.size, 0, none⟩) 0 0)) := by
            have h1 := blk_lt HGDx.out
            have h2 := hbz.size
            have h3 : h = { h with fin := h.fin } := rfl
            refine ⟨alloc_at (block_at hbz (by rw [← h3, ← HHC.out]; exact HGHx.out)), alloc_at (block_at hbz (by rw [← HDC.out]; exact HGDx.out)), own_mono (own_keep hol (keep_alloc (Below.refl _ _) _)) (by omega), own_empty (by omega) (heap_alloc_new _ _), fun q hq e => ?_, hsm, keep_alloc (bstep HBX.out hbz) _⟩
            have e1 : wy.heap.size = q := Option.some.inj hq
            have := (World.ownsRow.lt hol q e).2
            omega
          clear hpq hol hsm hbz hcf hcf2
          go_wp2
          go_loopw [12, 15, 16] (fun x z y wr => ∃ (k : Nat) (hk : Hd) (lk : List ByteArray) (out : List Int), y = .int .i64 k ∧ k ≤ ns.length ∧ (ns.take k).foldl (stepPl d.itv) (h, l0, []) = (hk, lk, out) ∧ out.length = k ∧ (0 ≤ hk.fin ∧ hk.fin ≤ 16777216 + k) ∧ RpS w wr h d hk.fin lk out x z) (fun _ _ y _ => ns.length - (intOf y).toNat)
          case atStart => exact ⟨0, h, l0, [], rfl, Nat.zero_le _, rfl, rfl, by omega, HI.out⟩
          case round =>
            obtain ⟨k, hk, lk, out, rfl, hkl, hfold, hol, hfb, hS⟩ := hrel
            obtain ⟨F, hF⟩ : ∃ F, F = hk.fin := ⟨_, rfl⟩
            rw [← hF] at hfb hS
            have HFO := Lib.hid hfold
            have HOL := Lib.hid hol
            have HS := Lib.hid hS
            have HFE := Lib.hid hF
            obtain ⟨A2, c2, rfl, _, _⟩ := own_row hS.ol
            obtain ⟨A3, c3, rfl, _, _⟩ := own_row hS.oo
            clear hfold hol hS hF
            by_cases hlt : k < ns.length
            · obtain ⟨b, o, rfl, hb0, hcn⟩ := HNS.out (by rw [List.length_map]; omega)
              have e1 : (ns.map (Value.int .i64))[k]? = some (.int .i64 (ns.getD k 0)) := by simp [List.getD, hlt]
              have hck := (HS.out.bel.cell (p := ⟨b, o + k, none⟩) hb0).trans ((hcn k (by rw [List.length_map]; omega)).trans e1)
              have HTK : Hid ((ns.take (k + 1)).foldl (stepPl d.itv) (h, l0, []) = stepPl d.itv (hk, lk, out) (ns.getD k 0)) := by
                show _ = _
                rw [List.take_succ_eq_append_getElem hlt, List.foldl_append, HFO.out]
                simp [List.getD, hlt]
              have hin := inB_true (HANY.out k hlt)
              obtain ⟨i, hi⟩ : ∃ i : Nat, ns.getD k 0 = i := ⟨(ns.getD k 0).toNat, by omega⟩
              rw [hi] at hck HTK hin
              clear e1 hcn hi hb0
              have hi2 : i ≤ 200 := by omega
              have hpos : 0 < i := by omega
              have hmk := make_bytes i (by omega)
              have hcv := conv_zeros wr i
              have HZE : Hid (ofL (List.replicate i 0) = zer (i : Int)) := rfl
              have HZS : Hid ((zer (i : Int)).size ≤ 200) := by show _ ≤ _; unfold zer; rw [ofL_size, List.length_replicate]; simpa using hi2
              have hk0 : (0 : Int) ≤ (k : Int) := by omega
              have hk1 : (k : Int) < (ns.length : Int) := by omega
              clear hin
              go_upto_region 20 with fail
              rw [HZE.out]
              obtain ⟨r, hr⟩ : ∃ r, r = zer (i : Int) := ⟨_, rfl⟩
              rw [← hr] at HZS
              rw [← hr]
              have HRZ := Lib.hid hr
              obtain ⟨W, hW⟩ : ∃ W, W = wr.alloc (.cells (madeCells #[.int .u8 0] i) 5) := ⟨_, rfl⟩
              have HSW : Hid (RpS w W h d F lk out (.slice A2 lk.length c2) (.slice A3 out.length c3)) := by show RpS _ _ _ _ _ _ _ _ _; rw [hW]; exact HS.out.keep (keep_alloc (Below.refl _ _) _)
              rw [← hW]
              clear hr hW hmk hcv hck
              have g2 : W.cell? ⟨w.heap.size, 2, none⟩ = some (.int .i64 F) := cell_of_row _ _ 2 _ _ _ HSW.out.hh
              have g7 : W.cell? ⟨w.heap.size + 1, 7, none⟩ = some (.int .i64 d.itv) := (cell_of_row _ _ 7 _ _ _ HSW.out.hd).trans d.itv_at
              go_cut [94] (fun v94 wx => v94 = .bool (freshOf F d.itv lk r) ∧ Below W.heap.size W wx)
              case first =>
                by_cases h0 : F = 0
                · have hz0 : (F == 0) = true := by simp [h0]
                  have HF : Hid (true = freshOf F d.itv lk r) := by show _ = _; unfold freshOf; simp [h0]
                  clear h0
                  go_quiet (fail)
                  go_wp2
                  go_meet
                  exact ⟨by rw [← HF.out], below_drewN (Below.refl _ _) _⟩
                · have hz0 : (F == 0) = false := by simp [h0]
                  have HF : Hid ((!fitsOf d.itv (lk ++ [r])) = freshOf F d.itv lk r) := by show _ = _; unfold freshOf; rw [decide_eq_false h0]; rfl
                  have HFT : Hid (∀ n v w', w'.ownsRow W.heap.size 9 1 v n ([] ++ lk.map Value.string ++ [Value.string r]) → Calls Tryd.prog 42 #[.int .i64 d.itv, v] w' fun e w'' => e = .returned (.bool (fitsOf d.itv (lk ++ [r]))) ∧ Below w'.heap.size w' w'') := fun n v w' ho => refFits_own d.itv _ n v lk r w' HSW.out.sm.1 HSW.out.sm.2 HZS.out ho
                  obtain ⟨gb, hgb⟩ : ∃ gb, gb = fitsOf d.itv (lk ++ [r]) := ⟨_, rfl⟩
                  rw [← hgb] at HF HFT
                  have HL1 : Hid (0 + lk.length ≤ maxLen ∧ (0 + lk.length) * 16 ≤ 140737488355328 ∧ 0 + lk.length + 1 ≤ maxLen ∧ (0 + lk.length + 1) * 16 ≤ 140737488355328) := by show _ ∧ _; have := HSW.out.sm.1; unfold maxLen; omega
                  have HCT : Hid (∀ w', Below W.heap.size W w' → Cat w' (.slice A2 lk.length c2) lk.length (lk.map Value.string)) := fun w' hb => cat_own (own_keep HSW.out.ol hb)
                  have HK : Hid (∀ w', Below W.heap.size W w' → w'.cell? ⟨w.heap.size, 2, none⟩ = some (.int .i64 F) ∧ w'.cell? ⟨w.heap.size + 1, 7, none⟩ = some (.int .i64 d.itv)) := fun w' hBB => ⟨(hBB.cell (p := ⟨w.heap.size, 2, none⟩) (blk_lt HSW.out.hh)).trans g2, (hBB.cell (p := ⟨w.heap.size + 1, 7, none⟩) (blk_lt HSW.out.hd)).trans g7⟩
                  clear hgb h0
                  go_region_held_law (fun w' => w'.cell? ⟨w.heap.size, 2, none⟩ = some (.int .i64 F) ∧ w'.cell? ⟨w.heap.size + 1, 7, none⟩ = some (.int .i64 d.itv))
                    (first | exact HK.out _ hBB | exact HK.out _ (hBB.alloc hBB.size _) | exact HK.out _ (by ((repeat' first | exact Below.refl _ _ | refine Below.drew ?_ | refine Below.alloc ?_ ?_ _) <;> first | done | exact Nat.le_refl _ | (simp; done) | (simp; omega))) | fail)
                    (first
                      | (refine step_cat elemStr (by rfl) _ _ rfl W.heap.size (.slice (some ⟨_, 0, none⟩) 0 0) 0 [] rfl (own_empty (by first | exact Nat.le_refl _ | (simp; done) | (simp; omega)) (by (first | exact heap_alloc_new _ _ | exact heap_at_alloc (by simp) | exact (Below.heap_alloc _ _ _ (by first | (simp; done) | (simp; omega))).trans (heap_alloc_new _ _) | exact (Below.heap_alloc _ _ _ (by first | (simp; done) | (simp; omega))).trans (heap_at_alloc (by simp))))) (by first | (simp; done) | (simp; omega)) (.slice A2 lk.length c2) lk.length (lk.map Value.string) rfl (HCT.out _ (by ((repeat' first | exact Below.refl _ _ | refine Below.drew ?_ | refine Below.alloc ?_ ?_ _) <;> first | done | exact Nat.le_refl _ | (simp; done) | (simp; omega)))) (by simp) (strs_one lk) HL1.out.1 HL1.out.2.1 ?_; intro v1 w2 hown1 hgr1; have hBB : Below W.heap.size W w2 := below_grown (by ((repeat' first | exact Below.refl _ _ | refine Below.drew ?_ | refine Below.alloc ?_ ?_ _) <;> first | done | exact Nat.le_refl _ | (simp; done) | (simp; omega))) hgr1 (own_empty (e := 9) (size := 1) (by first | exact Nat.le_refl _ | (simp; done) | (simp; omega)) (by (first | exact heap_alloc_new _ _ | exact heap_at_alloc (by simp) | exact (Below.heap_alloc _ _ _ (by first | (simp; done) | (simp; omega))).trans (heap_alloc_new _ _) | exact (Below.heap_alloc _ _ _ (by first | (simp; done) | (simp; omega))).trans (heap_at_alloc (by simp))))))
                      | (refine step_cat elemStr (by rfl) _ _ rfl W.heap.size v1 (0 + lk.length) ([] ++ lk.map Value.string) rfl (by first | exact hown1 | exact World.ownsRow.alloc hown1 _) (by first | exact hBB.size | (have := hBB.size; simp; omega)) (.slice (some ⟨_, 0, none⟩) 1 1) 1 [.string r] rfl (cat_block (cs := #[.string r]) (t := 9) (by first | exact heap_alloc_new _ _ | exact (hgr1.block _ (by first | (simp; done) | (simp; omega)) (by simp [Value.ownBlock])).trans (by (first | exact heap_alloc_new _ _ | exact heap_at_alloc (by simp) | exact (Below.heap_alloc _ _ _ (by first | (simp; done) | (simp; omega))).trans (heap_alloc_new _ _) | exact (Below.heap_alloc _ _ _ (by first | (simp; done) | (simp; omega))).trans (heap_at_alloc (by simp)))))) rfl (by simp [Value.oneCell']) HL1.out.2.2.1 HL1.out.2.2.2 ?_; intro v3 w3 hown3 hgr3; have hBB : Below W.heap.size W w3 := below_grown (by first | exact hBB | exact hBB.alloc hBB.size _) hgr3 (by first | exact hown1 | exact World.ownsRow.alloc hown1 _))
                      | (go_at_call 42; with_reducible_and_instances refine (HFT.out _ _ _ hown3).mono ?_; rintro e wf ⟨rfl, hbF⟩; have hBB := bstep hBB hbF))
                  all_goals
                    go_wp2
                    go_meet
                    exact ⟨by rw [← HF.out], hBB⟩
              case rest =>
                obtain ⟨rfl, hbx⟩ := hcut
                obtain ⟨wv, rfl⟩ : ∃ wv : World, wv = wc := ⟨_, rfl⟩
                have HRX := Lib.hid (HSW.out.keep hbx)
                obtain ⟨fr, hfr⟩ : ∃ fr, fr = freshOf F d.itv lk r := ⟨_, rfl⟩
                rw [← hfr]
                have HFR := Lib.hid hfr
                clear hfr hbx g2 g7
                have g2 : wv.cell? ⟨w.heap.size, 2, none⟩ = some (.int .i64 F) := cell_of_row _ _ 2 _ _ _ HRX.out.hh
                have gf2 : wv.frozen? ⟨w.heap.size, 2, none⟩ = false := frozen_of_row _ _ 2 _ _ HRX.out.hh
                go_upto_if 94 with fail
                go_cut [12] (fun v12 wx => ∃ A4 c4 l2, v12 = .slice A4 (List.length l2) c4 ∧ l2 = lastOf F d.itv lk r ∧ RpS w wx h d (finOf F d.itv lk r) l2 out (.slice A4 l2.length c4) (.slice A3 out.length c3))
                case first =>
                  cases fr with
                  | true =>
                    have e : finOf F d.itv lk r = F + 1 := by unfold finOf; rw [← HFR.out]; rfl
                    have HE := Lib.hid e
                    clear e
                    go_wp2
                    go_region
                    go_wp2
                    go_meet
                    refine ⟨none, 0, [], rfl, by unfold lastOf; rw [← HFR.out]; rfl, ?_⟩
                    rw [HE.out]
                    exact HRX.out.fresh.keep (Below.refl _ _).drew
                  | false =>
                    have e : finOf F d.itv lk r = F := by unfold finOf; rw [← HFR.out]; rfl
                    have HE := Lib.hid e
                    clear e
                    go_wp2
                    go_meet
                    refine ⟨A2, c2, lk, rfl, by unfold lastOf; rw [← HFR.out]; rfl, ?_⟩
                    rw [HE.out]
                    exact HRX.out
                case rest =>
                  obtain ⟨A4, c4, l2, rfl, hl2, hrs⟩ := hcut
                  obtain ⟨wu, rfl⟩ : ∃ wu : World, wu = wc := ⟨_, rfl⟩
                  obtain ⟨G, hG⟩ : ∃ G, G = finOf F d.itv lk r := ⟨_, rfl⟩
                  rw [← hG] at hrs
                  have HG := Lib.hid hG
                  have hG0 : 0 ≤ G ∧ G ≤ 17777217 := by rw [hG]; unfold finOf; split <;> omega
                  have HGF : Hid (0 ≤ G ∧ G ≤ 16777216 + (k + 1 : Nat)) := by show _ ∧ _; rw [hG]; unfold finOf; split <;> omega
                  have HL2 := Lib.hid hl2
                  have HRT := Lib.hid hrs
                  have hk2t : wu.cell? ⟨w.heap.size, 2, none⟩ = some (.int .i64 G) := cell_of_row _ _ 2 _ _ _ hrs.hh
                  have hk7t : wu.cell? ⟨w.heap.size + 1, 7, none⟩ = some (.int .i64 d.itv) := (cell_of_row _ _ 7 _ _ _ hrs.hd).trans d.itv_at
                  have HS3 := Lib.hid (own_strsA hrs.ol)
                  obtain ⟨K, hK⟩ : ∃ K, K = G * d.itv := ⟨_, rfl⟩
                  have hK0 : 0 ≤ K := by rw [hK]; exact Int.mul_nonneg hG0.1 (by omega)
                  have hK1 : K ≤ 9101935104 := by
                    have := Int.mul_le_mul hG0.2 hi1 (by omega) (by omega : (0:Int) ≤ 17777217)
                    rw [hK]; omega
                  have hK2 := hK.symm
                  have HKK := Lib.hid hK
                  have hl2l : l2.length ≤ 512 := HRT.out.sm.1
                  clear hG hl2 hrs hK g2 gf2
                  go_wp2
                  go_loopw [18, 19] (fun x y wr => ∃ j : Nat, x = .int .i64 (K + ((content (l2.take j)).length : Int)) ∧ y = .int .i64 j ∧ j ≤ l2.length ∧ wu = wr) (fun _ y _ => l2.length - (intOf y).toNat)
                  case atStart => exact ⟨0, by simp [content], rfl, Nat.zero_le _, rfl⟩
                  case round =>
                    obtain ⟨j, rfl, rfl, hj, rfl⟩ := hrel
                    obtain ⟨a, ha⟩ : ∃ a, a = (content (l2.take j)).length := ⟨_, rfl⟩
                    have ha1 : a ≤ 262144 := by rw [ha]; exact pageSum l2 hl2l HRT.out.sm.2 j
                    by_cases hjl : j < l2.length
                    · obtain ⟨b', o', hA, _, hc⟩ := HS3.out (by omega)
                      have hck := hc j hjl
                      have HCT2 : Hid ((content (l2.take (j + 1))).length = a + (l2.getD j ByteArray.empty).size) := by show _ = _; rw [content_takeS _ _ hjl, ← ha]
                      have hsz : (l2.getD j ByteArray.empty).size ≤ 512 := HRT.out.sm.2 _ (by simp [List.getD, hjl])
                      obtain ⟨s, hs⟩ : ∃ s, s = l2.getD j ByteArray.empty := ⟨_, rfl⟩
                      rw [← hs] at hck HCT2 hsz
                      subst hA
                      rw [← ha]
                      clear hs hc ha
                      go_wp2
                      refine ⟨⟨j + 1, ?_, by go_num, by omega, trivial⟩, by simp [intOf]; omega⟩
                      rw [HCT2.out]
                      go_num
                    · obtain rfl : j = l2.length := by omega
                      have HCA : Hid (a = (content l2).length) := by show _ = _; rw [ha, List.take_of_length_le (Nat.le_refl _)]
                      rw [← ha]
                      have HL1 : Hid (0 + l2.length ≤ maxLen ∧ (0 + l2.length) * 16 ≤ 140737488355328 ∧ 0 + l2.length + 1 ≤ maxLen ∧ (0 + l2.length + 1) * 16 ≤ 140737488355328) := by show _ ∧ _; unfold maxLen; omega
                      have HLN : Hid (out.length + 1 ≤ maxLen ∧ (out.length + 1) * 8 ≤ 140737488355328) := by have := HOL.out; show _ ∧ _; unfold maxLen; omega
                      have HCX : Hid (∀ w', Below wu.heap.size wu w' → Cat w' (.slice A4 l2.length c4) l2.length (l2.map Value.string)) := fun w' hb => cat_own (own_keep HRT.out.ol hb)
                      have hm2 := HL2.out
                      clear ha HS3 hj hjl
                      go_wp2_with (first
                        | (at_builtin; refine wpl_cat elemStr rfl _ _ rfl wu.heap.size (.slice (some ⟨wu.heap.size, 0, none⟩) 0 0) 0 [] rfl (own_empty (Nat.le_refl _) (heap_alloc_new wu _)) (by simp) (.slice A4 l2.length c4) l2.length (l2.map Value.string) rfl (HCX.out _ (keep_alloc (Below.refl _ _) _)) (by simp) (strs_one l2) HL1.out.1 HL1.out.2.1 ?_; intro v1 wa hown1 hgr1; have HBa : Hid (Below wu.heap.size wu wa) := below_grown (keep_alloc (Below.refl _ _) _) hgr1 (own_empty (e := 9) (size := 1) (Nat.le_refl _) (heap_alloc_new wu _)); have HOa := Lib.hid hown1; clear hown1 hgr1)
                        | (at_builtin; refine wpl_cat elemStr rfl _ _ rfl wu.heap.size v1 (0 + l2.length) ([] ++ l2.map Value.string) rfl (World.ownsRow.alloc HOa.out _) (Nat.le_trans HBa.out.size (by simp)) (.slice (some ⟨wa.heap.size, 0, none⟩) 1 1) 1 [.string r] rfl (cat_block (cs := #[.string r]) (t := 9) (heap_alloc_new _ _)) rfl (by simp [Value.oneCell']) HL1.out.2.2.1 HL1.out.2.2.2 ?_; intro v2 wb hown2 hgr2; have HBb : Hid (Below wu.heap.size wu wb) := below_grown (keep_alloc HBa.out _) hgr2 (World.ownsRow.alloc HOa.out _); have HRW : Hid (RpS w wb h d G (l2 ++ [r]) out v2 (.slice A3 out.length c3)) := HRT.out.row HBb.out (ownS_cat hown2) (by rw [hm2]; exact last_small HZS.out); clear hown2 hgr2)
                        | (at_builtin; refine wpl_pushG elemInt rfl _ _ rfl (w.heap.size + 1 + 1) (.slice A3 out.length c3) out.length (out.map (Value.int .i64)) [.int .i64 (K + (a : Int))] rfl HRW.out.oo (by have := blk_lt HRW.out.hd; omega) _ rfl rfl rfl (by simp [Value.oneCell']) HLN.out.1 HLN.out.2 ?_; intro g7 cap7 w7 hown7 hgr7 hat7; have HS7 := Lib.hid (HRW.out.push hown7 hgr7 hat7); clear hown7 hgr7 hat7) | fail)
                      refine ⟨⟨k + 1, { hk with cnt := hk.cnt + 1, fin := G }, l2 ++ [r], out ++ [K + (a : Int)], by go_num, by omega, ?_, by rw [List.length_append, List.length_singleton, HOL.out], HGF.out, HS7.out⟩, by simp [intOf]; omega⟩
                      rw [HTK.out]
                      unfold stepPl atOf
                      dsimp only
                      rw [← HFE.out, ← HRZ.out, ← HG.out, ← HL2.out, ← HKK.out, ← HCA.out]
            · have hkn : k = ns.length := by omega
              have HAN : Hid (placesOf m h d ns = (out, 0)) := by
                show _ = _
                rw [HPQ.out]
                have := HFO.out
                rw [hkn, List.take_of_length_le (Nat.le_refl _)] at this
                rw [this]
              clear hkn
              go_wp2
              go_ret2
              rw [HAN.out]
              exact ⟨A3, c3, rfl, own_mono HS.out.oo (by omega), HS.out.bel⟩
  · have HAN : Hid (placesOf m h d ns = ([], k)) := by
      show _ = _
      unfold placesOf
      rw [← HK.out, if_pos hk0]
    have hn : (k != 0) = true := by simp [hk0]
    clear hk0
    go_wp2
    go_ret2
    rw [HAN.out]
    exact plTo_err _ _ _ HB1.out
end Go.Proofs.YtnkhifgppcnmkaaDoor

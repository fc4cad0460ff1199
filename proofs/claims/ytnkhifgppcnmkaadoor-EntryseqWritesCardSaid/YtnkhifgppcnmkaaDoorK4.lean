/- Walks of chapter 18: the reference's find, Get, Replace. -/
import Derived.Test.YtnkhifgppcnmkaaDoorK3
namespace Go.Proofs.YtnkhifgppcnmkaaDoor
open Go.RowKit Iv
attribute [local go_sem ↓] Go.wp_at_zero Go.wp_at_succ exec_ld23 exec_ld30 exec_st23 exec_st30 heap_alloc_new heap_alloc_old
attribute [local go_sem] ld23_run ld30_run st23_run st30_run

/-- What the reference's find answers. -/
def findD (m : List ByteArray) (h : Hd) (d : Ds) (a : Int) : Fnd := if doorOf h d 1 ≠ 0 then ⟨[], 0, doorOf h d 1⟩ else findOf m h d a

set_option maxHeartbeats 1600000 in
set_option maxRecDepth 100000 in
theorem refFind_any (A : Option Addr) (c : Nat) (m : List ByteArray) (h : Hd) (d : Ds) (a : Int) (w : World) (hm : m.length ≤ 9223372036854775807) (hz : ∀ s ∈ m, s.size ≤ 1000) (hs : StrsA w A m) (ha0 : -9223372036854775808 ≤ a) (ha1 : a ≤ 9223372036854775807) :
    Calls Tryd.prog 115 #[.slice A m.length c, .agg h.cells, .agg d.cells, .int .i64 a] w (FindTo w (findD m h d a)) := by
  obtain ⟨hc, hhc⟩ : ∃ hc, hc = h.cells := ⟨_, rfl⟩
  obtain ⟨dc, hdc⟩ : ∃ dc, dc = d.cells := ⟨_, rfl⟩
  have HLD : Hid (∀ w', Below w.heap.size w w' → Calls Tryd.prog 110 #[.slice A m.length c, .agg dc, .int .i64 (a / d.itv)] w' fun e w'' => DecodedO w' (loadOf m d (a / d.itv)) e w'') := fun w' hb => by rw [hdc]; exact refLoad_any A c m d (a / d.itv) w' hm hz (hs.keep hb)
  have hds : dc.size = 21 := by rw [hdc]; exact d.size
  have hhs : hc.size = 7 := by rw [hhc]; exact h.size
  have hit : dc[7]? = some (.int .i64 d.itv) := by rw [hdc]; exact d.itv_at
  have hfi : hc[2]? = some (.int .i64 h.fin) := by rw [hhc]; exact h.fin_at
  obtain ⟨pv, hpv⟩ : ∃ pv, pv = Value.slice A m.length c := ⟨_, rfl⟩
  obtain ⟨k, hk⟩ : ∃ k, k = doorOf h d 1 := ⟨_, rfl⟩
  have HDO : Hid (∀ w', Calls Tryd.prog 109 #[.agg hc, .agg dc, .int .i64 1] w' fun e w'' => e = .returned (.int .i64 k) ∧ Below w'.heap.size w' w'') := fun w' => by rw [hk, hhc, hdc]; exact door_any h d 1 w'
  have HFD0 : Hid (findD m h d a = if k ≠ 0 then ⟨[], 0, k⟩ else findOf m h d a) := by show _ = _; rw [hk]; rfl
  have hk' := hk
  rw [← hpv, ← hhc, ← hdc]
  rw [← hpv] at HLD
  have HIT := Lib.hid hit
  have HFI := Lib.hid hfi
  clear hs hz hpv hhc hdc hk hit hfi
  have hgd0 : ((w.alloc (.cells hc 30)).alloc (.cells dc 23)).heap[w.heap.size + 1]? = some (.cells dc 23 (0, 0)) := heap_at_alloc (by simp)
  have hgh0 : ((w.alloc (.cells hc 30)).alloc (.cells dc 23)).heap[w.heap.size]? = some (.cells hc 30 (0, 0)) := alloc_at (heap_alloc_new _ _)
  have HG0 := Lib.hid hgd0
  have HH0 := Lib.hid hgh0
  clear hgd0 hgh0
  go_enter Tryd.func115, Tryd.ntmps115
  go_wp2_with (first | (refine wpl_load_row 23 _ rfl rfl (w.heap.size + 1) rfl 23 dc (0, 0) _ HG0.out Tryd.underlying23 (by rw [hds]; exact info23) ?_) | (refine wpl_load_row 30 _ rfl rfl w.heap.size rfl 30 hc (0, 0) _ HH0.out Tryd.underlying30 (by rw [hhs]; exact info30) ?_) | fail)
  refine (HDO.out _).mono ?_
  rintro e w1 ⟨rfl, hb1⟩
  have HGD1 : Hid (w1.heap[w.heap.size + 1]? = some (.cells dc 23 (0, 0))) := block_at hb1 HG0.out
  have HGH1 : Hid (w1.heap[w.heap.size]? = some (.cells hc 30 (0, 0))) := block_at hb1 HH0.out
  have HB1 := Lib.hid (bstep (((Below.refl _ _).alloc (Nat.le_refl _) _).alloc (by simp) _) hb1)
  clear hb1 HDO
  by_cases hk0 : k = 0
  · obtain ⟨hv, hp⟩ := door_zero (hk'.symm.trans hk0)
    have h1 := plain_facts hp
    have h2 := valid_facts hv
    have hi0 := h2.1
    have hi1 := h2.2.1
    have hf1 := h1.2.2.2
    have hn0 : (k != 0) = false := by simp [hk0]
    have HFD : Hid (findD m h d a = findOf m h d a) := by show _ = _; rw [HFD0.out, if_neg (by simp [hk0])]
    have hci : w1.cell? ⟨w.heap.size + 1, 7, none⟩ = some (.int .i64 d.itv) := (cell_of_row _ _ 7 _ _ _ HGD1.out).trans HIT.out
    have hcf : w1.cell? ⟨w.heap.size, 2, none⟩ = some (.int .i64 h.fin) := (cell_of_row _ _ 2 _ _ _ HGH1.out).trans HFI.out
    have hz0 : (d.itv == 0) = false := by simp; omega
    clear hv hp h1 h2 hk' hk0
    by_cases h1 : a < d.itv
    · have HA : Hid (findD m h d a = ⟨[], 0, 6⟩) := by show _ = _; rw [HFD.out]; unfold findOf; rw [if_pos (.inl h1)]
      have hd1 : decide (a < d.itv) = true := decide_eq_true h1
      clear h1
      go_upto_region 4 with fail
      go_quiet (fail)
      go_wp2
      go_ret3
      rw [HA.out]
      exact findTo_err _ _ _ (bstep HB1.out (below_drewN (Below.refl _ _) _))
    · have hd1 : decide (a < d.itv) = false := decide_eq_false h1
      have ha : 0 ≤ a := by omega
      have hq0 : 0 ≤ a / d.itv := Int.ediv_nonneg ha (by omega)
      have hq3 : a / d.itv ≤ a := Int.ediv_le_self d.itv ha
      by_cases h2 : h.fin < a / d.itv
      · have HA : Hid (findD m h d a = ⟨[], 0, 6⟩) := by show _ = _; rw [HFD.out]; unfold findOf; rw [if_pos (.inr h2)]
        have hd2 : decide (h.fin < a / d.itv) = true := decide_eq_true h2
        clear h2
        go_upto_region 4 with fail
        go_quiet (fail)
        go_wp2
        go_ret3
        rw [HA.out]
        exact findTo_err _ _ _ (bstep HB1.out (below_drewN (Below.refl _ _) _))
      · have hd2 : decide (h.fin < a / d.itv) = false := decide_eq_false h2
        have HLS := Lib.hid (load_small m d (a / d.itv))
        obtain ⟨⟨l, k2⟩, hlk⟩ : ∃ x, x = loadOf m d (a / d.itv) := ⟨_, rfl⟩
        have HFE : Hid (findD m h d a = if k2 ≠ 0 then ⟨[], 0, k2⟩ else pick l (idxOf l (a % d.itv))) := by
          show _ = _
          rw [HFD.out]
          unfold findOf
          rw [if_neg (by omega), ← hlk]
        rw [← hlk] at HLD HLS
        clear hlk h1 h2
        go_upto_region 4 with fail
        go_quiet (fail)
        go_upto_region 6 with fail
        obtain ⟨wq, hwq⟩ : ∃ wq, wq = w1.drewN nq := ⟨_, rfl⟩
        rw [← hwq]
        have hbq : Below w1.heap.size w1 wq := by rw [hwq]; exact below_drewN (Below.refl _ _) _
        have HGDq := Lib.hid (block_at hbq HGD1.out)
        have HBq := Lib.hid (bstep HB1.out hbq)
        have hit := HIT.out
        have HKS : Hid (∀ w', Below wq.heap.size wq w' → Below wq.heap.size wq w' ∧ w'.heap[w.heap.size + 1]? = some (.cells dc 23 (0, 0)) ∧ w'.cell? ⟨w.heap.size + 1, 7, none⟩ = some (.int .i64 d.itv)) := fun w' hb => ⟨hb, block_at hb HGDq.out, (cell_of_row _ _ 7 _ _ _ (block_at hb HGDq.out)).trans hit⟩
        clear hwq hbq hci hcf hit
        go_cut [12, 13] (fun v1 v2 wx => ∃ A1 c1, v1 = .slice A1 l.length c1 ∧ v2 = .int .i64 k2 ∧ OwnS wq.heap.size wx (.slice A1 l.length c1) l ∧ Below wq.heap.size wq wx)
        case first =>
          go_region_held_law (fun w' => Below wq.heap.size wq w' ∧ w'.heap[w.heap.size + 1]? = some (.cells dc 23 (0, 0)) ∧ w'.cell? ⟨w.heap.size + 1, 7, none⟩ = some (.int .i64 d.itv))
            (first | exact HKS.out _ (Below.refl _ _).drew | exact HKS.out _ hB6 | fail)
            (first | (go_at_call 110; refine (HLD.out _ HBq.out.drew).mono ?_; rintro e w6 ⟨v, rfl, hown, hb6⟩; have hB6 := bstep (Below.refl _ wq).drew hb6; obtain ⟨A1, c1, rfl, _, _⟩ := own_row hown))
          all_goals
            go_wp2
            go_meet
            exact ⟨_, _, rfl, rfl, hown, hB6⟩
        case rest =>
          obtain ⟨A1, c1, rfl, rfl, hown, hbx⟩ := hcut
          obtain ⟨wd, rfl⟩ : ∃ wd : World, wd = wc := ⟨_, rfl⟩
          have HBX := Lib.hid (bstep HBq.out hbx)
          have HOW : Hid (OwnS w.heap.size wd (.slice A1 l.length c1) l) := own_mono hown HBq.out.size
          have HS1 := Lib.hid (own_strsA hown)
          have hciA : wd.cell? ⟨w.heap.size + 1, 7, none⟩ = some (.int .i64 d.itv) := (HKS.out _ hbx).2.2
          clear hown hbx
          by_cases hk : k2 = 0
          · subst hk
            have hx0 : 0 ≤ a % d.itv := Int.emod_nonneg a (by omega)
            go_wp2
            go_loop [14, 15] (fun p q => ∃ (j cj : Nat), j ≤ l.length ∧ q = .int .i64 j ∧ cj = (content (l.take j)).length ∧ p = .int .i64 (cj : Int) ∧ ∀ i, i < j → (((content (l.take i)).length : Nat) : Int) ≠ a % d.itv) (fun _ q => l.length - (intOf q).toNat)
            case atStart => exact ⟨0, 0, by omega, rfl, rfl, rfl, fun i hi => by omega⟩
            case round =>
              obtain ⟨j, cj, hj, rfl, hcj, rfl, hall⟩ := hrel
              have HALL := Lib.hid hall
              have hl5 : l.length ≤ 512 := HLS.out.1
              have hcb := pageSum l HLS.out.1 HLS.out.2 j
              rw [← hcj] at hcb
              have HCJ := Lib.hid hcj
              clear hall hcj
              by_cases hjl : j < l.length
              · obtain ⟨b, o, rfl, hb, hc0⟩ := HS1.out (by omega)
                have hck := hc0 j hjl
                have hsz : (l.getD j ByteArray.empty).size ≤ 512 := HLS.out.2 _ (by simp [List.getD, hjl])
                have HNX : Hid ((content (l.take (j + 1))).length = cj + (l.getD j ByteArray.empty).size) := by show _ = _; rw [content_takeS l j hjl, HCJ.out]
                obtain ⟨r, hr⟩ : ∃ r, r = l.getD j ByteArray.empty := ⟨_, rfl⟩
                rw [← hr] at hck hsz HNX
                clear hr hc0 hb
                by_cases he : (cj : Int) = a % d.itv
                · have ht : ((cj : Int) == a % d.itv) = true := by simp; omega
                  have HP : Hid (findD m h d a = ⟨l, j, 0⟩) := by
                    show _ = _
                    rw [HFE.out, if_neg (by simp)]
                    unfold idxOf
                    rw [idxFrom_some (a % d.itv) l 0 0 j hjl (fun i hi => by have := HALL.out i hi; omega) (by rw [← HCJ.out]; omega)]
                    simp [pick]
                  clear he
                  go_wp2
                  go_ret3
                  rw [HP.out]
                  exact ⟨_, rfl, HOW.out, HBX.out⟩
                · have ht : ((cj : Int) == a % d.itv) = false := by simp; omega
                  have HE := Lib.hid he
                  clear he
                  go_wp2
                  go_round
                  case rel => exact ⟨j + 1, cj + r.size, by omega, by go_num, HNX.out.symm, by rw [Int.natCast_add], fun i hi => by
                    rcases Nat.lt_or_ge i j with h1 | h1
                    · exact HALL.out i h1
                    · obtain rfl : i = j := by omega
                      rw [← HCJ.out]; exact HE.out⟩
                  case measure => simp [intOf]; omega
              · have HP : Hid (findD m h d a = ⟨[], 0, 6⟩) := by
                  show _ = _
                  rw [HFE.out, if_neg (by simp)]
                  unfold idxOf
                  rw [idxFrom_none (a % d.itv) l 0 0 (fun i hi => by have := HALL.out i (by omega); omega)]
                  rfl
                go_wp2
                go_ret3
                rw [HP.out]
                exact findTo_err _ _ _ HBX.out
          · have HP : Hid (findD m h d a = ⟨[], 0, k2⟩) := by show _ = _; rw [HFE.out, if_pos hk]
            have hn : (k2 != 0) = true := by simp [hk]
            clear hk
            go_wp2
            go_ret3
            rw [HP.out]
            exact findTo_err _ _ _ HBX.out
  · have HA : Hid (findD m h d a = ⟨[], 0, k⟩) := by show _ = _; rw [HFD0.out, if_pos hk0]
    have hn : (k != 0) = true := by simp [hk0]
    clear hk0 hk'
    go_wp2
    go_ret3
    rw [HA.out]
    exact findTo_err _ _ _ HB1.out
theorem findD_ok {m : List ByteArray} {h : Hd} {d : Ds} {a : Int} (he : (findD m h d a).e = 0) : (findD m h d a).i < (findD m h d a).l.length ∧ (findD m h d a).l.length ≤ 512 ∧ (∀ s ∈ (findD m h d a).l, s.size ≤ 512) ∧ d.itv ≤ a ∧ 1 ≤ d.itv := by
  unfold findD at he ⊢
  split at he
  · rename_i h1; exact absurd he h1
  · rename_i h1
    rw [if_neg h1]
    have hd : doorOf h d 1 = 0 := by
      rcases Classical.em (doorOf h d 1 = 0) with h | h
      · exact h
      · exact absurd h h1
    obtain ⟨h2, h3, h4, h5⟩ := find_ok he
    exact ⟨h2, h3, h4, h5, (valid_facts (door_zero hd).1).1⟩

set_option maxHeartbeats 1600000 in
set_option maxRecDepth 100000 in
theorem refGet_any (A : Option Addr) (c : Nat) (m : List ByteArray) (h : Hd) (d : Ds) (a : Int) (w : World) (hm : m.length ≤ 9223372036854775807) (hz : ∀ s ∈ m, s.size ≤ 1000) (hs : StrsA w A m) (ha0 : -9223372036854775808 ≤ a) (ha1 : a ≤ 9223372036854775807) :
    Calls Tryd.prog 68 #[.slice A m.length c, .agg h.cells, .agg d.cells, .int .i64 a] w fun e w' => e = .returned (.tuple #[.string (getOf m h d a).1, .int .i64 (getOf m h d a).2]) ∧ Below w.heap.size w w' := by
  obtain ⟨hc, hhc⟩ : ∃ hc, hc = h.cells := ⟨_, rfl⟩
  obtain ⟨dc, hdc⟩ : ∃ dc, dc = d.cells := ⟨_, rfl⟩
  have HF : Hid (∀ w', Below w.heap.size w w' → Calls Tryd.prog 115 #[.slice A m.length c, .agg hc, .agg dc, .int .i64 a] w' (FindTo w' (findD m h d a))) := fun w' hb => by rw [hhc, hdc]; exact refFind_any A c m h d a w' hm hz (hs.keep hb) ha0 ha1
  have hds : dc.size = 21 := by rw [hdc]; exact d.size
  have hhs : hc.size = 7 := by rw [hhc]; exact h.size
  have HFO := Lib.hid (findD_ok (m := m) (h := h) (d := d) (a := a))
  have HGE : Hid (getOf m h d a = if (findD m h d a).e ≠ 0 then (ByteArray.empty, (findD m h d a).e) else ((findD m h d a).l.getD (findD m h d a).i ByteArray.empty, 0)) := by
    show _ = _
    unfold getOf findD
    by_cases h0 : doorOf h d 1 ≠ 0
    · rw [if_pos h0, if_pos h0, if_pos h0]
    · rw [if_neg h0, if_neg h0]
  obtain ⟨⟨l, i, k2⟩, hfd⟩ : ∃ x, x = findD m h d a := ⟨_, rfl⟩
  rw [← hfd] at HF HFO HGE
  rw [← hhc, ← hdc]
  have HG0 : Hid (((w.alloc (.cells hc 30)).alloc (.cells dc 23)).heap[w.heap.size + 1]? = some (.cells dc 23 (0, 0))) := heap_at_alloc (by simp)
  have HH0 : Hid (((w.alloc (.cells hc 30)).alloc (.cells dc 23)).heap[w.heap.size]? = some (.cells hc 30 (0, 0))) := alloc_at (heap_alloc_new _ _)
  have HB0 : Hid (Below w.heap.size w ((w.alloc (.cells hc 30)).alloc (.cells dc 23))) := ((Below.refl _ _).alloc (Nat.le_refl _) _).alloc (by simp) _
  clear hs hz hhc hdc hfd
  go_enter Tryd.func68, Tryd.ntmps68
  go_wp2_with (first | (refine wpl_load_row 23 _ rfl rfl (w.heap.size + 1) rfl 23 dc (0, 0) _ HG0.out Tryd.underlying23 (by rw [hds]; exact info23) ?_) | (refine wpl_load_row 30 _ rfl rfl w.heap.size rfl 30 hc (0, 0) _ HH0.out Tryd.underlying30 (by rw [hhs]; exact info30) ?_) | fail)
  refine (HF.out _ HB0.out).mono ?_
  rintro e w4 ⟨v, rfl, hown, hb4⟩
  have hown : OwnS ((w.alloc (.cells hc 30)).alloc (.cells dc 23)).heap.size w4 v l := hown
  have HB4 := Lib.hid (bstep HB0.out hb4)
  dsimp only at HFO HGE ⊢
  obtain ⟨A2, c2, rfl, hs2, _⟩ := own_strs hown
  have HS2 := Lib.hid hs2
  clear hown hb4 hs2
  by_cases hk2 : k2 = 0
  · subst hk2
    have hok := HFO.out rfl
    have hil : i < l.length := hok.1
    obtain ⟨b, o, rfl, _, hc0⟩ := HS2.out (by omega)
    have hck := hc0 i hok.1
    have hl5 : l.length ≤ 512 := hok.2.1
    have HAN : Hid (getOf m h d a = (l.getD i ByteArray.empty, 0)) := by show _ = _; rw [HGE.out, if_neg (by simp)]
    obtain ⟨r, hr⟩ : ∃ r, r = l.getD i ByteArray.empty := ⟨_, rfl⟩
    rw [← hr] at hck HAN
    clear hc0 hok hr
    go_wp2
    go_ret2
    rw [HAN.out]
    exact ⟨rfl, HB4.out⟩
  · have HAN : Hid (getOf m h d a = (ByteArray.empty, k2)) := by show _ = _; rw [HGE.out, if_pos hk2]
    have hn : (k2 != 0) = true := by simp [hk2]
    clear hk2
    go_wp2
    go_ret2
    rw [HAN.out]
    exact ⟨rfl, HB4.out⟩

set_option maxHeartbeats 1600000 in
set_option maxRecDepth 100000 in
theorem refReplace_any (A : Option Addr) (c : Nat) (m : List ByteArray) (h : Hd) (d : Ds) (a : Int) (r : ByteArray) (w : World) (hm : m.length ≤ 9223372036854775807) (hz : ∀ s ∈ m, s.size ≤ 1000) (hs : StrsA w A m) (ha0 : -9223372036854775808 ≤ a) (ha1 : a ≤ 9223372036854775807) (hrz : r.size ≤ 9223372036854775807) :
    Calls Tryd.prog 61 #[.slice A m.length c, .agg h.cells, .agg d.cells, .int .i64 a, .string r] w (RepTo w (replaceOf m h d a r)) := by
  obtain ⟨hc, hhc⟩ : ∃ hc, hc = h.cells := ⟨_, rfl⟩
  obtain ⟨dc, hdc⟩ : ∃ dc, dc = d.cells := ⟨_, rfl⟩
  have HF : Hid (∀ w', Below w.heap.size w w' → Calls Tryd.prog 115 #[.slice A m.length c, .agg hc, .agg dc, .int .i64 a] w' (FindTo w' (findD m h d a))) := fun w' hb => by rw [hhc, hdc]; exact refFind_any A c m h d a w' hm hz (hs.keep hb) ha0 ha1
  obtain ⟨k, hk⟩ : ∃ k, k = doorOf h d 1 := ⟨_, rfl⟩
  have HDO : Hid (∀ w', Calls Tryd.prog 109 #[.agg hc, .agg dc, .int .i64 1] w' fun e w'' => e = .returned (.int .i64 k) ∧ Below w'.heap.size w' w'') := fun w' => by rw [hk, hhc, hdc]; exact door_any h d 1 w'
  have hds : dc.size = 21 := by rw [hdc]; exact d.size
  have hhs : hc.size = 7 := by rw [hhc]; exact h.size
  have HIT : Hid (dc[7]? = some (.int .i64 d.itv) ∧ dc[3]? = some (.int .i64 d.len)) := by show _ ∧ _; rw [hdc]; exact ⟨d.itv_at, d.len_at⟩
  have HFO := Lib.hid (findD_ok (m := m) (h := h) (d := d) (a := a))
  have HRE : Hid (replaceOf m h d a r = if k ≠ 0 then ([], k) else if ¬ (1 ≤ (r.size : Int) ∧ (r.size : Int) ≤ d.len) then ([], 2) else if (findD m h d a).e ≠ 0 then ([], (findD m h d a).e) else if ((findD m h d a).l.getD (findD m h d a).i ByteArray.empty).size ≠ r.size then ([], 2) else ([(a / d.itv, (encodeOf d.itv ((findD m h d a).l.set (findD m h d a).i r)).1)], 0)) := by
    show _ = _
    rw [hk]
    unfold replaceOf findD
    by_cases h0 : doorOf h d 1 ≠ 0
    · rw [if_pos h0, if_pos h0]
    · rw [if_neg h0, if_neg h0, if_neg h0]
  have HVF : Hid (k = 0 → d.len ≤ 200) := fun h0 => (valid_facts (door_zero (hk.symm.trans h0)).1).2.2
  obtain ⟨⟨l, i, k2⟩, hfd⟩ : ∃ x, x = findD m h d a := ⟨_, rfl⟩
  rw [← hfd] at HF HFO HRE
  dsimp only at HFO HRE
  rw [← hhc, ← hdc]
  have HG0 : Hid (((w.alloc (.cells hc 30)).alloc (.cells dc 23)).heap[w.heap.size + 1]? = some (.cells dc 23 (0, 0))) := heap_at_alloc (by simp)
  have HH0 : Hid (((w.alloc (.cells hc 30)).alloc (.cells dc 23)).heap[w.heap.size]? = some (.cells hc 30 (0, 0))) := alloc_at (heap_alloc_new _ _)
  have HB0 : Hid (Below w.heap.size w ((w.alloc (.cells hc 30)).alloc (.cells dc 23))) := ((Below.refl _ _).alloc (Nat.le_refl _) _).alloc (by simp) _
  clear hs hz hhc hdc hfd hk
  go_enter Tryd.func61, Tryd.ntmps61
  go_wp2_with (first | (refine wpl_load_row 23 _ rfl rfl (w.heap.size + 1) rfl 23 dc (0, 0) _ HG0.out Tryd.underlying23 (by rw [hds]; exact info23) ?_) | (refine wpl_load_row 30 _ rfl rfl w.heap.size rfl 30 hc (0, 0) _ HH0.out Tryd.underlying30 (by rw [hhs]; exact info30) ?_) | fail)
  refine (HDO.out _).mono ?_
  rintro e w1 ⟨rfl, hb1⟩
  have HGD1 : Hid (w1.heap[w.heap.size + 1]? = some (.cells dc 23 (0, 0))) := block_at hb1 HG0.out
  have HGH1 : Hid (w1.heap[w.heap.size]? = some (.cells hc 30 (0, 0))) := block_at hb1 HH0.out
  have HB1 := Lib.hid (bstep HB0.out hb1)
  clear hb1 HDO
  by_cases hk0 : k = 0
  · have hlen := HVF.out hk0
    have hn0 : (k != 0) = false := by simp [hk0]
    have hk3 : w1.cell? ⟨w.heap.size + 1, 3, none⟩ = some (.int .i64 d.len) := (cell_of_row _ _ 3 _ _ _ HGD1.out).trans HIT.out.2
    by_cases hr1 : (r.size : Int) < 1
    · have hd1 : decide ((r.size : Int) < 1) = true := decide_eq_true hr1
      have HAN : Hid (replaceOf m h d a r = ([], 2)) := by show _ = _; rw [HRE.out, if_neg (by simp [hk0]), if_pos (by omega)]
      clear hr1 hk0
      go_wp2
      go_ret2
      rw [HAN.out]
      exact repTo_err _ _ _ HB1.out
    · have hd1 : decide ((r.size : Int) < 1) = false := decide_eq_false hr1
      by_cases hr2 : d.len < (r.size : Int)
      · have hd2 : decide (d.len < (r.size : Int)) = true := decide_eq_true hr2
        have HAN : Hid (replaceOf m h d a r = ([], 2)) := by show _ = _; rw [HRE.out, if_neg (by simp [hk0]), if_pos (by omega)]
        clear hr1 hr2 hk0
        go_wp2
        go_ret2
        rw [HAN.out]
        exact repTo_err _ _ _ HB1.out
      · have hd2 : decide (d.len < (r.size : Int)) = false := decide_eq_false hr2
        have HRF : Hid (replaceOf m h d a r = if k2 ≠ 0 then ([], k2) else if (l.getD i ByteArray.empty).size ≠ r.size then ([], 2) else ([(a / d.itv, (encodeOf d.itv (l.set i r)).1)], 0)) := by show _ = _; rw [HRE.out, if_neg (by simp [hk0]), if_neg (by omega)]
        have hr200 : r.size ≤ 200 := by omega
        have hgd := HGD1.out
        have hgh := HGH1.out
        clear hr1 hr2 hk0 HRE
        go_wp2_with fail
        refine (HF.out _ HB1.out).mono ?_
        rintro e w4 ⟨v, rfl, hown, hb4⟩
        have hown : OwnS w1.heap.size w4 v l := hown
        have HB4 := Lib.hid (bstep HB1.out hb4)
        have HGD4 := Lib.hid (block_at hb4 HGD1.out)
        dsimp only
        clear hgd hgh hk3 hd1 hd2
        by_cases hk2 : k2 = 0
        · subst hk2
          have hok := HFO.out rfl
          have hil : i < l.length := hok.1
          have hl5 : l.length ≤ 512 := hok.2.1
          obtain ⟨A2, c2, rfl, _, hlc⟩ := own_strs hown
          obtain ⟨g, cap, hv, _, hg⟩ := World.ownsRow.form hown (by show 0 < l.length; omega)
          simp only [Value.slice.injEq] at hv
          obtain ⟨rfl, hN0, rfl⟩ := hv
          clear hN0
          have hgs := (World.ownsRow.lt hown g rfl).1
          have HS3 : Hid (w.heap.size + 1 < w1.heap.size) := blk_lt HGD1.out
          have hgi : w4.cell? ⟨g, i, none⟩ = some (.string (l.getD i ByteArray.empty)) := by
            have := World.ownsRow.cellAt hown i (by show i < l.length * 1; omega)
            rw [this]
            simp [List.getD, hil]
          have hgf : w4.frozen? ⟨g, i, none⟩ = false := World.ownsRow.frozenAt hown i
          have HOW := Lib.hid hown
          have HLF := Lib.hid hok
          obtain ⟨x, hx⟩ : ∃ x, x = l.getD i ByteArray.empty := ⟨_, rfl⟩
          rw [← hx] at hgi HRF
          have hxz : x.size ≤ 512 := by rw [hx]; exact hok.2.2.1 _ (by simp [List.getD, hil])
          clear hown hb4 hok hx
          by_cases hsz : x.size = r.size
          · have HAN : Hid (replaceOf m h d a r = ([(a / d.itv, (encodeOf d.itv (l.set i r)).1)], 0)) := by show _ = _; rw [HRF.out, if_neg (by simp), if_neg (by omega)]
            have hne : ((r.size : Int) != (x.size : Int)) = false := by simp [hsz]
            have HL2 : Hid ((l.set i r).length ≤ 1000 ∧ ∀ s ∈ l.set i r, s.size ≤ 1000) := by
              refine ⟨by rw [List.length_set]; omega, fun s hs => ?_⟩
              rcases List.mem_or_eq_of_mem_set hs with h1 | rfl
              · have := HLF.out.2.2.1 s h1; omega
              · omega
            have hi1 : 1 ≤ d.itv := HLF.out.2.2.2.2
            have ha : 0 ≤ a := by have := HLF.out.2.2.2; omega
            have hq0 : 0 ≤ a / d.itv := Int.ediv_nonneg ha (by omega)
            have hq3 : a / d.itv ≤ a := Int.ediv_le_self d.itv ha
            have hz0 : (d.itv == 0) = false := by simp; omega
            have HOS : Hid (OwnS w1.heap.size (w4.setCell ⟨g, i, none⟩ (.string r)) (.slice (some ⟨g, 0, none⟩) l.length c2) (l.set i r)) := own_set rfl HOW.out
            have HB5 : Hid (Below w.heap.size w (w4.setCell ⟨g, i, none⟩ (.string r))) := HB4.out.setCell (by have := HS3.out; show _ ≤ g; omega) _
            have hg7 : g ≠ w.heap.size + 1 := by have := HS3.out; omega
            have hk7 : w4.cell? ⟨w.heap.size + 1, 7, none⟩ = some (.int .i64 d.itv) := (cell_of_row _ _ 7 _ _ _ HGD4.out).trans HIT.out.1
            have HGD5 : Hid ((w4.setCell ⟨g, i, none⟩ (.string r)).heap[w.heap.size + 1]? = some (.cells dc 23 (0, 0))) := (heap_setCell_other _ _ _ _ (Ne.symm hg7)).trans HGD4.out
            obtain ⟨pg, hpg⟩ : ∃ pg, pg = encodeOf d.itv (l.set i r) := ⟨_, rfl⟩
            have HEC : Hid (Calls Tryd.prog 38 #[.int .i64 d.itv, .slice (some ⟨g, 0, none⟩) l.length c2] (w4.setCell ⟨g, i, none⟩ (.string r)) fun e w'' => e = .returned (.tuple #[.string pg.1, .int .i64 pg.2]) ∧ Below (w4.setCell ⟨g, i, none⟩ (.string r)).heap.size (w4.setCell ⟨g, i, none⟩ (.string r)) w'') := by
              have := refEncode_any d.itv (some ⟨g, 0, none⟩) c2 (l.set i r) _ HL2.out.1 HL2.out.2 (own_strsA HOS.out)
              rw [List.length_set, ← hpg] at this
              exact this
            rw [← hpg] at HAN
            clear hsz hpg
            go_wp2_with fail
            refine HEC.out.mono ?_
            rintro e w7 ⟨rfl, hb7⟩
            have hk7b : w7.cell? ⟨w.heap.size + 1, 7, none⟩ = some (.int .i64 d.itv) := (cell_of_row _ _ 7 _ _ _ (block_at hb7 HGD5.out)).trans HIT.out.1
            have HB7 := Lib.hid (bstep HB5.out hb7)
            clear hb7 hgi hgf hk7
            obtain ⟨p1, p2⟩ := pg
            dsimp only at HAN ⊢
            go_wp2
            go_ret2
            rw [HAN.out]
            refine ⟨_, _, rfl, fun _ => ⟨w7.heap.size, 0, rfl, by simp, fun j hj => ?_⟩, HB7.out.alloc HB7.out.size _⟩
            rw [Nat.zero_add, cell_of_row _ _ j _ _ _ (heap_alloc_new w7 _)]
            simp [wrCells]
          · have HAN : Hid (replaceOf m h d a r = ([], 2)) := by show _ = _; rw [HRF.out, if_neg (by simp), if_pos (by omega)]
            have hne : ((r.size : Int) != (x.size : Int)) = true := by simp; omega
            clear hsz
            go_wp2
            go_ret2
            rw [HAN.out]
            exact repTo_err _ _ _ HB4.out
        · have HAN : Hid (replaceOf m h d a r = ([], k2)) := by show _ = _; rw [HRF.out, if_pos hk2]
          have hn : (k2 != 0) = true := by simp [hk2]
          obtain ⟨A2, c2, rfl, _, _⟩ := own_row hown
          clear hk2 hown hb4
          go_wp2
          go_ret2
          rw [HAN.out]
          exact repTo_err _ _ _ HB4.out
  · have HAN : Hid (replaceOf m h d a r = ([], k)) := by show _ = _; rw [HRE.out, if_pos hk0]
    have hn : (k != 0) = true := by simp [hk0]
    clear hk0
    go_wp2
    go_ret2
    rw [HAN.out]
    exact repTo_err _ _ _ HB1.out
end Go.Proofs.YtnkhifgppcnmkaaDoor

/- Walks of chapter 18: writes, Put, Places. -/
import Derived.Test.YtnkhifgppcnmkaaDoorC2
import Derived.Test.YtnkhifgppcnmkaaDoorB4
import Derived.Deep.MidRow

/- Walks of chapter 18: SameWrites, small. -/
namespace Go.Proofs.YtnkhifgppcnmkaaDoor
open Go.RowKit Iv

abbrev Wr := Int × ByteArray
def noWr : Wr := (0, ByteArray.empty)
def wrAt (l : List Wr) (i : Nat) : Wr := l.getD i noWr

theorem wrCells_length (l : List Wr) : (wrCells l).length = 2 * l.length := by
  induction l with
  | nil => rfl
  | cons x l ih => rw [show wrCells (x :: l) = [.int .i64 x.1, .string x.2] ++ wrCells l from rfl, List.length_append, ih]; simp; omega

theorem wrCells_get (l : List Wr) (i : Nat) (h : i < l.length) : (wrCells l)[2 * i]? = some (.int .i64 (wrAt l i).1) ∧ (wrCells l)[2 * i + 1]? = some (.string (wrAt l i).2) := by
  induction l generalizing i with
  | nil => simp at h
  | cons x l ih =>
    have e : wrCells (x :: l) = .int .i64 x.1 :: .string x.2 :: wrCells l := rfl
    rw [e]
    cases i with
    | zero => exact ⟨rfl, rfl⟩
    | succ i =>
      have := ih i (by simpa using h)
      rw [show 2 * (i + 1) = 2 * i + 1 + 1 by omega, List.getElem?_cons_succ, List.getElem?_cons_succ, List.getElem?_cons_succ, List.getElem?_cons_succ]
      exact this

theorem writes_at {w : World} {A : Option Addr} {l : List Wr} (h : RowA w A (wrCells l)) (i : Nat) (hi : i < l.length) :
    ∃ b o, A = some ⟨b, o, none⟩ ∧ b < w.heap.size ∧ w.cell? ⟨b, o + i * 2, none⟩ = some (.int .i64 (wrAt l i).1) ∧ w.cell? ⟨b, o + i * 2 + 1, none⟩ = some (.string (wrAt l i).2) := by
  have hl := wrCells_length l
  obtain ⟨b, o, rfl, hlt, hc⟩ := h (by omega)
  obtain ⟨h1, h2⟩ := wrCells_get l i hi
  refine ⟨b, o, rfl, hlt, ?_, ?_⟩
  · rw [hc (i * 2) (by omega), Nat.mul_comm i 2, h1]
  · rw [Nat.add_assoc, hc (i * 2 + 1) (by omega), Nat.mul_comm i 2, h2]

set_option maxHeartbeats 1600000 in
set_option maxRecDepth 100000 in
theorem sameWrites_any (A B : Option Addr) (ca cb : Nat) (a b : List Wr) (w : World) (hl : a.length ≤ 100000) (ha : RowA w A (wrCells a)) (hb : RowA w B (wrCells b)) :
    Calls Tryd.prog 54 #[.slice A a.length ca, .slice B b.length cb] w fun e w' => e = .returned (.bool (decide (a = b))) ∧ Below w.heap.size w w' := by
  have HA := Lib.hid ha
  have HB := Lib.hid hb
  clear ha hb
  by_cases hlen : a.length = b.length
  · have hne : ((a.length : Int) != (b.length : Int)) = false := by simp [hlen]
    have HL := Lib.hid hlen
    clear hlen
    go_enter Tryd.func54, Tryd.ntmps54
    go_wp2
    go_loopw [5] (fun x wr => ∃ k : Nat, x = .int .i64 k ∧ k ≤ a.length ∧ a.take k = b.take k ∧ Below w.heap.size w wr) (fun x _ => a.length - (intOf x).toNat)
    case atStart => exact ⟨0, rfl, Nat.zero_le _, by simp, Below.refl _ _⟩
    case round =>
      obtain ⟨k, rfl, hk, htk, hbw⟩ := hrel
      have HT := Lib.hid htk
      have HBW := Lib.hid hbw
      clear htk hbw
      by_cases hka : k < a.length
      · have hkb : k < b.length := by have := HL.out; omega
        obtain ⟨b1, o1, rfl, hb1, hc1, hc2⟩ := writes_at (HA.out.keep HBW.out) k hka
        obtain ⟨b2, o2, rfl, hb2, hd1, hd2⟩ := writes_at (HB.out.keep HBW.out) k hkb
        have HST : Hid (wrAt a k = wrAt b k → a.take (k + 1) = b.take (k + 1)) := fun e => same_step noWr a b k hka hkb HT.out e
        have HNE : Hid (wrAt a k ≠ wrAt b k → a ≠ b) := fun e h => e (by rw [h])
        obtain ⟨⟨u, r⟩, hx⟩ : ∃ x, x = wrAt a k := ⟨_, rfl⟩
        obtain ⟨⟨u', r'⟩, hx'⟩ : ∃ x, x = wrAt b k := ⟨_, rfl⟩
        rw [← hx] at hc1 hc2 HST HNE
        rw [← hx'] at hd1 hd2 HST HNE
        clear hx hx'
        dsimp only at hc1 hc2 hd1 hd2
        have hneq := neq_write u u' r r'
        by_cases he : (u, r) = (u', r')
        · have hd : decide ((u, r) = (u', r')) = true := decide_eq_true he
          rw [hd] at hneq
          have HE := Lib.hid he
          clear hd he
          go_wp2
          go_quiet (fail)
          go_wp2
          exact ⟨⟨k + 1, by go_num, by omega, HST.out HE.out, HBW.out.trans (below_drewN (Below.refl _ _) _)⟩, by simp [intOf]; omega⟩
        · have hd : decide ((u, r) = (u', r')) = false := decide_eq_false he
          rw [hd] at hneq
          have HE := Lib.hid he
          clear hd he
          go_wp2
          go_quiet (fail)
          go_wp2
          go_ret
          exact ⟨ret_bool (decide_eq_false (HNE.out HE.out)).symm, HBW.out.trans (below_drewN (Below.refl _ _) _)⟩
      · have hkb : b.length ≤ k := by have := HL.out; omega
        have HD : Hid (true = decide (a = b)) := by
          show _ = _
          have h := HT.out
          rw [List.take_of_length_le (by omega), List.take_of_length_le hkb] at h
          exact (decide_eq_true h).symm
        go_wp2
        go_ret
        exact ⟨ret_bool HD.out, HBW.out⟩
  · have hne : ((a.length : Int) != (b.length : Int)) = true := by simp only [bne_iff_ne, ne_eq]; omega
    have hd : decide (a = b) = false := decide_eq_false (fun h => hlen (by rw [h]))
    rw [hd]
    clear hlen hd
    go_enter Tryd.func54, Tryd.ntmps54
    go_wp2
    go_ret
    exact ⟨rfl, Below.refl _ _⟩
end Go.Proofs.YtnkhifgppcnmkaaDoor

/- Walks of chapter 18: small. -/
namespace Go.Proofs.YtnkhifgppcnmkaaDoor
open Go.RowKit Iv

def shortE (l : List ByteArray) : Bool := decide (l.length ≤ 40) && l.all fun s => decide (s.size ≤ 300)

set_option maxHeartbeats 1600000 in
theorem shortE_any (A : Option Addr) (c : Nat) (l : List ByteArray) (w : World) (hl : l.length ≤ 9223372036854775807) (hs : StrsA w A l) :
    Calls Tryd.prog 55 #[.slice A l.length c, .int .i64 40, .int .i64 300] w fun e w' => e = .returned (.bool (shortE l)) ∧ w' = w := by
  by_cases h40 : l.length ≤ 40
  · have HS := Lib.hid hs
    have HSH : Hid (∀ k, k < l.length → 300 < (l.getD k ByteArray.empty).size → shortE l = false) := by
      show ∀ _, _
      intro k hk h
      unfold shortE
      rw [Bool.and_eq_false_iff]
      right
      rw [List.all_eq_false]
      refine ⟨l[k], List.getElem_mem hk, ?_⟩
      have h1 : l.getD k ByteArray.empty = l[k] := by simp [List.getD, hk]
      rw [h1] at h
      simp; omega
    have HOK : Hid ((∀ k, k < l.length → (l.getD k ByteArray.empty).size ≤ 300) → shortE l = true) := by
      show _ → _
      intro h
      unfold shortE
      rw [Bool.and_eq_true]
      refine ⟨by simpa using h40, ?_⟩
      rw [List.all_eq_true]
      intro s hs
      obtain ⟨k, hk, rfl⟩ := List.getElem_of_mem hs
      have := h k hk
      have h1 : l.getD k ByteArray.empty = l[k] := by simp [List.getD, hk]
      rw [h1] at this
      simpa using this
    clear hs hl
    obtain ⟨n, hn⟩ : ∃ n, n = l.length := ⟨_, rfl⟩
    rw [← hn] at h40 HSH HOK ⊢
    have HN := Lib.hid hn
    clear hn
    go_enter Tryd.func55, Tryd.ntmps55
    go_wp2
    go_loop [7] (fun i => ∃ k : Nat, k ≤ n ∧ i = .int .i64 k ∧ ∀ j, j < k → (l.getD j ByteArray.empty).size ≤ 300) (fun i => n - (intOf i).toNat)
    case atStart => exact ⟨0, by omega, rfl, fun j hj => by omega⟩
    case round =>
      obtain ⟨k, hk, rfl, hall⟩ := hrel
      have HALL := Lib.hid hall
      clear hall
      by_cases hlt : k < n
      · obtain ⟨b, o, rfl, _, hc⟩ := HS.out (by have := HN.out; omega)
        have hck := hc k (by have := HN.out; omega)
        clear hc
        have HBAD := Lib.hid (HSH.out k hlt)
        have HGOOD : Hid ((l.getD k ByteArray.empty).size ≤ 300 → ∀ j, j < k + 1 → (l.getD j ByteArray.empty).size ≤ 300) := by
          show _ → _
          intro h j hj
          rcases Nat.lt_or_ge j k with h1 | h1
          · exact HALL.out j h1
          · obtain rfl : j = k := by omega
            exact h
        obtain ⟨x, hx⟩ : ∃ x, x = l.getD k ByteArray.empty := ⟨_, rfl⟩
        rw [← hx] at hck HBAD HGOOD
        clear hx
        by_cases hx6 : x.size ≤ 300
        · have HG := Lib.hid (HGOOD.out hx6)
          have hx7 : (x.size : Int) ≤ 300 := by omega
          go_wp2
          exact ⟨⟨k + 1, by omega, by go_num, HG.out⟩, by simp [intOf]; omega⟩
        · have HB := Lib.hid (HBAD.out (by omega))
          have hx7 : 300 < (x.size : Int) := by omega
          clear hx6
          go_wp2
          go_ret
          exact ⟨ret_bool HB.out.symm, rfl⟩
      · have hkn : k = n := by omega
        have HT := Lib.hid (HOK.out (fun j hj => HALL.out j (by omega)))
        go_wp2
        go_ret
        exact ⟨ret_bool HT.out.symm, rfl⟩
  · have hd : shortE l = false := by unfold shortE; simp; omega
    rw [hd]
    have h2 : (40 : Int) < (l.length : Int) := by omega
    clear h40 hd
    go_enter Tryd.func55, Tryd.ntmps55
    go_wp2
    go_ret
    exact ⟨rfl, rfl⟩


theorem smallE_any (A : Option Addr) (c : Nat) (l : List ByteArray) (w : World) (hl : l.length ≤ 9223372036854775807) (hs : StrsA w A l) :
    Calls Tryd.prog 51 #[.slice A l.length c] w fun e w' => e = .returned (.bool (shortE l)) ∧ w' = w := by
  go_enter Tryd.func51, Tryd.ntmps51
  go_wp2_with fail
  refine (shortE_any A c l w hl hs).mono ?_
  rintro e w' ⟨rfl, rfl⟩
  go_wp2
  go_ret
  exact ⟨rfl, rfl⟩
end Go.Proofs.YtnkhifgppcnmkaaDoor

/- Walks of chapter 18: Put. -/
namespace Go.Proofs.YtnkhifgppcnmkaaDoor
open Go.RowKit Iv

/-- The pages after the growth for a write of page n. -/
def growOf (p : List ByteArray) (n : Int) : List ByteArray := if (p.length : Int) ≤ n ∧ n < 10000 then p ++ List.replicate ((n + 1).toNat - p.length) ByteArray.empty else p
/-- One write. -/
def putOne (p : List ByteArray) (x : Wr) : List ByteArray := if 0 ≤ x.1 ∧ x.1 < ((growOf p x.1).length : Int) then (growOf p x.1).set x.1.toNat x.2 else growOf p x.1
/-- What Put answers. -/
def putOf (p : List ByteArray) (ws : List Wr) : List ByteArray := ws.foldl putOne p

theorem putOf_succ (p : List ByteArray) (ws : List Wr) (k : Nat) (hk : k < ws.length) : putOf p (ws.take (k + 1)) = putOne (putOf p (ws.take k)) (wrAt ws k) := by
  unfold putOf wrAt
  rw [List.take_succ_eq_append_getElem hk, List.foldl_append]
  simp [List.getD, hk]

theorem growOf_le (p : List ByteArray) (n : Int) (h : p.length ≤ 20000) : (growOf p n).length ≤ 20000 := by
  unfold growOf
  split
  · rw [List.length_append, List.length_replicate]; omega
  · exact h
theorem putOne_le (p : List ByteArray) (x : Wr) (h : p.length ≤ 20000) : (putOne p x).length ≤ 20000 := by
  have := growOf_le p x.1 h
  unfold putOne
  split
  · rw [List.length_set]; exact this
  · exact this

theorem grow_done (p : List ByteArray) (n : Int) (j : Nat) (hj : j = 0 ∨ ((p.length + j : Nat) : Int) ≤ n + 1 ∧ n < 10000) (h : ¬ (((p ++ List.replicate j ByteArray.empty).length : Int) ≤ n ∧ n < 10000)) : growOf p n = p ++ List.replicate j ByteArray.empty := by
  rw [List.length_append, List.length_replicate] at h
  unfold growOf
  rcases hj with rfl | ⟨h1, h2⟩
  · rw [if_neg (by simpa using h)]; simp
  · rcases Nat.eq_zero_or_pos j with rfl | h0
    · rw [if_neg (by simpa using h)]; simp
    · rw [if_pos (by omega), show (n + 1).toNat - p.length = j by omega]

def vlen : Value → Nat
  | .slice _ n _ => n
  | _ => 0

theorem own_snocS {B n : Nat} {w : World} {v : Value} {l : List ByteArray} {r : ByteArray} (hn : n = l.length) (h : w.ownsRow B 9 1 v (n + 1) (l.map Value.string ++ [Value.string r])) : OwnS B w v (l ++ [r]) := by
  subst hn
  unfold OwnS
  rw [List.length_append, List.length_singleton, List.map_append]
  exact h

theorem own_set {B g N c i : Nat} {w : World} {q : List ByteArray} {pg : ByteArray} (hN : N = q.length) (h : OwnS B w (.slice (some ⟨g, 0, none⟩) N c) q) : OwnS B (w.setCell ⟨g, i, none⟩ (.string pg)) (.slice (some ⟨g, 0, none⟩) N c) (q.set i pg) := by
  subst hN
  have := (World.ownsRow.stored h i (.string pg)).1
  unfold OwnS
  rw [List.length_set, List.map_set]
  exact this

theorem own_first {B : Nat} {w : World} {v : Value} {l : List ByteArray} (h : w.ownsRow B 9 1 v (0 + l.length) ([] ++ l.map Value.string)) : OwnS B w v l := by
  unfold OwnS; simpa using h

set_option maxHeartbeats 1600000 in
set_option maxRecDepth 100000 in
theorem putM_any (M : Value) (m : List ByteArray) (A : Option Addr) (c : Nat) (ws : List Wr) (w : World) (hm : m.length ≤ 20000) (hMb : ∀ w', Below w.heap.size w w' → Cat w' M m.length (m.map Value.string)) (hws : ws.length ≤ 1000000) (hs : RowA w A (wrCells ws)) :
    Calls Tryd.prog 26 #[M, .slice A ws.length c] w fun e w' => ∃ v, e = .returned v ∧ OwnS w.heap.size w' v (putOf m ws) ∧ Below w.heap.size w w' := by
  have HS := Lib.hid hs
  have HM := Lib.hid hMb
  have HL0 : Hid (0 + m.length ≤ maxLen ∧ (0 + m.length) * 16 ≤ 140737488355328) := by show _ ∧ _; unfold maxLen; omega
  clear hs hMb
  go_enter Tryd.func26, Tryd.ntmps26
  go_wp2_with (first | (at_builtin; refine wpl_cat elemMem rfl _ _ rfl w.heap.size (.slice (some ⟨w.heap.size, 0, none⟩) 0 0) 0 [] rfl (own_empty (Nat.le_refl _) (heap_alloc_new w _)) (by simp) M m.length (m.map Value.string) rfl (HM.out _ ((Below.refl _ _).alloc (Nat.le_refl _) _)) (by simp) (strs_one m) HL0.out.1 HL0.out.2 ?_; intro v1 w1 hown1 hgr1; have HB1 : Hid (Below w.heap.size w w1) := below_grown ((Below.refl _ _).alloc (Nat.le_refl _) _) hgr1 (own_empty (e := 9) (size := 1) (Nat.le_refl _) (heap_alloc_new w _)); have HO1 : Hid (OwnS w.heap.size w1 v1 m) := own_first hown1; clear hown1 hgr1) | fail)
  go_loopw [5, 6] (fun x y wr => ∃ (k : Nat) (p : List ByteArray), y = .int .i64 k ∧ k ≤ ws.length ∧ p = putOf m (ws.take k) ∧ p.length ≤ 20000 ∧ OwnS w.heap.size wr x p ∧ Below w.heap.size w wr) (fun _ y _ => ws.length - (intOf y).toNat)
  case atStart => exact ⟨0, m, rfl, Nat.zero_le _, rfl, hm, HO1.out, HB1.out⟩
  case round =>
    obtain ⟨k, p, rfl, hk, hp, hpl, ho, hb⟩ := hrel
    have HP := Lib.hid hp
    have HB := Lib.hid hb
    have HO := Lib.hid ho
    clear hp hb ho
    by_cases hkl : k < ws.length
    · obtain ⟨b, o, rfl, hb1, hc1, hc2⟩ := writes_at HS.out k hkl
      have HPS : Hid (putOf m (ws.take (k + 1)) = putOne p (wrAt ws k)) := by show _ = _; rw [putOf_succ m ws k hkl, ← HP.out]
      obtain ⟨⟨n, pg⟩, hx⟩ : ∃ x, x = wrAt ws k := ⟨_, rfl⟩
      rw [← hx] at hc1 hc2 HPS
      clear hx
      dsimp only at hc1 hc2
      have HC : Hid (∀ w', Below w.heap.size w w' → w'.cell? ⟨b, o + k * 2, none⟩ = some (.int .i64 n) ∧ w'.cell? ⟨b, o + k * 2 + 1, none⟩ = some (.string pg)) := fun w' hb => ⟨(hb.cell (p := ⟨b, o + k * 2, none⟩) hb1).trans hc1, (hb.cell (p := ⟨b, o + k * 2 + 1, none⟩) hb1).trans hc2⟩
      clear hc1 hc2
      go_wp2
      go_loopw [5] (fun x wq => ∃ j : Nat, (j = 0 ∨ ((p.length + j : Nat) : Int) ≤ n + 1 ∧ n < 10000) ∧ OwnS w.heap.size wq x (p ++ List.replicate j ByteArray.empty) ∧ Below w.heap.size w wq) (fun x _ => (n + 1 - vlen x).toNat)
      case atStart => exact ⟨0, .inl rfl, by simpa using HO.out, HB.out⟩
      case round =>
        obtain ⟨j, hj, ho, hb⟩ := hrel
        have HJ := Lib.hid hj
        have hql : (p ++ List.replicate j ByteArray.empty).length ≤ 20000 := by rw [List.length_append, List.length_replicate]; omega
        have HBQ := Lib.hid hb
        obtain ⟨hc1, hc2⟩ := HC.out _ hb
        obtain ⟨q, hq⟩ : ∃ q, q = p ++ List.replicate j ByteArray.empty := ⟨_, rfl⟩
        have HGD : Hid (¬ ((q.length : Int) ≤ n ∧ n < 10000) → growOf p n = q) := by
          show _ → _
          rw [hq]; exact grow_done p n j hj
        rw [← hq] at ho hql
        have HQ := Lib.hid hq
        obtain ⟨A5, c5, rfl, hr5, _⟩ := own_row ho
        have HOQ := Lib.hid ho
        clear hj hb hq ho hr5
        obtain ⟨N, hN⟩ : ∃ N, N = q.length := ⟨_, rfl⟩
        rw [← hN] at HOQ HGD hql ⊢
        have HN := Lib.hid hN
        clear hN
        by_cases h1 : (N : Int) ≤ n
        · have d1 : decide ((N : Int) ≤ n) = true := decide_eq_true h1
          by_cases h2 : n < 10000
          · have d2 : decide (n < 10000) = true := decide_eq_true h2
            have HOW : Hid (wr.ownsRow w.heap.size 9 1 (.slice A5 N c5) N (q.map Value.string)) := by
              have := HOQ.out
              unfold OwnS at this
              rw [← HN.out] at this
              exact this
            clear h2
            go_wp2_with (first | (at_builtin; refine wpl_pushH elemMem rfl _ _ rfl (.slice A5 N c5) N (q.map Value.string) [.string { data := #[] }] rfl HOW.out HBQ.out _ rfl rfl rfl (by simp [Value.oneCell']) (by unfold maxLen; omega) (by omega) ?_; intro g cap w7 hown7 hb7; have HO7 := Lib.hid hown7; have HB7 := Lib.hid hb7; clear hown7 hb7))
            refine ⟨⟨j + 1, .inr ?_, ?_, HB7.out⟩, ?_⟩
            · have := HN.out
              rw [HQ.out, List.length_append, List.length_replicate] at this
              exact ⟨by omega, by simpa using d2⟩
            · rw [List.replicate_succ', ← List.append_assoc, ← HQ.out]
              exact own_snocS HN.out HO7.out
            · simp [vlen]; omega
          · have d2 : decide (n < 10000) = false := decide_eq_false h2
            have HG := Lib.hid (HGD.out (by omega))
            clear h2
            by_cases h3 : 0 ≤ n
            · have d3 : decide (0 ≤ n) = true := decide_eq_true h3
              by_cases h4 : n < (N : Int)
              · omega
              · have d4 : decide (n < (N : Int)) = false := decide_eq_false h4
                have HPE : Hid (putOf m (ws.take (k + 1)) = q) := by
                  show _ = _
                  rw [HPS.out]
                  unfold putOne
                  rw [HG.out, if_neg (by rw [← HN.out]; omega)]
                clear h3 h4
                go_wp2
                exact ⟨⟨k + 1, putOf m (ws.take (k + 1)), by go_num, by omega, rfl, by rw [HPE.out, ← HN.out]; exact hql, by rw [HPE.out]; exact HOQ.out, HBQ.out⟩, by simp [intOf]; omega⟩
            · have d3 : decide (0 ≤ n) = false := decide_eq_false h3
              have HPE : Hid (putOf m (ws.take (k + 1)) = q) := by
                show _ = _
                rw [HPS.out]
                unfold putOne
                rw [HG.out, if_neg (by omega)]
              clear h3
              go_wp2
              exact ⟨⟨k + 1, putOf m (ws.take (k + 1)), by go_num, by omega, rfl, by rw [HPE.out, ← HN.out]; exact hql, by rw [HPE.out]; exact HOQ.out, HBQ.out⟩, by simp [intOf]; omega⟩
        · have d1 : decide ((N : Int) ≤ n) = false := decide_eq_false h1
          have HG := Lib.hid (HGD.out (by omega))
          clear h1
          by_cases h3 : 0 ≤ n
          · have d3 : decide (0 ≤ n) = true := decide_eq_true h3
            by_cases h4 : n < (N : Int)
            · have d4 : decide (n < (N : Int)) = true := decide_eq_true h4
              obtain ⟨i, rfl⟩ : ∃ i : Nat, n = i := ⟨n.toNat, by omega⟩
              have hi : i < N := by omega
              obtain ⟨g, cap, hv, _, hg⟩ := World.ownsRow.form HOQ.out (by rw [← HN.out]; omega)
              simp only [Value.slice.injEq] at hv
              obtain ⟨rfl, hN0, rfl⟩ := hv
              clear hN0
              have HOW : Hid (wr.ownsRow w.heap.size 9 1 (.slice (some ⟨g, 0, none⟩) N c5) N (q.map Value.string)) := by
                have := HOQ.out
                unfold OwnS at this
                rw [← HN.out] at this
                exact this
              have y1 : wr.frozen? ⟨g, i, none⟩ = false := World.ownsRow.frozenAt HOW.out i
              obtain ⟨z, y2⟩ : ∃ z, wr.cell? ⟨g, i, none⟩ = some z := ⟨(q.map Value.string)[i]'(by rw [List.length_map, ← HN.out]; exact hi), by rw [World.ownsRow.cellAt HOW.out i (by omega)]; exact List.getElem?_eq_getElem _⟩
              have hgw : w.heap.size ≤ g := (World.ownsRow.lt HOW.out g rfl).1
              have hgb : g ≠ b := by omega
              have HPE : Hid (putOf m (ws.take (k + 1)) = q.set i pg) := by
                show _ = _
                rw [HPS.out]
                unfold putOne
                rw [HG.out, if_pos (by rw [← HN.out]; omega)]
                simp
              clear h3 h4
              go_wp2
              go_region
              go_wp2
              exact ⟨⟨k + 1, putOf m (ws.take (k + 1)), by go_num, by omega, rfl, by rw [HPE.out, List.length_set, ← HN.out]; exact hql, by rw [HPE.out]; exact own_keep (own_set HN.out HOQ.out) (Below.refl _ _).drew, (HBQ.out.setCell hgw _).drew⟩, by simp [intOf]; omega⟩
            · have d4 : decide (n < (N : Int)) = false := decide_eq_false h4
              have HPE : Hid (putOf m (ws.take (k + 1)) = q) := by
                show _ = _
                rw [HPS.out]
                unfold putOne
                rw [HG.out, if_neg (by rw [← HN.out]; omega)]
              clear h3 h4
              go_wp2
              exact ⟨⟨k + 1, putOf m (ws.take (k + 1)), by go_num, by omega, rfl, by rw [HPE.out, ← HN.out]; exact hql, by rw [HPE.out]; exact HOQ.out, HBQ.out⟩, by simp [intOf]; omega⟩
          · have d3 : decide (0 ≤ n) = false := decide_eq_false h3
            have HPE : Hid (putOf m (ws.take (k + 1)) = q) := by
              show _ = _
              rw [HPS.out]
              unfold putOne
              rw [HG.out, if_neg (by omega)]
            clear h3
            go_wp2
            exact ⟨⟨k + 1, putOf m (ws.take (k + 1)), by go_num, by omega, rfl, by rw [HPE.out, ← HN.out]; exact hql, by rw [HPE.out]; exact HOQ.out, HBQ.out⟩, by simp [intOf]; omega⟩
    · have hkn : k = ws.length := by omega
      have HP2 : Hid (p = putOf m ws) := by show _ = _; rw [HP.out, hkn, List.take_of_length_le (Nat.le_refl _)]
      clear hkl
      go_wp2
      go_ret
      exact ⟨_, rfl, by rw [← HP2.out]; exact HO.out, HB.out⟩
end Go.Proofs.YtnkhifgppcnmkaaDoor

/- Walks of chapter 18: Ints. -/
namespace Go.Proofs.YtnkhifgppcnmkaaDoor
open Go.RowKit Iv

set_option maxHeartbeats 1600000 in
set_option maxRecDepth 100000 in
theorem sameInts_any (A B : Option Addr) (ca cb : Nat) (a b : List Int) (w : World) (hl : a.length ≤ 100000) (ha : RowA w A (a.map (Value.int .i64))) (hb : RowA w B (b.map (Value.int .i64))) :
    Calls Tryd.prog 63 #[.slice A a.length ca, .slice B b.length cb] w fun e w' => e = .returned (.bool (decide (a = b))) ∧ Below w.heap.size w w' := by
  have HA := Lib.hid ha
  have HB := Lib.hid hb
  clear ha hb
  by_cases hlen : a.length = b.length
  · have hne : ((a.length : Int) != (b.length : Int)) = false := by simp [hlen]
    have HL := Lib.hid hlen
    clear hlen
    go_enter Tryd.func63, Tryd.ntmps63
    go_wp2
    go_loopw [5] (fun x wr => ∃ k : Nat, x = .int .i64 k ∧ k ≤ a.length ∧ a.take k = b.take k ∧ Below w.heap.size w wr) (fun x _ => a.length - (intOf x).toNat)
    case atStart => exact ⟨0, rfl, Nat.zero_le _, by simp, Below.refl _ _⟩
    case round =>
      obtain ⟨k, rfl, hk, htk, hbw⟩ := hrel
      have HT := Lib.hid htk
      have HBW := Lib.hid hbw
      clear htk hbw
      by_cases hka : k < a.length
      · have hkb : k < b.length := by have := HL.out; omega
        obtain ⟨b1, o1, rfl, hb1, hc1⟩ := (HA.out.keep HBW.out) (by rw [List.length_map]; omega)
        obtain ⟨b2, o2, rfl, hb2, hd1⟩ := (HB.out.keep HBW.out) (by rw [List.length_map]; omega)
        replace hc1 := hc1 k (by rw [List.length_map]; omega)
        replace hd1 := hd1 k (by rw [List.length_map]; omega)
        have e1 : (a.map (Value.int .i64))[k]? = some (.int .i64 (a.getD k 0)) := by simp [List.getD, hka]
        have e2 : (b.map (Value.int .i64))[k]? = some (.int .i64 (b.getD k 0)) := by simp [List.getD, hkb]
        rw [e1] at hc1
        rw [e2] at hd1
        clear e1 e2
        have HST : Hid (a.getD k 0 = b.getD k 0 → a.take (k + 1) = b.take (k + 1)) := fun e => same_step 0 a b k hka hkb HT.out e
        have HNE : Hid (a.getD k 0 ≠ b.getD k 0 → a ≠ b) := fun e h => e (by rw [h])
        obtain ⟨x, hx⟩ : ∃ x, x = a.getD k 0 := ⟨_, rfl⟩
        obtain ⟨y, hy⟩ : ∃ y, y = b.getD k 0 := ⟨_, rfl⟩
        rw [← hx] at hc1 HST HNE
        rw [← hy] at hd1 HST HNE
        clear hx hy
        by_cases he : x = y
        · have hd : (x != y) = false := by simp [he]
          have HE := Lib.hid he
          clear he
          go_wp2
          go_quiet (fail)
          go_wp2
          exact ⟨⟨k + 1, by go_num, by omega, HST.out HE.out, HBW.out.trans (below_drewN (Below.refl _ _) _)⟩, by simp [intOf]; omega⟩
        · have hd : (x != y) = true := by simp [he]
          have HE := Lib.hid he
          clear he
          go_wp2
          go_quiet (fail)
          go_wp2
          go_ret
          exact ⟨ret_bool (decide_eq_false (HNE.out HE.out)).symm, HBW.out.trans (below_drewN (Below.refl _ _) _)⟩
      · have hkb : b.length ≤ k := by have := HL.out; omega
        have HD : Hid (true = decide (a = b)) := by
          show _ = _
          have h := HT.out
          rw [List.take_of_length_le (by omega), List.take_of_length_le hkb] at h
          exact (decide_eq_true h).symm
        go_wp2
        go_ret
        exact ⟨ret_bool HD.out, HBW.out⟩
  · have hne : ((a.length : Int) != (b.length : Int)) = true := by simp only [bne_iff_ne, ne_eq]; omega
    have hd : decide (a = b) = false := decide_eq_false (fun h => hlen (by rw [h]))
    rw [hd]
    clear hlen hd
    go_enter Tryd.func63, Tryd.ntmps63
    go_wp2
    go_ret
    exact ⟨rfl, Below.refl _ _⟩
end Go.Proofs.YtnkhifgppcnmkaaDoor

/- Walks of chapter 18: text, the closure of Places, IndexFunc. -/
namespace Go.Proofs.YtnkhifgppcnmkaaDoor
open Go.RowKit Iv

set_option maxHeartbeats 800000 in
set_option maxRecDepth 100000 in
theorem text_any (k : Nat) (w : World) (hk : k ≤ 1000) :
    Calls Tryd.prog 104 #[.int .i64 k] w fun e w' => e = .returned (.string (ofL (List.replicate k 0))) ∧ Below w.heap.size w w' := by
  by_cases h0 : k = 0
  · subst h0
    have hmk : ∀ w : World, (Instr.makeSlice 57 (.int .i64 0) (.int .i64 0)).run Tryd.prog w = .ok (.slice (some ⟨w.heap.size, 0, none⟩) 0 0) (w.alloc (.cells (madeCells #[.int .u8 0] 0) 5)) := make_bytes 0 (by omega)
    have hcv := conv_zeros w 0
    go_enter Tryd.func104, Tryd.ntmps104
    go_wp2
    go_ret
    exact ⟨rfl, (Below.refl _ _).alloc (Nat.le_refl _) _⟩
  · have hpos : 0 < k := by omega
    have hmk := make_bytes k (by omega)
    have hcv := conv_zeros w k
    go_enter Tryd.func104, Tryd.ntmps104
    go_wp2
    go_ret
    exact ⟨rfl, (Below.refl _ _).alloc (Nat.le_refl _) _⟩

set_option maxHeartbeats 800000 in
set_option maxRecDepth 100000 in
theorem places1_any (pv : Value) (h : Hd) (d : Ds) (g : Nat) (n : Int) (w : World) (hg : w.heap[g]? = some (.cells (clCells pv h d) 146 (0, 0))) :
    Calls Tryd.prog 113 #[.int .i64 n, .pointer (some ⟨g, 0, none⟩)] w fun e w' => e = .returned (.bool !(inB n 1 d.len)) ∧ Below w.heap.size w w' := by
  have HG := Lib.hid hg
  have hds := clCells_size pv h d
  clear hg
  go_enter Tryd.func113, Tryd.ntmps113
  go_wp2_with (first | (refine wpl_load_row 146 _ rfl rfl g rfl 146 (clCells pv h d) (0, 0) _ HG.out Tryd.underlying146 (by rw [clCells_size]; exact info146) ?_) | fail)
  refine (allowedC_any pv h d n _).mono ?_
  rintro e w' ⟨rfl, hb⟩
  go_wp2
  go_ret
  exact ⟨rfl, hb⟩

set_option maxHeartbeats 800000 in
set_option maxRecDepth 100000 in
theorem indexFunc_any (pv : Value) (h : Hd) (d : Ds) (g : Nat) (A : Option Addr) (c : Nat) (ns : List Int) (w : World) (hl : ns.length ≤ 1000000) (hs : RowA w A (ns.map (Value.int .i64))) (hg : w.heap[g]? = some (.cells (clCells pv h d) 146 (0, 0))) :
    Calls Tryd.prog 148 #[.slice A ns.length c, .func (.func 113) #[] #[.pointer (some ⟨g, 0, none⟩)]] w fun e w' => ∃ k : Int, e = .returned (.int .i64 k) ∧ decide (0 ≤ k) = ns.any (fun n => !(inB n 1 d.len)) ∧ Below w.heap.size w w' := by
  have HS := Lib.hid hs
  have HG := Lib.hid hg
  have hgl := blk_lt hg
  have HGL := Lib.hid hgl
  have HPL : Hid (∀ n w', Below w.heap.size w w' → Calls Tryd.prog 113 #[.int .i64 n, .pointer (some ⟨g, 0, none⟩)] w' fun e w'' => e = .returned (.bool !(inB n 1 d.len)) ∧ Below w'.heap.size w' w'') := fun n w' hb => places1_any pv h d g n w' ((hb.block g HGL.out).trans HG.out)
  clear hs hg hgl
  go_enter Tryd.func148, Tryd.ntmps148
  go_wp2
  go_loopw [8] (fun x wr => ∃ k : Nat, x = .int .i64 k ∧ k ≤ ns.length ∧ (∀ n ∈ ns.take k, inB n 1 d.len = true) ∧ Below w.heap.size w wr) (fun x _ => ns.length - (intOf x).toNat)
  case atStart => exact ⟨0, rfl, Nat.zero_le _, by simp, Below.refl _ _⟩
  case round =>
    obtain ⟨k, rfl, hk, hall, hb⟩ := hrel
    have HALL := Lib.hid hall
    have HB := Lib.hid hb
    clear hall hb
    by_cases hkl : k < ns.length
    · obtain ⟨b, o, rfl, hb1, hc1⟩ := HS.out (by rw [List.length_map]; omega)
      have e1 : (ns.map (Value.int .i64))[k]? = some (.int .i64 (ns.getD k 0)) := by simp [List.getD, hkl]
      have hck := (HB.out.cell (p := ⟨b, o + k, none⟩) hb1).trans ((hc1 k (by rw [List.length_map]; omega)).trans e1)
      have HMEM : Hid (ns.getD k 0 ∈ ns ∧ ns.take (k + 1) = ns.take k ++ [ns.getD k 0]) := by
        show _ ∧ _
        exact ⟨by simp [List.getD, hkl], by rw [List.take_succ_eq_append_getElem hkl]; simp [List.getD, hkl]⟩
      obtain ⟨n, hn⟩ : ∃ n, n = ns.getD k 0 := ⟨_, rfl⟩
      rw [← hn] at hck HMEM
      obtain ⟨bn, hbn⟩ : ∃ bn, bn = inB n 1 d.len := ⟨_, rfl⟩
      have HBN := Lib.hid hbn
      clear e1 hc1 hn hbn
      go_wp2_with fail
      refine (HPL.out n _ HB.out).mono ?_
      rintro e w' ⟨rfl, hb2⟩
      rw [← HBN.out]
      have HB2 := Lib.hid (bstep HB.out hb2)
      clear hb2
      cases bn with
      | true =>
        go_wp2
        refine ⟨⟨k + 1, by go_num, by omega, ?_, HB2.out⟩, by simp [intOf]; omega⟩
        intro y hy
        rw [HMEM.out.2] at hy
        rcases List.mem_append.1 hy with hy | hy
        · exact HALL.out y hy
        · have : y = n := by simpa using hy
          rw [this, ← HBN.out]
      | false =>
        go_wp2
        go_ret
        refine ⟨k, rfl, ?_, HB2.out⟩
        rw [decide_eq_true (by omega)]
        symm
        rw [List.any_eq_true]
        exact ⟨n, HMEM.out.1, by rw [← HBN.out]; rfl⟩
    · have hkn : k = ns.length := by omega
      have HA : Hid (ns.any (fun n => !(inB n 1 d.len)) = false) := by
        show _ = _
        rw [List.any_eq_false]
        intro y hy
        have := HALL.out y (by rw [hkn, List.take_of_length_le (Nat.le_refl _)]; exact hy)
        simp [this]
      clear hkn
      go_wp2
      go_ret
      exact ⟨-1, rfl, by rw [HA.out]; rfl, HB.out⟩

set_option maxHeartbeats 800000 in
set_option maxRecDepth 100000 in
theorem containsFunc_any (pv : Value) (h : Hd) (d : Ds) (g : Nat) (A : Option Addr) (c : Nat) (ns : List Int) (w : World) (hl : ns.length ≤ 1000000) (hs : RowA w A (ns.map (Value.int .i64))) (hg : w.heap[g]? = some (.cells (clCells pv h d) 146 (0, 0))) :
    Calls Tryd.prog 112 #[.slice A ns.length c, .func (.func 113) #[] #[.pointer (some ⟨g, 0, none⟩)]] w fun e w' => e = .returned (.bool (ns.any (fun n => !(inB n 1 d.len)))) ∧ Below w.heap.size w w' := by
  have HI : Hid (∀ w', w' = w → Calls Tryd.prog 148 #[.slice A ns.length c, .func (.func 113) #[] #[.pointer (some ⟨g, 0, none⟩)]] w' fun e w'' => ∃ k : Int, e = .returned (.int .i64 k) ∧ decide (0 ≤ k) = ns.any (fun n => !(inB n 1 d.len)) ∧ Below w'.heap.size w' w'') := by
    show ∀ _, _
    rintro w' rfl
    exact indexFunc_any pv h d g A c ns w' hl hs hg
  clear hs hg
  go_enter Tryd.func112, Tryd.ntmps112
  go_wp2_with fail
  refine (HI.out _ rfl).mono ?_
  rintro e w' ⟨k, rfl, hk, hb⟩
  have HK := Lib.hid hk
  clear hk
  go_wp2
  go_ret
  exact ⟨ret_bool HK.out, hb⟩
end Go.Proofs.YtnkhifgppcnmkaaDoor

/- Walks of chapter 18: Places. -/
namespace Go.Proofs.YtnkhifgppcnmkaaDoor
open Go.RowKit Iv

/-- A record of n zeros. -/
def zer (n : Int) : ByteArray := ofL (List.replicate n.toNat 0)
/-- One length more. -/
def stepPl (itv : Int) (st : Hd × List ByteArray × List Int) (n : Int) : Hd × List ByteArray × List Int :=
  ({ st.1 with cnt := st.1.cnt + 1, fin := finOf st.1.fin itv st.2.1 (zer n) }, lastOf st.1.fin itv st.2.1 (zer n) ++ [zer n], st.2.2 ++ [atOf st.1.fin itv st.2.1 (zer n)])
/-- What Places answers. -/
def placesOf (m : List ByteArray) (h : Hd) (d : Ds) (ns : List Int) : List Int × Int :=
  if doorOf h d 1 ≠ 0 then ([], doorOf h d 1)
  else if ns.any (fun n => !(inB n 1 d.len)) = true then ([], 2)
  else if ns = [] then ([], 0)
  else if (endOfC m h d).2 ≠ 0 then ([], (endOfC m h d).2)
  else ((ns.foldl (stepPl d.itv) (h, (endOfC m h d).1, [])).2.2, 0)

theorem stepPl_len (itv : Int) (xs : List Int) : ∀ st : Hd × List ByteArray × List Int, (xs.foldl (stepPl itv) st).2.2.length = st.2.2.length + xs.length := by
  induction xs with
  | nil => intro st; rfl
  | cons x xs ih =>
    intro st
    rw [List.foldl_cons, ih]
    unfold stepPl
    rw [List.length_append, List.length_singleton, List.length_cons]
    omega

theorem own_of_block {B : Nat} {w w' : World} {e size n : Nat} {v : Value} {xs : List Value} (h : w.ownsRow B e size v n xs) (hk : ∀ q, v.ownBlock = some q → w'.heap[q]? = w.heap[q]?) : w'.ownsRow B e size v n xs := by
  refine ⟨h.1, ?_⟩
  rcases h.2 with ⟨rfl, h0⟩ | ⟨g, cap, cur, rfl, hb, hg, hr⟩
  · exact .inl ⟨rfl, h0⟩
  · exact .inr ⟨g, cap, cur, rfl, hb, (hk g rfl).trans hg, hr⟩

theorem last_small {itv : Int} {fin : Int} {l : List ByteArray} {r : ByteArray} (hr : r.size ≤ 200) : (lastOf fin itv l r ++ [r]).length ≤ 512 ∧ ∀ s ∈ lastOf fin itv l r ++ [r], s.size ≤ 512 := by
  unfold lastOf
  split
  · refine ⟨by simp, fun s hs => ?_⟩
    have : s = r := by simpa using hs
    subst this; omega
  · rename_i hf
    have : fitsOf itv (l ++ [r]) = true := by
      unfold freshOf at hf
      simp at hf
      exact hf.2
    exact fits_small this

/-- What Places answers, in memory. -/
def PlTo (w : World) (r : List Int × Int) (e : Ending) (w' : World) : Prop :=
  ∃ A c, e = .returned (.tuple #[.slice A r.1.length c, .int .i64 r.2]) ∧ w'.ownsRow w.heap.size 3 1 (.slice A r.1.length c) r.1.length (r.1.map (Value.int .i64)) ∧ Below w.heap.size w w'
theorem own_rowA {B n c e size : Nat} {w : World} {A : Option Addr} {xs : List Value} (h : w.ownsRow B e size (.slice A n c) n xs) : RowA w A xs := by
  obtain ⟨A0, c0, he, hr, _⟩ := own_row h
  cases he
  exact hr

theorem plTo_err (w w' : World) (k : Int) (h : Below w.heap.size w w') : PlTo w ([], k) (.returned (.tuple #[.slice none 0 0, .int .i64 k])) w' :=
  ⟨none, 0, rfl, World.ownsRow_nil _ _ _ _, h⟩

/-- The state of the loop of Places. -/
structure PlS (w wr : World) (g : Nat) (pv : Value) (d : Ds) (h0 : Hd) (k : Nat) (h : Hd) (l : List ByteArray) (out : List Int) (vl vo : Value) : Prop where
  en : EnRow w wr g pv h d vl l
  ol : l.length ≤ 512 ∧ ∀ s ∈ l, s.size ≤ 512
  fin : 0 ≤ h.fin ∧ h.fin ≤ h0.fin + k
  cnt : h.cnt = h0.cnt + k
  own : wr.ownsRow w.heap.size 3 1 vo out.length (out.map (Value.int .i64))
  dis : ∀ q, vo.ownBlock = some q → q ≠ g ∧ vl.ownBlock ≠ some q

theorem PlS.next {w wr w6 w7 : World} {g : Nat} {pv : Value} {d : Ds} {h0 : Hd} {k : Nat} {h h' : Hd} {l l' : List ByteArray} {out : List Int} {vl vo v' : Value} {a : Int} {g3 cap : Nat} {news : Obj}
    (S : PlS w wr g pv d h0 k h l out vl vo) (hen : EnRow w w6 g pv h' d v' l')
    (hkeep : ∀ q, q < wr.heap.size → q ≠ g → some q ≠ vl.ownBlock → w6.heap[q]? = wr.heap[q]?) (hown : ∀ q, q < wr.heap.size → v'.ownBlock = some q → vl.ownBlock = some q)
    (hol : l'.length ≤ 512 ∧ ∀ s ∈ l', s.size ≤ 512) (hfin : 0 ≤ h'.fin ∧ h'.fin ≤ h.fin + 1) (hcnt : h'.cnt = h.cnt + 1)
    (hrow : w7.ownsRow w.heap.size 3 1 (.slice (some ⟨g3, 0, none⟩) (out.length + 1) cap) (out.length + 1) (out.map (Value.int .i64) ++ [Value.int .i64 a]))
    (hg : (w6.alloc news).grownBy w7 vo.ownBlock) (hat : vo.ownBlock = some g3 ∨ g3 = w6.heap.size + 1) :
    PlS w w7 g pv d h0 (k + 1) h' l' (out ++ [a]) v' (.slice (some ⟨g3, 0, none⟩) (out.length + 1) cap) := by
  have hvo : ∀ q, vo.ownBlock = some q → q < wr.heap.size := fun q hq => (World.ownsRow.lt S.own q hq).2
  have hdis : ∀ q, v'.ownBlock = some q → some q ≠ vo.ownBlock := by
    intro q hq e
    exact (S.dis q e.symm).2 (hown q (hvo q e.symm) hq)
  have hgl := blk_lt hen.row
  have hout6 : w6.ownsRow w.heap.size 3 1 vo out.length (out.map (Value.int .i64)) := own_of_block S.own (fun q hq => hkeep q (hvo q hq) (S.dis q hq).1 (fun e => (S.dis q hq).2 e.symm))
  have hblk : ∀ q, q < w6.heap.size → some q ≠ vo.ownBlock → w7.heap[q]? = w6.heap[q]? := fun q hq hn => (hg.block q (by simp; omega) hn).trans (Below.heap_alloc _ _ _ hq)
  refine ⟨⟨(hblk g hgl (fun e => (S.dis g e.symm).1 rfl)).trans hen.row, own_of_block hen.own (fun q hq => hblk q (World.ownsRow.lt hen.own q hq).2 (hdis q hq)), hen.ne, below_grown (hen.bel.alloc hen.bel.size _) hg (World.ownsRow.alloc hout6 _), hen.le⟩, hol, ?_, ?_, ?_, ?_⟩
  · have := S.fin; omega
  · have := S.cnt; omega
  · rw [List.length_append, List.length_singleton, List.map_append]; exact hrow
  · intro q hq
    have e : g3 = q := Option.some.inj hq
    subst e
    rcases hat with h1 | h1
    · exact ⟨(S.dis g3 h1).1, fun e => hdis g3 e h1.symm⟩
    · refine ⟨by omega, fun e => ?_⟩
      have := (World.ownsRow.lt hen.own g3 e).2
      omega
theorem PlS.own6 {w wr w6 : World} {g : Nat} {pv : Value} {d : Ds} {h0 : Hd} {k : Nat} {h : Hd} {l : List ByteArray} {out : List Int} {vl vo : Value} (S : PlS w wr g pv d h0 k h l out vl vo)
    (hkeep : ∀ q, q < wr.heap.size → q ≠ g → some q ≠ vl.ownBlock → w6.heap[q]? = wr.heap[q]?) : w6.ownsRow w.heap.size 3 1 vo out.length (out.map (Value.int .i64)) :=
  own_of_block S.own (fun q hq => hkeep q (World.ownsRow.lt S.own q hq).2 (S.dis q hq).1 (fun e => (S.dis q hq).2 e.symm))

set_option maxHeartbeats 1600000 in
set_option maxRecDepth 100000 in
theorem places_any (A : Option Addr) (c : Nat) (m : List ByteArray) (h : Hd) (d : Ds) (Bn : Option Addr) (cn : Nat) (ns : List Int) (w : World) (hm : m.length ≤ 9223372036854775807) (hz : ∀ s ∈ m, s.size ≤ 1000) (hs : StrsA w A m) (hl : ns.length ≤ 1000000) (hn : RowA w Bn (ns.map (Value.int .i64))) :
    Calls Tryd.prog 58 #[memV A m.length c, .agg h.cells, .agg d.cells, .slice Bn ns.length cn] w (PlTo w (placesOf m h d ns)) := by
  have HOP : Hid (∀ w', Calls Tryd.prog 105 #[memV A m.length c, .agg h.cells, .agg d.cells] w' (OpenTo (memV A m.length c) h d w' (doorOf h d 1))) := fun w' => open_any A m.length c h d w'
  have HEN : Hid (∀ w', Below w.heap.size w w' → Calls Tryd.prog 107 #[.agg (clCells (memV A m.length c) h d)] w' (EndTo (memV A m.length c) h d w' (endOfC m h d))) := fun w' hb => theEnd_any A c m h d w' hm hz (hs.keep hb)
  have HCO : Hid (∀ h d, (clCells (memV A m.length c) h d).all (·.oneCell') = true) := fun h d => clCells_one A m.length c h d
  have HEO : Hid (∀ h d B k q, (enCells (memV A m.length c) h d (.slice B k q)).all (·.oneCell') = true) := fun h d B k q => enCells_one A m.length c h d B k q
  have HNS := Lib.hid hn
  obtain ⟨pv, hpv⟩ : ∃ pv, pv = memV A m.length c := ⟨_, rfl⟩
  rw [← hpv] at HOP HEN HCO HEO ⊢
  clear hpv hs hz hn
  have HG : Hid (((w.alloc (.cells h.cells 30)).alloc (.cells d.cells 23)).heap[w.heap.size + 1]? = some (.cells d.cells 23 (0, 0)) ∧ True) := ⟨heap_at_alloc (by simp), trivial⟩
  have hds := d.size
  have hhs := h.size
  obtain ⟨k, hk⟩ : ∃ k, k = doorOf h d 1 := ⟨_, rfl⟩
  rw [← hk] at HOP
  go_enter Tryd.func58, Tryd.ntmps58
  go_wp2_with (first | (refine wpl_load_row 23 _ rfl rfl (w.heap.size + 1) rfl 23 d.cells (0, 0) _ HG.out.1 Tryd.underlying23 (by rw [Ds.size]; exact info23) ?_) | (refine wpl_load_row 30 _ rfl rfl w.heap.size rfl 30 h.cells (0, 0) _ ((Below.heap_alloc _ _ _ (by simp)).trans (heap_alloc_new w _)) Tryd.underlying30 (by rw [Hd.size]; exact info30) ?_) | fail)
  refine (HOP.out _).mono ?_
  rintro e w1 ⟨cs, rfl, hcs0, hcs1, hb1⟩
  have HB1 := Lib.hid (bstep (((Below.refl _ _).alloc (Nat.le_refl _) _).alloc (by simp) _) hb1)
  clear hb1
  by_cases hk0 : k = 0
  · obtain rfl := hcs0 hk0
    obtain ⟨hv, hp⟩ := door_zero (hk.symm.trans hk0)
    obtain ⟨hc0, hc1, hf0, hf1⟩ := plain_facts hp
    obtain ⟨hi0, hi1, hlen⟩ := valid_facts hv
    have HD0 : Hid (doorOf h d 1 = 0) := hk.symm.trans hk0
    clear hv hp hk hcs0 hcs1
    subst hk0
    obtain ⟨bb, hbb⟩ : ∃ bb, bb = ns.any (fun n => !(inB n 1 d.len)) := ⟨_, rfl⟩
    have HBB := Lib.hid hbb
    clear hbb
    go_wp2_with (first | (refine wpl_store_fresh rfl 146 _ _ rfl (clCells pv h d) rfl 146 _ rfl (by rw [clCells_size]; exact info146) rfl (HCO.out _ _) ?_; intro w2 hg2 hb2 hs2; have HB2 := Lib.hid (bstep HB1.out hb2); have HGC2 := Lib.hid hg2; clear hg2 hb2 hs2) | fail)
    refine (containsFunc_any pv h d w1.heap.size Bn cn ns _ hl (HNS.out.keep HB2.out) HGC2.out).mono ?_
    rintro e w3 ⟨rfl, hb3⟩
    rw [← HBB.out]
    have HB3 := Lib.hid (bstep HB2.out hb3)
    have HGC3 := Lib.hid ((hb3.block _ (blk_lt HGC2.out)).trans HGC2.out)
    clear hb3
    cases bb with
    | true =>
      have HAN : Hid (placesOf m h d ns = ([], 2)) := by
        show _ = _
        unfold placesOf
        rw [HD0.out, if_neg (by simp), if_pos HBB.out.symm]
      go_wp2
      go_ret2
      rw [HAN.out]
      exact plTo_err _ _ _ HB3.out
    | false =>
      by_cases hn0 : ns.length = 0
      · have HAN : Hid (placesOf m h d ns = ([], 0)) := by
          show _ = _
          unfold placesOf
          rw [HD0.out, if_neg (by simp), if_neg (by rw [← HBB.out]; simp), if_pos (List.eq_nil_of_length_eq_zero hn0)]
        have hz0 : ((ns.length : Int) == 0) = true := by simp [hn0]
        clear hn0
        go_wp2
        go_ret2
        rw [HAN.out]
        exact plTo_err _ _ _ HB3.out
      · have hz0 : ((ns.length : Int) == 0) = false := by simp; intro e; exact hn0 (by rw [e]; rfl)
        obtain ⟨⟨l, k2⟩, hlk⟩ : ∃ x, x = endOfC m h d := ⟨_, rfl⟩
        have HSM : Hid (l.length ≤ 512 ∧ ∀ s ∈ l, s.size ≤ 512) := by
          have := end_small m h d
          rw [← hlk] at this
          exact this
        rw [← hlk] at HEN
        have HLK := Lib.hid hlk
        have HN0 := Lib.hid hn0
        clear hlk hn0
        go_wp2_with (first | (refine wpl_load_row 146 _ rfl rfl w1.heap.size rfl 146 (clCells pv h d) (0, 0) _ HGC3.out Tryd.underlying146 (by rw [clCells_size]; exact info146) ?_) | fail)
        refine (HEN.out _ HB3.out).mono ?_
        rintro e w4 ⟨v, rfl, hown, hb4⟩
        have HB4 := Lib.hid (bstep HB3.out hb4)
        obtain ⟨A2, c2, rfl, _, _⟩ := own_row hown
        have HOL : Hid (∀ g, (Value.slice A2 l.length c2).ownBlock = some g → w3.heap.size ≤ g ∧ g < w4.heap.size) := fun g hg => World.ownsRow.lt hown g hg
        have HO4 := Lib.hid hown
        clear hown hb4
        dsimp only
        by_cases hk2 : k2 = 0
        · subst hk2
          have hn2 : ((0 : Int) != 0) = false := rfl
          have HAN : Hid (placesOf m h d ns = ((ns.foldl (stepPl d.itv) (h, l, [])).2.2, 0)) := by
            show _ = _
            unfold placesOf
            rw [HD0.out, if_neg (by simp), if_neg (by rw [← HBB.out]; simp), if_neg (fun e => HN0.out (by rw [e]; rfl)), ← HLK.out, if_neg (by simp)]
          have HALL : Hid (∀ n ∈ ns, inB n 1 d.len = true) := by
            show ∀ _, _
            have := HBB.out.symm
            rw [List.any_eq_false] at this
            intro n hn
            have := this n hn
            simpa using this
          go_wp2_with (first | (refine wpl_store_fresh rfl 150 _ _ rfl (enCells pv h d (.slice A2 l.length c2)) rfl 150 _ rfl (by rw [enCells_size]; exact info150) rfl (HEO.out _ _ _ _ _) ?_; intro w5 hg5 hb5 hs5; have HR5 : Hid (EnRow w w5 w4.heap.size pv h d (.slice A2 l.length c2) l) := ⟨hg5, own_keep (own_mono HO4.out (by have := HB3.out.size; omega)) hb5, fun e => by have := (HOL.out _ e).2; omega, bstep HB4.out hb5, HB4.out.size⟩; clear hg5 hb5 hs5) | fail)
          obtain ⟨g, hg⟩ : ∃ g, g = w4.heap.size := ⟨_, rfl⟩
          rw [← hg] at HR5
          rw [← hg]
          clear hg
          go_loopw [13, 42] (fun x y wr => ∃ (k : Nat) (hk : Hd) (lk : List ByteArray) (out : List Int) (vl : Value), y = .int .i64 k ∧ k ≤ ns.length ∧ (ns.take k).foldl (stepPl d.itv) (h, l, []) = (hk, lk, out) ∧ PlS w wr g pv d h k hk lk out vl x) (fun _ y _ => ns.length - (intOf y).toNat)
          case atStart => exact ⟨0, h, l, [], _, rfl, Nat.zero_le _, rfl, HR5.out, HSM.out, by omega, by simp, World.ownsRow_nil _ _ _ _, by simp [Value.ownBlock]⟩
          case round =>
            obtain ⟨k, hk, lk, out, vl, rfl, hkl, hfold, hS⟩ := hrel
            have HF := Lib.hid hfold
            have HS := Lib.hid hS
            clear hfold hS
            by_cases hlt : k < ns.length
            · obtain ⟨b, o, rfl, hb1, hc1⟩ := HNS.out (by rw [List.length_map]; omega)
              have e1 : (ns.map (Value.int .i64))[k]? = some (.int .i64 (ns.getD k 0)) := by simp [List.getD, hlt]
              have hck := (HS.out.en.bel.cell (p := ⟨b, o + k, none⟩) hb1).trans ((hc1 k (by rw [List.length_map]; omega)).trans e1)
              have HTK : Hid ((ns.take (k + 1)).foldl (stepPl d.itv) (h, l, []) = stepPl d.itv (hk, lk, out) (ns.getD k 0)) := by
                show _ = _
                rw [List.take_succ_eq_append_getElem hlt, List.foldl_append, HF.out]
                simp [List.getD, hlt]
              have hin := inB_true (HALL.out (ns.getD k 0) (by simp [List.getD, hlt]))
              obtain ⟨i, hi⟩ : ∃ i : Nat, ns.getD k 0 = i := ⟨(ns.getD k 0).toNat, by omega⟩
              rw [hi] at hck HTK hin
              clear e1 hc1 hi
              have hi1' : 1 ≤ i := by omega
              have hi2' : i ≤ 200 := by omega
              have hpos : 0 < i := by omega
              have hmk := make_bytes i (by omega)
              have hcv := conv_zeros wr i
              have HZE : Hid (ofL (List.replicate i 0) = zer (i : Int)) := rfl
              have HZS : Hid ((zer (i : Int)).size ≤ 200) := by show _ ≤ _; unfold zer; rw [ofL_size, List.length_replicate]; simpa using hi2'
              obtain ⟨A5, c5, rfl, _, _⟩ := own_row HS.out.en.own
              have hbnd : 0 ≤ hk.fin ∧ hk.fin ≤ 20000000 ∧ 0 ≤ hk.cnt ∧ hk.cnt ≤ 20000000 := by
                have h1 := HS.out.fin
                have h2 := HS.out.cnt
                omega
              have HBN := Lib.hid hbnd
              clear hin hbnd
              go_wp2_with fail
              rw [HZE.out]
              refine (add_any w (wr.alloc (.cells (madeCells #[.int .u8 0] i) 5)) g pv hk d A5 c5 lk (zer (i : Int)) (HS.out.en.keep ((Below.refl _ _).alloc (Nat.le_refl _) _)) HS.out.ol.1 HS.out.ol.2 HZS.out HBN.out.1 HBN.out.2.1 HBN.out.2.2.1 HBN.out.2.2.2 hi0 hi1).mono ?_
              rintro e w6 ⟨rfl, v', hen, hkeep, hown⟩
              have hkeep2 : ∀ q, q < wr.heap.size → q ≠ g → some q ≠ (Value.slice A5 lk.length c5).ownBlock → w6.heap[q]? = wr.heap[q]? := fun q hq h1 h2 => (hkeep q (by simp; omega) h1 h2).trans (Below.heap_alloc _ _ _ hq)
              have hown2 : ∀ q, q < wr.heap.size → v'.ownBlock = some q → (Value.slice A5 lk.length c5).ownBlock = some q := fun q hq h1 => hown q (by simp; omega) h1
              have HK2 := Lib.hid hkeep2
              have HW2 := Lib.hid hown2
              have HEN6 := Lib.hid hen
              have HO6 : Hid (w6.ownsRow w.heap.size 3 1 u13 out.length (out.map (Value.int .i64))) := HS.out.own6 hkeep2
              have HLN : Hid (out.length + 1 ≤ maxLen ∧ (out.length + 1) * 8 ≤ 140737488355328) := by
                have h1 := stepPl_len d.itv (ns.take k) (h, l, [])
                rw [HF.out] at h1
                have h2 : out.length = k := by
                  have : (ns.take k).length = k := by rw [List.length_take]; omega
                  simpa [this] using h1
                show _ ∧ _
                unfold maxLen
                omega
              have HFN : Hid (0 ≤ finOf hk.fin d.itv lk (zer (i : Int)) ∧ finOf hk.fin d.itv lk (zer (i : Int)) ≤ hk.fin + 1) := by
                show _ ∧ _
                have := HBN.out.1
                unfold finOf
                split <;> omega
              have HSB : Hid (w.heap.size ≤ w6.heap.size) := hen.bel.size
              clear hkeep hown hkeep2 hown2 hen hmk hcv
              obtain ⟨a, ha⟩ : ∃ a, a = atOf hk.fin d.itv lk (zer (i : Int)) := ⟨_, rfl⟩
              have HA := Lib.hid ha
              rw [← ha]
              clear ha
              go_wp2_with (first | (at_builtin; refine wpl_pushG elemInt rfl _ _ rfl w.heap.size u13 out.length (out.map (Value.int .i64)) [.int .i64 a] rfl HO6.out HSB.out _ rfl rfl rfl (by simp [Value.oneCell']) HLN.out.1 HLN.out.2 ?_; intro g3 cap w7 hown7 hgr7 hat7; have HS7 := Lib.hid (PlS.next HS.out HEN6.out HK2.out HW2.out (last_small HZS.out) HFN.out rfl hown7 hgr7 hat7); clear hown7 hgr7 hat7))
              refine ⟨⟨k + 1, _, _, _, _, by go_num, by omega, ?_, HS7.out⟩, by simp [intOf]; omega⟩
              rw [HTK.out, HA.out]
              rfl
            · have hk2 : k = ns.length := by omega
              have HAN2 : Hid (placesOf m h d ns = (out, 0)) := by
                show _ = _
                rw [HAN.out]
                have := HF.out
                rw [hk2, List.take_of_length_le (Nat.le_refl _)] at this
                rw [this]
              have HSO := Lib.hid HS.out.own
              obtain ⟨A6, c6, rfl, hr6, _⟩ := own_row HS.out.own
              clear hk2 hr6
              go_wp2
              go_ret2
              rw [HAN2.out]
              exact ⟨A6, c6, rfl, HSO.out, HS.out.en.bel⟩
        · have HAN : Hid (placesOf m h d ns = ([], k2)) := by
            show _ = _
            unfold placesOf
            rw [HD0.out, if_neg (by simp), if_neg (by rw [← HBB.out]; simp), if_neg (fun e => HN0.out (by rw [e]; rfl)), ← HLK.out, if_pos hk2]
          have hn2 : (k2 != 0) = true := by simp [hk2]
          clear hk2
          go_wp2_with (first | (refine wpl_store_fresh rfl 150 _ _ rfl (enCells pv h d (.slice A2 l.length c2)) rfl 150 _ rfl (by rw [enCells_size]; exact info150) rfl (HEO.out _ _ _ _ _) ?_; intro w5 hg5 hb5 hs5; have HB5 := Lib.hid (bstep HB4.out hb5); clear hg5 hb5 hs5) | fail)
          go_ret2
          rw [HAN.out]
          exact plTo_err _ _ _ HB5.out
  · have HAN : Hid (placesOf m h d ns = ([], k)) := by
      show _ = _
      unfold placesOf
      rw [← hk, if_pos hk0]
    obtain rfl := hcs1 hk0
    have hn : (k != 0) = true := by simp [hk0]
    clear hk hk0 hcs0 hcs1
    go_wp2_with (first | (refine wpl_store_fresh rfl 146 _ _ rfl zeroCl rfl 146 _ rfl (by rw [zeroCl_size]; exact info146) rfl zeroCl_one ?_; intro w2 hg2 hb2 hs2; have HB2 := Lib.hid (bstep HB1.out hb2); clear hg2 hb2 hs2) | fail)
    go_ret2
    rw [HAN.out]
    exact plTo_err _ _ _ HB2.out
end Go.Proofs.YtnkhifgppcnmkaaDoor

/- Walks of chapter 18: awake. -/
namespace Go.Proofs.YtnkhifgppcnmkaaDoor
open Go.RowKit Iv

def ds0 : Ds := ⟨0, 1, 0, 60, 0, 0, 0, 128, 0, 0, 0, 0, 0, 0, false, 0, ⟨#[]⟩, ⟨#[]⟩, 0, 0, false⟩
theorem built_ds0 : Tryd.prog.built 23 [(1, .int .i64 1), (7, .int .i64 128), (3, .int .i64 60)] = some ds0.cells := by kernel_rfl
theorem ds_one (d : Ds) : d.cells.all (·.oneCell') = true := by kernel_rfl

theorem zer40 : (zer 40).size = 40 := by unfold zer; rw [ofL_size, List.length_replicate]; rfl
theorem zer60 : (zer 60).size = 60 := by unfold zer; rw [ofL_size, List.length_replicate]; rfl

theorem flen_two (a b : ByteArray) : flen [a, b] = 6 := by
  by_cases h : b.size = a.size
  · rw [flen_cons]; simp [runLen, h, flen_nil]
  · rw [flen_cons]; simp [runLen, h]; rw [flen_cons]; simp [runLen, flen_nil]
theorem flen_three (a : ByteArray) : flen [a, a, a] = 6 := by
  rw [flen_cons]; simp [runLen, flen_nil]
theorem content_size (a : ByteArray) : a.data.toList.length = a.size := Array.length_toList
theorem sz_two (a b : ByteArray) : szOf [a, b] = 10 + a.size + b.size := by
  rw [sizes, flen_fields, flen_two, content_cons, content_cons, List.length_append, List.length_append, content_size, content_size]
  simp [content]; omega
theorem sz_three (a : ByteArray) : szOf [a, a, a] = 10 + 3 * a.size := by
  rw [sizes, flen_fields, flen_three, content_cons, content_cons, content_cons, List.length_append, List.length_append, List.length_append, content_size]
  simp [content]; omega

theorem fits22 : fitsOf 128 ([zer 40] ++ [zer 40]) = true := by
  show fitsOf 128 [zer 40, zer 40] = true
  unfold fitsOf
  rw [sz_two, zer40]
  simp [isSz, okRec, zer40]
theorem fits23 : fitsOf 128 ([zer 40, zer 40] ++ [zer 40]) = false := by
  show fitsOf 128 [zer 40, zer 40, zer 40] = false
  unfold fitsOf
  rw [sz_three, zer40]
  simp
theorem fits46 : fitsOf 128 ([zer 40] ++ [zer 60]) = true := by
  show fitsOf 128 [zer 40, zer 60] = true
  unfold fitsOf
  rw [sz_two, zer40, zer60]
  simp [isSz, okRec, zer40, zer60]

theorem cont_one : (content [zer 40]).length = 40 := by rw [content_cons, List.length_append, content_size, zer40]; rfl

theorem step1 : stepPl 128 (hd0, [], []) 40 = (⟨0, 1, 1, 0, 0, 0, 0⟩, [zer 40], [128]) := by
  simp [stepPl, finOf, lastOf, atOf, freshOf, hd0, content]
theorem step2 : stepPl 128 (⟨0, 1, 1, 0, 0, 0, 0⟩, [zer 40], [128]) 40 = (⟨0, 2, 1, 0, 0, 0, 0⟩, [zer 40, zer 40], [128, 168]) := by
  have := fits22
  have h2 := cont_one
  unfold stepPl finOf lastOf atOf finOf lastOf freshOf
  dsimp only
  rw [fits22]
  simp [h2]
theorem step3 : stepPl 128 (⟨0, 2, 1, 0, 0, 0, 0⟩, [zer 40, zer 40], [128, 168]) 40 = (⟨0, 3, 2, 0, 0, 0, 0⟩, [zer 40], [128, 168, 256]) := by
  unfold stepPl finOf lastOf atOf finOf lastOf freshOf
  dsimp only
  rw [fits23]
  simp [content]
theorem step4 : stepPl 128 (⟨0, 3, 2, 0, 0, 0, 0⟩, [zer 40], [128, 168, 256]) 60 = (⟨0, 4, 2, 0, 0, 0, 0⟩, [zer 40, zer 60], [128, 168, 256, 296]) := by
  have h2 := cont_one
  unfold stepPl finOf lastOf atOf finOf lastOf freshOf
  dsimp only
  rw [fits46]
  simp [h2]

theorem places0 (m : List ByteArray) : placesOf m hd0 ds0 [40, 40, 40, 60] = ([128, 168, 256, 296], 0) := by
  have h1 : doorOf hd0 ds0 1 = 0 := by decide
  have h2 : ([40, 40, 40, 60] : List Int).any (fun n => !(inB n 1 ds0.len)) = false := by decide
  have h3 : endOfC m hd0 ds0 = ([], 0) := rfl
  unfold placesOf
  rw [h1, if_neg (by simp), h2, if_neg (by simp), if_neg (by simp), h3, if_neg (by simp)]
  show ((stepPl 128 (stepPl 128 (stepPl 128 (stepPl 128 (hd0, [], []) 40) 40) 40) 60).2.2, (0 : Int)) = _
  rw [step1, step2, step3, step4]

theorem append0 (m : List ByteArray) : ∃ pg, appendOf m hd0 ds0 (zer 40) = ⟨⟨0, 1, 1, 0, 0, 0, 0⟩, [(1, pg)], 128, 0⟩ := by
  have h1 : doorOf hd0 ds0 1 = 0 := by decide
  have h3 : endOfC m hd0 ds0 = ([], 0) := rfl
  have f1 : finOf 0 128 [] (zer 40) = 1 := by simp [finOf, freshOf]
  have f2 : atOf 0 128 [] (zer 40) = 128 := by simp [atOf, finOf, lastOf, freshOf, content]
  refine ⟨(encodeOf 128 (lastOf 0 128 [] (zer 40) ++ [zer 40])).1, ?_⟩
  unfold appendOf
  rw [h1, if_neg (by simp), if_neg (by rw [zer40]; decide), h3, if_neg (by simp)]
  show App.mk ⟨0, 0 + 1, finOf 0 128 [] (zer 40), 0, 0, 0, 0⟩ [(finOf 0 128 [] (zer 40), (encodeOf 128 (lastOf 0 128 [] (zer 40) ++ [zer 40])).1)] (atOf 0 128 [] (zer 40)) 0 = _
  rw [f1, f2]
  rfl

theorem memE : ∀ s ∈ ([⟨#[]⟩] : List ByteArray), s.size ≤ 1000 := by
  intro s hs
  have : s = ⟨#[]⟩ := by simpa using hs
  subst this
  decide

theorem load_ds (w : World) (g : Nat) (d : Ds) (h : w.heap[g]? = some (.cells d.cells 23 (0, 0))) : (Instr.loadAt 23 (.pointer (some ⟨g, 0, none⟩))).run Tryd.prog w = .ok (.agg d.cells) w := by
  have := run_loadAt_mid (P := Tryd.prog) w g 0 23 d.cells.toList _ (fun j v hv => by rw [Nat.zero_add, cell_of_row _ _ j _ _ _ h]; simpa using hv) Tryd.underlying23 rfl (by rw [Array.length_toList, Ds.size]; exact info23)
  simpa using this
end Go.Proofs.YtnkhifgppcnmkaaDoor

/- Walks of chapter 18: equality of headers. -/
namespace Go.Proofs.YtnkhifgppcnmkaaDoor
open Go.RowKit Iv

instance decHd : DecidableEq Hd := fun a b =>
  if h : a.app = b.app ∧ a.cnt = b.cnt ∧ a.fin = b.fin ∧ a.root = b.root ∧ a.ht = b.ht ∧ a.spl = b.spl ∧ a.areas = b.areas then
    isTrue (Hd.ext' a b h.1 h.2.1 h.2.2.1 h.2.2.2.1 h.2.2.2.2.1 h.2.2.2.2.2.1 h.2.2.2.2.2.2)
  else isFalse (fun e => h (by subst e; simp))

theorem hd_eqb (a b : Hd) : (a.app == b.app && (a.cnt == b.cnt && (a.fin == b.fin && (a.root == b.root && (a.ht == b.ht && (a.spl == b.spl && (a.areas == b.areas && true))))))) = decide (a = b) := by
  by_cases h : a = b
  · subst h; simp
  · rw [decide_eq_false h, Bool.eq_false_iff]
    intro e
    simp only [Bool.and_eq_true, beq_iff_eq] at e
    exact h (Hd.ext' a b e.1 e.2.1 e.2.2.1 e.2.2.2.1 e.2.2.2.2.1 e.2.2.2.2.2.1 e.2.2.2.2.2.2.1)

/-- Two headers, '!='. -/
theorem neq_hd (a b : Hd) (w : World) : (binOp .neq 30 (.agg a.cells) (.agg b.cells)).run Tryd.prog w = .ok (.bool !decide (a = b)) w := by
  have h := neq_of (t := 30) Tryd.underlying30 (by kernel_rfl) w (xs := a.cells) (ys := b.cells)
    (eqf_cons (by decide) (i_part _ _ _ w rfl) (i_part _ _ _ w rfl) (i_eq 9998 a.app b.app w)
    (eqf_cons (by decide) (i_part _ _ _ w rfl) (i_part _ _ _ w rfl) (i_eq 9998 a.cnt b.cnt w)
    (eqf_cons (by decide) (i_part _ _ _ w rfl) (i_part _ _ _ w rfl) (i_eq 9998 a.fin b.fin w)
    (eqf_cons (by decide) (i_part _ _ _ w rfl) (i_part _ _ _ w rfl) (i_eq 9998 a.root b.root w)
    (eqf_cons (by decide) (i_part _ _ _ w rfl) (i_part _ _ _ w rfl) (i_eq 9998 a.ht b.ht w)
    (eqf_cons (by decide) (i_part _ _ _ w rfl) (i_part _ _ _ w rfl) (i_eq 9998 a.spl b.spl w)
    (eqf_cons (by decide) (i_part _ _ _ w rfl) (i_part _ _ _ w rfl) (i_eq 9998 a.areas b.areas w) eqf_nil)))))))
  rw [h, hd_eqb]
end Go.Proofs.YtnkhifgppcnmkaaDoor

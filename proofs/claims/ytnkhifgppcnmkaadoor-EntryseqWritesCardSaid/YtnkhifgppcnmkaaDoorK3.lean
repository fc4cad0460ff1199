/- Walks of chapter 18: find. -/
import Derived.Test.YtnkhifgppcnmkaaDoorC6
namespace Go.Proofs.YtnkhifgppcnmkaaDoor
open Go.RowKit Iv

/-- The first record before which so many bytes lie. -/
def idxFrom (x : Int) : Nat → Int → List ByteArray → Option Nat
  | _, _, [] => none
  | k, a, s :: l => if a = x then some k else idxFrom x (k + 1) (a + s.size) l
def idxOf (l : List ByteArray) (x : Int) : Option Nat := idxFrom x 0 0 l

theorem idxFrom_none (x : Int) : ∀ (l : List ByteArray) (k : Nat) (a : Int), (∀ j, j < l.length → a + ((content (l.take j)).length : Nat) ≠ x) → idxFrom x k a l = none := by
  intro l
  induction l with
  | nil => intro k a _; rfl
  | cons s l ih =>
    intro k a h
    rw [idxFrom, if_neg (by have := h 0 (by simp); simpa [content] using this)]
    refine ih (k + 1) _ (fun j hj => ?_)
    have := h (j + 1) (by simp; omega)
    rw [List.take_succ_cons, content_cons, List.length_append, content_size] at this
    omega
theorem idxFrom_some (x : Int) : ∀ (l : List ByteArray) (k : Nat) (a : Int) (i : Nat), i < l.length → (∀ j, j < i → a + ((content (l.take j)).length : Nat) ≠ x) → a + ((content (l.take i)).length : Nat) = x → idxFrom x k a l = some (k + i) := by
  intro l
  induction l with
  | nil => intro k a i hi; simp at hi
  | cons s l ih =>
    intro k a i hi h he
    cases i with
    | zero => rw [idxFrom, if_pos (by simpa [content] using he)]; rfl
    | succ i =>
      rw [idxFrom, if_neg (by have := h 0 (by omega); simpa [content] using this)]
      have e1 : ∀ j, j < i → a + (s.size : Int) + ((content (l.take j)).length : Nat) ≠ x := fun j hj => by
        have := h (j + 1) (by omega)
        rw [List.take_succ_cons, content_cons, List.length_append, content_size] at this
        omega
      have e2 : a + (s.size : Int) + ((content (l.take i)).length : Nat) = x := by
        rw [List.take_succ_cons, content_cons, List.length_append, content_size] at he
        omega
      rw [ih (k + 1) _ i (by simpa using hi) e1 e2]
      congr 1
      omega

/-- What find answers: the records, the index, the error. -/
structure Fnd where
  l : List ByteArray
  i : Nat
  e : Int
def pick (l : List ByteArray) : Option Nat → Fnd
  | some i => ⟨l, i, 0⟩
  | none => ⟨[], 0, 6⟩
def findOf (m : List ByteArray) (h : Hd) (d : Ds) (a : Int) : Fnd :=
  if a < d.itv ∨ h.fin < a / d.itv then ⟨[], 0, 6⟩
  else if (loadOf m d (a / d.itv)).2 ≠ 0 then ⟨[], 0, (loadOf m d (a / d.itv)).2⟩
  else pick (loadOf m d (a / d.itv)).1 (idxOf (loadOf m d (a / d.itv)).1 (a % d.itv))

def FindTo (w : World) (r : Fnd) (e : Ending) (w' : World) : Prop :=
  ∃ v, e = .returned (.tuple #[v, .int .i64 (r.i : Int), .int .i64 r.e]) ∧ OwnS w.heap.size w' v r.l ∧ Below w.heap.size w w'
theorem findTo_err (w w' : World) (k : Int) (h : Below w.heap.size w w') : FindTo w ⟨[], 0, k⟩ (.returned (.tuple #[.slice none 0 0, .int .i64 0, .int .i64 k])) w' :=
  ⟨_, rfl, World.ownsRow_nil _ _ _ _, h⟩

theorem load_small (m : List ByteArray) (d : Ds) (n : Int) : (loadOf m d n).1.length ≤ 512 ∧ ∀ s ∈ (loadOf m d n).1, s.size ≤ 512 := by
  by_cases h : n = 0
  · unfold loadOf
    split
    · simp
    · split
      · simp
      · rename_i h2
        have h3 : (decodeOf d.itv (pageOf m n).1).2 = 0 := by
          rcases Classical.em ((decodeOf d.itv (pageOf m n).1).2 = 0) with h | h
          · exact h
          · exact absurd (.inl h) h2
        rcases hx : decodeOf d.itv (pageOf m n).1 with ⟨l, k⟩
        rw [hx] at h3
        dsimp only at h3
        subst h3
        have h4 := decode_ok hx
        exact fits_small ((encode_fits d.itv l).1 (by rw [h4]))
  · have := end_small m { hd0 with fin := n } d
    unfold endOfC at this
    rw [if_neg h] at this
    exact this

set_option maxHeartbeats 1600000 in
set_option maxRecDepth 100000 in
theorem find_any (A : Option Addr) (c : Nat) (m : List ByteArray) (h : Hd) (d : Ds) (a : Int) (w : World) (hm : m.length ≤ 9223372036854775807) (hz : ∀ s ∈ m, s.size ≤ 1000) (hs : StrsA w A m) (hi0 : 1 ≤ d.itv) (hi1 : d.itv ≤ 512) (ha0 : -9223372036854775808 ≤ a) (ha1 : a ≤ 9223372036854775807) (hf1 : h.fin ≤ 16777216) :
    Calls Tryd.prog 114 #[.agg (clCells (memV A m.length c) h d), .int .i64 a] w (FindTo w (findOf m h d a)) := by
  have HLD : Hid (∀ w', Below w.heap.size w w' → Calls Tryd.prog 144 #[.agg (clCells (memV A m.length c) h d), .int .i64 (a / d.itv)] w' fun e w'' => DecodedO w' (loadOf m d (a / d.itv)) e w'') := fun w' hb => load_any A c m h d (a / d.itv) w' hm hz (hs.keep hb)
  obtain ⟨pv, hpv⟩ : ∃ pv, pv = memV A m.length c := ⟨_, rfl⟩
  rw [← hpv] at HLD ⊢
  obtain ⟨cc, hcc⟩ : ∃ cc, cc = clCells pv h d := ⟨_, rfl⟩
  have hccz : cc.size = 29 := by rw [hcc]; exact clCells_size pv h d
  have hci : (w.alloc (.cells cc 146)).cell? ⟨w.heap.size, 15, none⟩ = some (.int .i64 d.itv) := by rw [cell_of_row _ _ 15 _ _ _ (heap_alloc_new w _), hcc]; rfl
  have hcf : (w.alloc (.cells cc 146)).cell? ⟨w.heap.size, 3, none⟩ = some (.int .i64 h.fin) := by rw [cell_of_row _ _ 3 _ _ _ (heap_alloc_new w _), hcc]; rfl
  rw [← hcc] at HLD ⊢
  have HG : Hid ((w.alloc (.cells cc 146)).heap[w.heap.size]? = some (.cells cc 146 (0, 0))) := heap_alloc_new _ _
  have hz0 : (d.itv == 0) = false := by simp; omega
  clear hs hz hpv hcc
  by_cases h1 : a < d.itv
  · have HA : Hid (findOf m h d a = ⟨[], 0, 6⟩) := by show _ = _; unfold findOf; rw [if_pos (.inl h1)]
    have hd1 : decide (a < d.itv) = true := decide_eq_true h1
    clear h1
    go_enter Tryd.func114, Tryd.ntmps114
    go_wp2
    go_ret3
    rw [HA.out]
    exact findTo_err _ _ _ ((Below.refl _ _).alloc (Nat.le_refl _) _)
  · have hd1 : decide (a < d.itv) = false := decide_eq_false h1
    have ha : 0 ≤ a := by omega
    have hq0 : 0 ≤ a / d.itv := Int.ediv_nonneg ha (by omega)
    have hq1 : a / d.itv * d.itv ≤ a := Int.ediv_mul_le a (by omega)
    have hq2 : 0 ≤ a / d.itv * d.itv := Int.mul_nonneg hq0 (by omega)
    have hq3 : a / d.itv ≤ a := Int.ediv_le_self d.itv ha
    by_cases h2 : h.fin < a / d.itv
    · have HA : Hid (findOf m h d a = ⟨[], 0, 6⟩) := by show _ = _; unfold findOf; rw [if_pos (.inr h2)]
      have hd2 : decide (h.fin < a / d.itv) = true := decide_eq_true h2
      clear h2
      go_enter Tryd.func114, Tryd.ntmps114
      go_wp2
      go_ret3
      rw [HA.out]
      exact findTo_err _ _ _ ((Below.refl _ _).alloc (Nat.le_refl _) _)
    · have hd2 : decide (h.fin < a / d.itv) = false := decide_eq_false h2
      have HLS := Lib.hid (load_small m d (a / d.itv))
      obtain ⟨⟨l, k⟩, hlk⟩ : ∃ x, x = loadOf m d (a / d.itv) := ⟨_, rfl⟩
      have HFD : Hid (findOf m h d a = if k ≠ 0 then ⟨[], 0, k⟩ else pick l (idxOf l (a % d.itv))) := by
        show _ = _
        unfold findOf
        rw [if_neg (by omega), ← hlk]
      rw [← hlk] at HLD HLS
      clear hlk h1 h2
      go_enter Tryd.func114, Tryd.ntmps114
      go_wp2_with (first | (refine wpl_load_row 146 _ rfl rfl w.heap.size rfl 146 cc (0, 0) _ HG.out Tryd.underlying146 (by rw [hccz]; exact info146) ?_) | fail)
      refine (HLD.out _ ((Below.refl _ _).alloc (Nat.le_refl _) _)).mono ?_
      rintro e w1 ⟨v, rfl, hown, hb1⟩
      have HB1 := Lib.hid (bstep ((Below.refl _ _).alloc (Nat.le_refl _) _) hb1)
      have HOW : Hid (OwnS w.heap.size w1 v l) := own_mono hown (by simp)
      have hciA : w1.cell? ⟨w.heap.size, 15, none⟩ = some (.int .i64 d.itv) := (hb1.cell (p := ⟨w.heap.size, 15, none⟩) (by simp)).trans hci
      obtain ⟨A1, c1, rfl, hs1, _⟩ := own_strs hown
      have HS1 := Lib.hid hs1
      clear hown hb1 hs1 hci
      dsimp only at HLS ⊢
      by_cases hk : k = 0
      · subst hk
        have HX : Hid (a / d.itv * d.itv + a % d.itv = a ∧ 0 ≤ a % d.itv) := ⟨Int.ediv_mul_add_emod a d.itv, Int.emod_nonneg a (by omega)⟩
        obtain ⟨x, hx⟩ : ∃ x, x = a % d.itv := ⟨_, rfl⟩
        rw [← hx] at HX HFD
        have hq4 : a / d.itv * d.itv ≤ 8589934592 := by
          have e1 := Int.mul_le_mul_of_nonneg_right (show a / d.itv ≤ 16777216 by have := of_decide_eq_false hd2; omega) (show 0 ≤ d.itv by omega)
          have e2 := Int.mul_le_mul_of_nonneg_left hi1 (show (0 : Int) ≤ 16777216 by omega)
          omega
        have HD : Hid (decide (h.fin < a / d.itv) = false) := hd2
        clear hx
        go_wp2
        go_loop [10, 46] (fun p q => ∃ (j cj : Nat), j ≤ l.length ∧ q = .int .i64 j ∧ cj = (content (l.take j)).length ∧ p = .int .i64 (a / d.itv * d.itv + cj) ∧ ∀ i, i < j → (((content (l.take i)).length : Nat) : Int) ≠ x) (fun _ q => l.length - (intOf q).toNat)
        case atStart => exact ⟨0, 0, by omega, rfl, rfl, by simp, fun i hi => by omega⟩
        case round =>
          obtain ⟨j, cj, hj, rfl, hcj, rfl, hall⟩ := hrel
          have HALL := Lib.hid hall
          have hl5 : l.length ≤ 512 := HLS.out.1
          have hcb := pageSum l HLS.out.1 HLS.out.2 j
          rw [← hcj] at hcb
          have HCJ := Lib.hid hcj
          clear hall hcj
          by_cases hjl : j < l.length
          · obtain ⟨b, o, rfl, hb, hc0⟩ := HS1.out (by omega)
            have hck := hc0 j hjl
            have hsz : (l.getD j ByteArray.empty).size ≤ 512 := HLS.out.2 _ (by simp [List.getD, hjl])
            have HNX : Hid ((content (l.take (j + 1))).length = cj + (l.getD j ByteArray.empty).size) := by show _ = _; rw [content_takeS l j hjl, HCJ.out]
            obtain ⟨r, hr⟩ : ∃ r, r = l.getD j ByteArray.empty := ⟨_, rfl⟩
            rw [← hr] at hck hsz HNX
            clear hr hc0 hb
            by_cases he : (cj : Int) = x
            · have ht : ((a / d.itv * d.itv + (cj : Int)) == a) = true := by have := HX.out; simp; omega
              have HP : Hid (findOf m h d a = ⟨l, j, 0⟩) := by
                show _ = _
                rw [HFD.out, if_neg (by simp)]
                unfold idxOf
                rw [idxFrom_some x l 0 0 j hjl (fun i hi => by have := HALL.out i hi; omega) (by rw [← HCJ.out]; omega)]
                simp [pick]
              clear he
              go_wp2
              go_ret3
              rw [HP.out]
              exact ⟨_, rfl, HOW.out, HB1.out⟩
            · have ht : ((a / d.itv * d.itv + (cj : Int)) == a) = false := by have := HX.out; simp; omega
              have HE := Lib.hid he
              clear he
              go_wp2
              go_round
              case rel => exact ⟨j + 1, cj + r.size, by omega, by go_num, HNX.out.symm, by rw [Int.natCast_add, Int.add_assoc], fun i hi => by
                rcases Nat.lt_or_ge i j with h1 | h1
                · exact HALL.out i h1
                · obtain rfl : i = j := by omega
                  rw [← HCJ.out]; exact HE.out⟩
              case measure => simp [intOf]; omega
          · have HP : Hid (findOf m h d a = ⟨[], 0, 6⟩) := by
              show _ = _
              rw [HFD.out, if_neg (by simp)]
              unfold idxOf
              rw [idxFrom_none x l 0 0 (fun i hi => by have := HALL.out i (by omega); omega)]
              rfl
            go_wp2
            go_ret3
            rw [HP.out]
            exact findTo_err _ _ _ HB1.out
      · have HP : Hid (findOf m h d a = ⟨[], 0, k⟩) := by show _ = _; rw [HFD.out, if_pos hk]
        have hn : (k != 0) = true := by simp [hk]
        clear hk
        go_wp2
        go_ret3
        rw [HP.out]
        exact findTo_err _ _ _ HB1.out
theorem idxFrom_lt (x : Int) : ∀ (l : List ByteArray) (k : Nat) (a : Int) (i : Nat), idxFrom x k a l = some i → k ≤ i ∧ i < k + l.length := by
  intro l
  induction l with
  | nil => intro k a i h; simp [idxFrom] at h
  | cons s l ih =>
    intro k a i h
    rw [idxFrom] at h
    split at h
    · injection h with h
      subst h
      simp
    · have := ih _ _ _ h
      rw [List.length_cons]
      omega
theorem pick_ok {l : List ByteArray} {x : Int} (h : (pick l (idxOf l x)).e = 0) : ∃ i, i < l.length ∧ pick l (idxOf l x) = ⟨l, i, 0⟩ := by
  rcases hx : idxOf l x with _ | i
  · rw [hx] at h; simp [pick] at h
  · exact ⟨i, by have := idxFrom_lt x l 0 0 i hx; omega, rfl⟩
theorem find_ok {m : List ByteArray} {h : Hd} {d : Ds} {a : Int} (he : (findOf m h d a).e = 0) : (findOf m h d a).i < (findOf m h d a).l.length ∧ (findOf m h d a).l.length ≤ 512 ∧ (∀ s ∈ (findOf m h d a).l, s.size ≤ 512) ∧ d.itv ≤ a := by
  have hls := load_small m d (a / d.itv)
  unfold findOf at he ⊢
  split at he
  · simp at he
  · split at he
    · rename_i h2; exact absurd he h2
    · rename_i h1 h2
      rw [if_neg h1, if_neg h2]
      obtain ⟨i, hi, hp⟩ := pick_ok he
      rw [hp]
      exact ⟨hi, hls.1, hls.2, by omega⟩

/-- What Get answers. -/
def getOf (m : List ByteArray) (h : Hd) (d : Ds) (a : Int) : ByteArray × Int :=
  if doorOf h d 1 ≠ 0 then (ByteArray.empty, doorOf h d 1)
  else if (findOf m h d a).e ≠ 0 then (ByteArray.empty, (findOf m h d a).e)
  else ((findOf m h d a).l.getD (findOf m h d a).i ByteArray.empty, 0)
/-- What Replace answers. -/
def replaceOf (m : List ByteArray) (h : Hd) (d : Ds) (a : Int) (r : ByteArray) : List Wr × Int :=
  if doorOf h d 1 ≠ 0 then ([], doorOf h d 1)
  else if ¬ (1 ≤ (r.size : Int) ∧ (r.size : Int) ≤ d.len) then ([], 2)
  else if (findOf m h d a).e ≠ 0 then ([], (findOf m h d a).e)
  else if ((findOf m h d a).l.getD (findOf m h d a).i ByteArray.empty).size ≠ r.size then ([], 2)
  else ([(a / d.itv, (encodeOf d.itv ((findOf m h d a).l.set (findOf m h d a).i r)).1)], 0)

/-- Writes and an error, in memory. -/
def RepTo (w : World) (r : List Wr × Int) (e : Ending) (w' : World) : Prop :=
  ∃ A c, e = .returned (.tuple #[.slice A r.1.length c, .int .i64 r.2]) ∧ RowA w' A (wrCells r.1) ∧ Below w.heap.size w w'
theorem repTo_err (w w' : World) (k : Int) (h : Below w.heap.size w w') : RepTo w ([], k) (.returned (.tuple #[.slice none 0 0, .int .i64 k])) w' :=
  ⟨none, 0, rfl, fun h => absurd h (by simp [wrCells]), h⟩

set_option maxHeartbeats 1600000 in
set_option maxRecDepth 100000 in
theorem get_any (A : Option Addr) (c : Nat) (m : List ByteArray) (h : Hd) (d : Ds) (a : Int) (w : World) (hm : m.length ≤ 9223372036854775807) (hz : ∀ s ∈ m, s.size ≤ 1000) (hs : StrsA w A m) (ha0 : -9223372036854775808 ≤ a) (ha1 : a ≤ 9223372036854775807) :
    Calls Tryd.prog 67 #[memV A m.length c, .agg h.cells, .agg d.cells, .int .i64 a] w fun e w' => e = .returned (.tuple #[.string (getOf m h d a).1, .int .i64 (getOf m h d a).2]) ∧ Below w.heap.size w w' := by
  have HOP : Hid (∀ w', Calls Tryd.prog 105 #[memV A m.length c, .agg h.cells, .agg d.cells] w' (OpenTo (memV A m.length c) h d w' (doorOf h d 1))) := fun w' => open_any A m.length c h d w'
  have HCO : Hid (∀ h d, (clCells (memV A m.length c) h d).all (·.oneCell') = true) := fun h d => clCells_one A m.length c h d
  have HFI : Hid (doorOf h d 1 = 0 → ∀ w', Below w.heap.size w w' → Calls Tryd.prog 114 #[.agg (clCells (memV A m.length c) h d), .int .i64 a] w' (FindTo w' (findOf m h d a))) := by
    show _ → ∀ _ _, _
    intro h0 w' hb
    obtain ⟨hv, hp⟩ := door_zero h0
    have h1 := plain_facts hp
    have h2 := valid_facts hv
    exact find_any A c m h d a w' hm hz (hs.keep hb) h2.1 h2.2.1 ha0 ha1 h1.2.2.2
  obtain ⟨pv, hpv⟩ : ∃ pv, pv = memV A m.length c := ⟨_, rfl⟩
  rw [← hpv] at HOP HCO HFI ⊢
  clear hpv hs hz
  have HG : Hid (((w.alloc (.cells h.cells 30)).alloc (.cells d.cells 23)).heap[w.heap.size + 1]? = some (.cells d.cells 23 (0, 0)) ∧ ((w.alloc (.cells h.cells 30)).alloc (.cells d.cells 23)).heap[w.heap.size]? = some (.cells h.cells 30 (0, 0))) := ⟨heap_at_alloc (by simp), by rw [Below.heap_alloc _ _ _ (by simp)]; exact heap_alloc_new w _⟩
  have hds := d.size
  have hhs := h.size
  obtain ⟨k, hk⟩ : ∃ k, k = doorOf h d 1 := ⟨_, rfl⟩
  rw [← hk] at HOP
  go_enter Tryd.func67, Tryd.ntmps67
  go_wp2_with (first | (refine wpl_load_row 23 _ rfl rfl (w.heap.size + 1) rfl 23 d.cells (0, 0) _ HG.out.1 Tryd.underlying23 (by rw [Ds.size]; exact info23) ?_) | (refine wpl_load_row 30 _ rfl rfl w.heap.size rfl 30 h.cells (0, 0) _ HG.out.2 Tryd.underlying30 (by rw [Hd.size]; exact info30) ?_) | fail)
  refine (HOP.out _).mono ?_
  rintro e w1 ⟨cs, rfl, hcs0, hcs1, hb1⟩
  have HB1 := Lib.hid (bstep (((Below.refl _ _).alloc (Nat.le_refl _) _).alloc (by simp) _) hb1)
  have HGD1 : Hid (w1.heap[w.heap.size + 1]? = some (.cells d.cells 23 (0, 0))) := block_at hb1 HG.out.1
  clear hb1 HOP
  by_cases hk0 : k = 0
  · obtain rfl := hcs0 hk0
    have HD0 : Hid (doorOf h d 1 = 0) := hk.symm.trans hk0
    have HF := Lib.hid (HFI.out HD0.out)
    clear hk hcs0 hcs1
    subst hk0
    have HFO := Lib.hid (find_ok (m := m) (h := h) (d := d) (a := a))
    have HGE : Hid (getOf m h d a = if (findOf m h d a).e ≠ 0 then (ByteArray.empty, (findOf m h d a).e) else ((findOf m h d a).l.getD (findOf m h d a).i ByteArray.empty, 0)) := by
      show _ = _
      rw [getOf, HD0.out, if_neg (by simp)]
    obtain ⟨⟨l, i, k2⟩, hfd⟩ : ∃ x, x = findOf m h d a := ⟨_, rfl⟩
    rw [← hfd] at HF HFO HGE
    clear hfd
    go_wp2_with (first | (refine wpl_store_fresh rfl 146 _ _ rfl (clCells pv h d) rfl 146 _ rfl (by rw [clCells_size]; exact info146) rfl (HCO.out _ _) ?_; intro w2 hg2 hb2 hs2; have HB2 := Lib.hid (bstep HB1.out hb2); have HGC2 := Lib.hid hg2; have HGD2 := Lib.hid (block_at hb2 HGD1.out); clear hg2 hb2 hs2) | (refine wpl_load_row 146 _ rfl rfl w1.heap.size rfl 146 (clCells pv h d) (0, 0) _ HGC2.out Tryd.underlying146 (by rw [clCells_size]; exact info146) ?_) | fail)
    refine (HF.out _ HB2.out).mono ?_
    rintro e w4 ⟨v, rfl, hown, hb4⟩
    have hown : OwnS w2.heap.size w4 v l := hown
    have HB4 := Lib.hid (bstep HB2.out hb4)
    dsimp only at HFO HGE ⊢
    obtain ⟨A2, c2, rfl, hs2, _⟩ := own_strs hown
    have HS2 := Lib.hid hs2
    clear hown hb4 hs2
    by_cases hk2 : k2 = 0
    · subst hk2
      have hok := HFO.out rfl
      have hil : i < l.length := hok.1
      obtain ⟨b, o, rfl, _, hc0⟩ := HS2.out (by omega)
      have hck := hc0 i hok.1
      have hl5 : l.length ≤ 512 := hok.2.1
      have HAN : Hid (getOf m h d a = (l.getD i ByteArray.empty, 0)) := by show _ = _; rw [HGE.out, if_neg (by simp)]
      obtain ⟨r, hr⟩ : ∃ r, r = l.getD i ByteArray.empty := ⟨_, rfl⟩
      rw [← hr] at hck HAN
      clear hc0 hok hr
      go_wp2
      go_ret2
      rw [HAN.out]
      exact ⟨rfl, HB4.out⟩
    · have HAN : Hid (getOf m h d a = (ByteArray.empty, k2)) := by show _ = _; rw [HGE.out, if_pos hk2]
      have hn : (k2 != 0) = true := by simp [hk2]
      clear hk2
      go_wp2
      go_ret2
      rw [HAN.out]
      exact ⟨rfl, HB4.out⟩
  · have HAN : Hid (getOf m h d a = (ByteArray.empty, k)) := by
      show _ = _
      unfold getOf
      rw [← hk, if_pos hk0]
    obtain rfl := hcs1 hk0
    have hn : (k != 0) = true := by simp [hk0]
    clear hk hk0 hcs0 hcs1
    go_wp2_with (first | (refine wpl_store_fresh rfl 146 _ _ rfl zeroCl rfl 146 _ rfl (by rw [zeroCl_size]; exact info146) rfl zeroCl_one ?_; intro w2 hg2 hb2 hs2; have HB2 := Lib.hid (bstep HB1.out hb2); clear hg2 hb2 hs2) | fail)
    go_ret2
    rw [HAN.out]
    exact ⟨rfl, HB2.out⟩

set_option maxHeartbeats 1600000 in
set_option maxRecDepth 100000 in
theorem replace_any (A : Option Addr) (c : Nat) (m : List ByteArray) (h : Hd) (d : Ds) (a : Int) (r : ByteArray) (w : World) (hm : m.length ≤ 9223372036854775807) (hz : ∀ s ∈ m, s.size ≤ 1000) (hs : StrsA w A m) (ha0 : -9223372036854775808 ≤ a) (ha1 : a ≤ 9223372036854775807) (hrz : r.size ≤ 9223372036854775807) :
    Calls Tryd.prog 60 #[memV A m.length c, .agg h.cells, .agg d.cells, .int .i64 a, .string r] w (RepTo w (replaceOf m h d a r)) := by
  have HOP : Hid (∀ w', Calls Tryd.prog 105 #[memV A m.length c, .agg h.cells, .agg d.cells] w' (OpenTo (memV A m.length c) h d w' (doorOf h d 1))) := fun w' => open_any A m.length c h d w'
  have HCO : Hid (∀ h d, (clCells (memV A m.length c) h d).all (·.oneCell') = true) := fun h d => clCells_one A m.length c h d
  have HFI : Hid (doorOf h d 1 = 0 → ∀ w', Below w.heap.size w w' → Calls Tryd.prog 114 #[.agg (clCells (memV A m.length c) h d), .int .i64 a] w' (FindTo w' (findOf m h d a))) := by
    show _ → ∀ _ _, _
    intro h0 w' hb
    obtain ⟨hv, hp⟩ := door_zero h0
    have h1 := plain_facts hp
    have h2 := valid_facts hv
    exact find_any A c m h d a w' hm hz (hs.keep hb) h2.1 h2.2.1 ha0 ha1 h1.2.2.2
  obtain ⟨pv, hpv⟩ : ∃ pv, pv = memV A m.length c := ⟨_, rfl⟩
  rw [← hpv] at HOP HCO HFI ⊢
  clear hpv hs hz
  have HG : Hid (((w.alloc (.cells h.cells 30)).alloc (.cells d.cells 23)).heap[w.heap.size + 1]? = some (.cells d.cells 23 (0, 0)) ∧ ((w.alloc (.cells h.cells 30)).alloc (.cells d.cells 23)).heap[w.heap.size]? = some (.cells h.cells 30 (0, 0))) := ⟨heap_at_alloc (by simp), by rw [Below.heap_alloc _ _ _ (by simp)]; exact heap_alloc_new w _⟩
  have hds := d.size
  have hhs := h.size
  obtain ⟨k, hk⟩ : ∃ k, k = doorOf h d 1 := ⟨_, rfl⟩
  rw [← hk] at HOP
  go_enter Tryd.func60, Tryd.ntmps60
  go_wp2_with (first | (refine wpl_load_row 23 _ rfl rfl (w.heap.size + 1) rfl 23 d.cells (0, 0) _ HG.out.1 Tryd.underlying23 (by rw [Ds.size]; exact info23) ?_) | (refine wpl_load_row 30 _ rfl rfl w.heap.size rfl 30 h.cells (0, 0) _ HG.out.2 Tryd.underlying30 (by rw [Hd.size]; exact info30) ?_) | fail)
  refine (HOP.out _).mono ?_
  rintro e w1 ⟨cs, rfl, hcs0, hcs1, hb1⟩
  have HB1 := Lib.hid (bstep (((Below.refl _ _).alloc (Nat.le_refl _) _).alloc (by simp) _) hb1)
  have HGD1 : Hid (w1.heap[w.heap.size + 1]? = some (.cells d.cells 23 (0, 0))) := block_at hb1 HG.out.1
  clear hb1 HOP
  by_cases hk0 : k = 0
  · obtain rfl := hcs0 hk0
    have HD0 : Hid (doorOf h d 1 = 0) := hk.symm.trans hk0
    have HF := Lib.hid (HFI.out HD0.out)
    have hvf := valid_facts (door_zero HD0.out).1
    clear hk hcs0 hcs1
    subst hk0
    have HFO := Lib.hid (find_ok (m := m) (h := h) (d := d) (a := a))
    have HRE : Hid (replaceOf m h d a r = if ¬ (1 ≤ (r.size : Int) ∧ (r.size : Int) ≤ d.len) then ([], 2) else if (findOf m h d a).e ≠ 0 then ([], (findOf m h d a).e) else if ((findOf m h d a).l.getD (findOf m h d a).i ByteArray.empty).size ≠ r.size then ([], 2) else ([(a / d.itv, (encodeOf d.itv ((findOf m h d a).l.set (findOf m h d a).i r)).1)], 0)) := by
      show _ = _
      rw [replaceOf, HD0.out, if_neg (by simp)]
    obtain ⟨⟨l, i, k2⟩, hfd⟩ : ∃ x, x = findOf m h d a := ⟨_, rfl⟩
    rw [← hfd] at HF HFO HRE
    clear hfd
    obtain ⟨bk, hbk⟩ : ∃ bk, bk = inB (r.size : Int) 1 d.len := ⟨_, rfl⟩
    have HBK := Lib.hid hbk
    clear hbk
    go_wp2_with (first | (refine wpl_store_fresh rfl 146 _ _ rfl (clCells pv h d) rfl 146 _ rfl (by rw [clCells_size]; exact info146) rfl (HCO.out _ _) ?_; intro w2 hg2 hb2 hs2; have HB2 := Lib.hid (bstep HB1.out hb2); have HGC2 := Lib.hid hg2; have HGD2 := Lib.hid (block_at hb2 HGD1.out); clear hg2 hb2 hs2) | (refine wpl_load_row 146 _ rfl rfl w1.heap.size rfl 146 (clCells pv h d) (0, 0) _ HGC2.out Tryd.underlying146 (by rw [clCells_size]; exact info146) ?_) | fail)
    refine (allowedC_any pv h d (r.size : Int) _).mono ?_
    rintro e w3 ⟨rfl, hb3⟩
    rw [← HBK.out]
    have HB3 := Lib.hid (bstep HB2.out hb3)
    have HGC3 := Lib.hid (block_at hb3 HGC2.out)
    have HGD3 := Lib.hid (block_at hb3 HGD2.out)
    clear hb3
    cases bk with
    | false =>
      have HAN : Hid (replaceOf m h d a r = ([], 2)) := by show _ = _; rw [HRE.out, if_pos (by have := inB_false HBK.out.symm; omega)]
      go_wp2
      go_ret2
      rw [HAN.out]
      exact repTo_err _ _ _ HB3.out
    | true =>
      have hrb : 1 ≤ (r.size : Int) ∧ (r.size : Int) ≤ d.len := inB_true HBK.out.symm
      go_wp2_with (first | (refine wpl_load_row 146 _ rfl rfl w1.heap.size rfl 146 (clCells pv h d) (0, 0) _ HGC3.out Tryd.underlying146 (by rw [clCells_size]; exact info146) ?_) | fail)
      refine (HF.out _ HB3.out).mono ?_
      rintro e w4 ⟨v, rfl, hown, hb4⟩
      have hown : OwnS w3.heap.size w4 v l := hown
      have HB4 := Lib.hid (bstep HB3.out hb4)
      have HGD4 := Lib.hid (block_at hb4 HGD3.out)
      dsimp only at HFO HRE ⊢
      by_cases hk2 : k2 = 0
      · subst hk2
        have hok := HFO.out rfl
        have hil : i < l.length := hok.1
        have hl5 : l.length ≤ 512 := hok.2.1
        obtain ⟨A2, c2, rfl, _, hlc⟩ := own_strs hown
        obtain ⟨g, cap, hv, _, hg⟩ := World.ownsRow.form hown (by show 0 < l.length; omega)
        simp only [Value.slice.injEq] at hv
        obtain ⟨rfl, hN0, rfl⟩ := hv
        clear hN0
        have hgs := (World.ownsRow.lt hown g rfl).1
        have HS3 : Hid (w.heap.size + 1 < w3.heap.size) := blk_lt HGD3.out
        have hgi : w4.cell? ⟨g, i, none⟩ = some (.string (l.getD i ByteArray.empty)) := by
          have := World.ownsRow.cellAt hown i (by show i < l.length * 1; omega)
          rw [this]
          simp [List.getD, hil]
        have hgf : w4.frozen? ⟨g, i, none⟩ = false := World.ownsRow.frozenAt hown i
        have HOW := Lib.hid hown
        have HLF := Lib.hid hok
        obtain ⟨x, hx⟩ : ∃ x, x = l.getD i ByteArray.empty := ⟨_, rfl⟩
        rw [← hx] at hgi HRE
        have hxz : x.size ≤ 512 := by rw [hx]; exact hok.2.2.1 _ (by simp [List.getD, hil])
        clear hown hb4 hok hx
        by_cases hsz : x.size = r.size
        · have HAN : Hid (replaceOf m h d a r = ([(a / d.itv, (encodeOf d.itv (l.set i r)).1)], 0)) := by show _ = _; rw [HRE.out, if_neg (by omega), if_neg (by simp), if_neg (by omega)]
          have hne : ((x.size : Int) != (r.size : Int)) = false := by simp [hsz]
          have HL2 : Hid ((l.set i r).length ≤ 1000 ∧ ∀ s ∈ l.set i r, s.size ≤ 1000) := by
            refine ⟨by rw [List.length_set]; omega, fun s hs => ?_⟩
            rcases List.mem_or_eq_of_mem_set hs with h1 | rfl
            · have := HLF.out.2.2.1 s h1; omega
            · omega
          have ha : 0 ≤ a := by have := HLF.out.2.2.2; omega
          have hq0 : 0 ≤ a / d.itv := Int.ediv_nonneg ha (by omega)
          have hq3 : a / d.itv ≤ a := Int.ediv_le_self d.itv ha
          have hz0 : (d.itv == 0) = false := by simp; omega
          have HOS : Hid (OwnS w3.heap.size (w4.setCell ⟨g, i, none⟩ (.string r)) (.slice (some ⟨g, 0, none⟩) l.length c2) (l.set i r)) := own_set rfl HOW.out
          have HB5 : Hid (Below w.heap.size w (w4.setCell ⟨g, i, none⟩ (.string r))) := HB4.out.setCell (by have := HS3.out; show _ ≤ g; omega) _
          have hg7 : g ≠ w.heap.size + 1 := by have := HS3.out; omega
          have hk7 : w4.cell? ⟨w.heap.size + 1, 7, none⟩ = some (.int .i64 d.itv) := (cell_of_row _ _ 7 _ _ _ HGD4.out).trans d.itv_at
          have HGD5 : Hid ((w4.setCell ⟨g, i, none⟩ (.string r)).heap[w.heap.size + 1]? = some (.cells d.cells 23 (0, 0))) := (heap_setCell_other _ _ _ _ (Ne.symm hg7)).trans HGD4.out
          have HGL : Hid (g < w4.heap.size) := (World.ownsRow.lt HOW.out g rfl).2
          obtain ⟨pg, hpg⟩ : ∃ pg, pg = encodeOf d.itv (l.set i r) := ⟨_, rfl⟩
          have HEC : Hid (Calls Tryd.prog 36 #[.int .i64 d.itv, .slice (some ⟨g, 0, none⟩) l.length c2] (w4.setCell ⟨g, i, none⟩ (.string r)) fun e w'' => e = .returned (.tuple #[.string pg.1, .int .i64 pg.2]) ∧ Below (w4.setCell ⟨g, i, none⟩ (.string r)).heap.size (w4.setCell ⟨g, i, none⟩ (.string r)) w'') := by
            have := encode_any d.itv (some ⟨g, 0, none⟩) c2 (l.set i r) _ HL2.out.1 HL2.out.2 (by rw [List.length_set]; exact hlc) (own_strsA HOS.out)
            rw [List.length_set, ← hpg] at this
            exact this
          rw [← hpg] at HAN
          clear hsz hpg
          go_wp2_with fail
          refine HEC.out.mono ?_
          rintro e w7 ⟨rfl, hb7⟩
          have hk7b : w7.cell? ⟨w.heap.size + 1, 7, none⟩ = some (.int .i64 d.itv) := (cell_of_row _ _ 7 _ _ _ (block_at hb7 HGD5.out)).trans d.itv_at
          have HB7 := Lib.hid (bstep HB5.out hb7)
          clear hb7 hgi hgf hk7
          obtain ⟨p1, p2⟩ := pg
          dsimp only at HAN ⊢
          go_wp2
          go_ret2
          rw [HAN.out]
          refine ⟨_, _, rfl, fun _ => ⟨w7.heap.size, 0, rfl, by simp, fun j hj => ?_⟩, HB7.out.alloc HB7.out.size _⟩
          rw [Nat.zero_add, cell_of_row _ _ j _ _ _ (heap_alloc_new w7 _)]
          simp [wrCells]
        · have HAN : Hid (replaceOf m h d a r = ([], 2)) := by show _ = _; rw [HRE.out, if_neg (by omega), if_neg (by simp), if_pos (by omega)]
          have hne : ((x.size : Int) != (r.size : Int)) = true := by simp; omega
          clear hsz
          go_wp2
          go_ret2
          rw [HAN.out]
          exact repTo_err _ _ _ HB4.out
      · have HAN : Hid (replaceOf m h d a r = ([], k2)) := by show _ = _; rw [HRE.out, if_neg (by omega), if_pos hk2]
        have hn : (k2 != 0) = true := by simp [hk2]
        obtain ⟨A2, c2, rfl, _, _⟩ := own_row hown
        clear hk2 hown hb4
        go_wp2
        go_ret2
        rw [HAN.out]
        exact repTo_err _ _ _ HB4.out
  · have HAN : Hid (replaceOf m h d a r = ([], k)) := by
      show _ = _
      unfold replaceOf
      rw [← hk, if_pos hk0]
    obtain rfl := hcs1 hk0
    have hn : (k != 0) = true := by simp [hk0]
    clear hk hk0 hcs0 hcs1
    go_wp2_with (first | (refine wpl_store_fresh rfl 146 _ _ rfl zeroCl rfl 146 _ rfl (by rw [zeroCl_size]; exact info146) rfl zeroCl_one ?_; intro w2 hg2 hb2 hs2; have HB2 := Lib.hid (bstep HB1.out hb2); clear hg2 hb2 hs2) | fail)
    go_ret2
    rw [HAN.out]
    exact repTo_err _ _ _ HB2.out
end Go.Proofs.YtnkhifgppcnmkaaDoor

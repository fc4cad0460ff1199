/- Walks: the page that is being written: two, field, put, done, newPage. -/
import Derived.Test.YtnkhifgppcnmkaaDoorW3
import Derived.Lib.BufferWrite
namespace Go.Proofs.YtnkhifgppcnmkaaDoor
open Go.RowKit Iv

/-- Of the blocks that were there only those of S may have changed. -/
structure Chg (S : Nat → Prop) (w w' : World) : Prop where
  os : w'.os = w.os
  tape : w'.tape = w.tape
  output : w'.output = w.output
  size : w.heap.size ≤ w'.heap.size
  block : ∀ k, k < w.heap.size → ¬ S k → w'.heap[k]? = w.heap[k]?

section
variable {S T : Nat → Prop} {w w' w'' : World}
theorem Chg.refl (S : Nat → Prop) (w : World) : Chg S w w := ⟨rfl, rfl, rfl, Nat.le_refl _, fun _ _ _ => rfl⟩
theorem Chg.trans (h : Chg S w w') (h' : Chg S w' w'') : Chg S w w'' :=
  ⟨h'.os.trans h.os, h'.tape.trans h.tape, h'.output.trans h.output, Nat.le_trans h.size h'.size, fun k hk hn => (h'.block k (Nat.lt_of_lt_of_le hk h.size) hn).trans (h.block k hk hn)⟩
theorem Chg.mono (h : Chg S w w') (hS : ∀ k, S k → T k) : Chg T w w' := ⟨h.os, h.tape, h.output, h.size, fun k hk hn => h.block k hk (fun hs => hn (hS k hs))⟩
theorem Chg.of_below (h : Below w.heap.size w w') : Chg S w w' := ⟨h.os, h.tape, h.output, h.size, fun k hk _ => h.block k hk⟩
theorem Chg.below {B : Nat} (h : Chg S w w') (hS : ∀ k, S k → B ≤ k) (hB : B ≤ w.heap.size) : Below B w w' := ⟨h.os, h.tape, h.output, h.size, fun k hk => h.block k (by omega) (fun hs => by have := hS k hs; omega)⟩
theorem Chg.setCell (h : Chg S w w') {p : Addr} (hp : S p.block) (v : Value) : Chg S w (w'.setCell p v) :=
  h.trans ⟨rfl, rfl, rfl, by simp [World.setCell], fun k _ hn => Below.heap_setCell _ _ _ _ (fun e => by subst e; exact hn hp)⟩
theorem Chg.setRow (h : Chg S w w') {g : Nat} (hp : S g) (cs : Array Value) : Chg S w (w'.setRow g cs) :=
  h.trans ⟨rfl, rfl, rfl, by simp, fun k _ hn => setRow_other _ g k cs (fun e => by subst e; exact hn hp)⟩
theorem Chg.drew (h : Chg S w w') : Chg S w w'.drew := ⟨h.os, h.tape, h.output, h.size, h.block⟩
theorem Chg.drewN (h : Chg S w w') (n : Nat) : Chg S w (w'.drewN n) := h.trans (Chg.of_below (below_drewN (Below.refl _ _) n))
end

/-- The cells of bytes. -/
def u8s (bs : List UInt8) : Array Value := (bs.map fun c => Value.int .u8 ((c.toNat : Nat) : Int)).toArray
theorem u8s_size (bs : List UInt8) : (u8s bs).size = bs.length := by simp [u8s]
theorem u8s_get (bs : List UInt8) (i : Nat) (h : i < bs.length) : (u8s bs)[i]? = some (.int .u8 (((bs.getD i 0).toNat : Nat) : Int)) := by
  simp [u8s, List.getD, h]
theorem u8s_set (bs : List UInt8) (i : Nat) (v : UInt8) : (u8s bs).setIfInBounds i (.int .u8 ((v.toNat : Nat) : Int)) = u8s (bs.set i v) := by
  simp [u8s, List.map_set]
theorem u8s_zeros (n : Nat) : madeCells #[.int .u8 0] n = u8s (List.replicate n 0) := by
  have := toList_madeCells_one (.int .u8 0) n
  apply Array.toList_inj.1
  rw [this]
  simp [u8s]

/-- A page that is being written: its struct in block g, its bytes in block bb. -/
structure Pg (w : World) (g bb size : Nat) (bs : List UInt8) (left right : Nat) : Prop where
  fld : w.heap[g]? = some (.cells #[.slice (some ⟨bb, 0, none⟩) size size, .int .i64 left, .int .i64 right] 186 (0, 0))
  row : w.heap[bb]? = some (.cells (u8s bs) 5 (0, 0))
  len : bs.length = size

theorem Pg.ne {w : World} {g bb size : Nat} {bs : List UInt8} {l r : Nat} (h : Pg w g bb size bs l r) : g ≠ bb := by
  rintro rfl
  have := h.fld.symm.trans h.row
  simp at this

theorem Pg.keep {w w' : World} {g bb size : Nat} {bs : List UInt8} {l r : Nat} (h : Pg w g bb size bs l r) (hg : w'.heap[g]? = w.heap[g]?) (hb : w'.heap[bb]? = w.heap[bb]?) : Pg w' g bb size bs l r :=
  ⟨hg.trans h.fld, hb.trans h.row, h.len⟩

/-- The page's blocks. -/
def PS (g bb : Nat) (k : Nat) : Prop := k = g ∨ k = bb

theorem ofNat_toNat (n : Nat) : (((UInt8.ofNat n).toNat : Nat) : Int) = (n : Int) % 256 := by
  simp only [UInt8.toNat_ofNat']
  omega

/-- Two bytes set. -/
def set2 (bs : List UInt8) (i n : Nat) : List UInt8 := (bs.set i (UInt8.ofNat n)).set (i + 1) (UInt8.ofNat (n / 256))

theorem set2_length (bs : List UInt8) (i n : Nat) : (set2 bs i n).length = bs.length := by simp [set2]

theorem Pg.setByte {w : World} {g bb size : Nat} {bs : List UInt8} {l r : Nat} (h : Pg w g bb size bs l r) (i n : Nat) {x : Int} (hx : x = (n : Int) % 256) :
    Pg (w.setCell ⟨bb, i, none⟩ (.int .u8 x)) g bb size (bs.set i (UInt8.ofNat n)) l r := by
  subst hx
  refine ⟨?_, ?_, by rw [List.length_set]; exact h.len⟩
  · rw [heap_setCell_other _ _ _ _ h.ne]; exact h.fld
  · rw [heap_setCell_same _ _ _ _ _ _ h.row, ← ofNat_toNat, u8s_set]

theorem Pg.drew {w : World} {g bb size : Nat} {bs : List UInt8} {l r : Nat} (h : Pg w g bb size bs l r) : Pg w.drew g bb size bs l r := ⟨h.fld, h.row, h.len⟩

set_option maxHeartbeats 1600000 in
set_option maxRecDepth 100000 in
theorem two_any (w : World) (g bb size : Nat) (bs : List UInt8) (l r i n : Nat) (h : Pg w g bb size bs l r) (hi : i + 1 < size) (hs : size ≤ 1000) (hn : n < 65536) :
    Calls Tryd.prog 136 #[.pointer (some ⟨g, 0, none⟩), .int .i64 i, .int .i64 n] w fun e w' => e = .returned (.tuple #[]) ∧ Pg w' g bb size (set2 bs i n) l r ∧ Chg (PS g bb) w w' := by
  have hne := h.ne
  have hlen := h.len
  have hcf := cell_of_row _ _ 0 _ _ _ h.fld
  have hc1 := cell_of_row _ _ i _ _ _ h.row
  have hc2 := cell_of_row _ _ (i + 1) _ _ _ h.row
  rw [u8s_get _ _ (by omega)] at hc1 hc2
  have hf1 := frozen_of_row _ _ i _ _ h.row
  have hf2 := frozen_of_row _ _ (i + 1) _ _ h.row
  have H := Lib.hid h
  clear h hlen
  have q0 : (0 : Int) ≤ (i : Int) := by omega
  have q1 : (i : Int) < (size : Int) := by omega
  have q2 : (0 : Int) ≤ (i : Int) + 1 := by omega
  have q3 : (i : Int) + 1 < (size : Int) := by omega
  have q4 : ((i : Int) + 1).toNat = i + 1 := by omega
  go_enter Tryd.func136, Tryd.ntmps136
  obtain ⟨wo, rfl⟩ : ∃ wo : World, wo = w := ⟨_, rfl⟩
  go_wp2
  go_region
  go_end0
  exact ⟨rfl, ((H.out.setByte i n rfl).setByte (i + 1) (n / 256) (by omega)).drew, (((Chg.refl _ _).setCell (.inr rfl) _).setCell (.inr rfl) _).drew⟩

theorem two_at (w : World) (g bb size : Nat) (bs : List UInt8) (l r i n : Nat) (ii nn : Int) (hii : ii = i) (hnn : nn = n) (h : Pg w g bb size bs l r) (hi : i + 1 < size) (hs : size ≤ 1000) (hn : n < 65536) :
    Calls Tryd.prog 136 #[.pointer (some ⟨g, 0, none⟩), .int .i64 ii, .int .i64 nn] w fun e w' => e = .returned (.tuple #[]) ∧ Pg w' g bb size (set2 bs i n) l r ∧ Chg (PS g bb) w w' := by
  subst hii
  subst hnn
  exact two_any w g bb size bs l r i n h hi hs hn

theorem Pg.setLeft {w : World} {g bb size : Nat} {bs : List UInt8} {l r : Nat} (h : Pg w g bb size bs l r) (k : Nat) : Pg (w.setCell ⟨g, 1, none⟩ (.int .i64 k)) g bb size bs k r := by
  refine ⟨?_, ?_, h.len⟩
  · rw [heap_setCell_same _ _ _ _ _ _ h.fld]; rfl
  · rw [heap_setCell_other _ _ _ _ (Ne.symm h.ne)]; exact h.row
theorem Pg.setRight {w : World} {g bb size : Nat} {bs : List UInt8} {l r : Nat} (h : Pg w g bb size bs l r) (k : Nat) : Pg (w.setCell ⟨g, 2, none⟩ (.int .i64 k)) g bb size bs l k := by
  refine ⟨?_, ?_, h.len⟩
  · rw [heap_setCell_same _ _ _ _ _ _ h.fld]; rfl
  · rw [heap_setCell_other _ _ _ _ (Ne.symm h.ne)]; exact h.row

set_option maxHeartbeats 1600000 in
set_option maxRecDepth 100000 in
theorem field_any (w : World) (g bb size : Nat) (bs : List UInt8) (l r n : Nat) (c : Nat) (h : Pg w g bb size bs l r) (hl3 : 3 ≤ l) (hl : l ≤ size) (hs : size ≤ 1000) (hc : c < 256) (hn : n < 65536) :
    Calls Tryd.prog 93 #[.pointer (some ⟨g, 0, none⟩), .int .u8 c, .int .i64 n] w fun e w' => e = .returned (.tuple #[]) ∧ Pg w' g bb size (set2 (bs.set (l - 3) (UInt8.ofNat c)) (l - 3 + 1) n) (l - 3) r ∧ Chg (PS g bb) w w' := by
  have hne := h.ne
  have hlen := h.len
  obtain ⟨k, hk⟩ : ∃ k, k = l - 3 := ⟨_, rfl⟩
  have hlk : (l : Int) - 3 = (k : Int) := by omega
  have hks : (k : Int) < (size : Int) := by omega
  have hkk : k + 3 ≤ size := by omega
  have hcf := cell_of_row _ _ 0 _ _ _ h.fld
  have hcl := cell_of_row _ _ 1 _ _ _ h.fld
  have hfl := frozen_of_row _ _ 1 _ _ h.fld
  have hck := cell_of_row _ _ k _ _ _ h.row
  rw [u8s_get _ _ (by omega)] at hck
  have hfk := frozen_of_row _ _ k _ _ h.row
  rw [← hk]
  have H := Lib.hid h
  clear h hlen hk
  go_enter Tryd.func93, Tryd.ntmps93
  go_wp2
  go_region
  have HP : Hid (Pg ((w.setCell ⟨g, 1, none⟩ (.int .i64 k)).setCell ⟨bb, k, none⟩ (.int .u8 c)) g bb size (bs.set k (UInt8.ofNat c)) k r) := (H.out.setLeft k).setByte k c (by omega)
  go_wp2_with fail
  refine (two_at _ g bb size _ k r (k + 1) n _ _ (by omega) rfl HP.out.drew (by omega) hs hn).mono ?_
  rintro e w2 ⟨rfl, hp, hch⟩
  go_wp2
  go_end0
  exact ⟨rfl, hp, (((Chg.refl _ _).setCell (.inl rfl) _).setCell (.inr rfl) _).drew.trans hch⟩

set_option maxHeartbeats 1600000 in
set_option maxRecDepth 100000 in
theorem newPage_any (size : Nat) (w : World) (hs : size ≤ 1000) (h4 : 4 ≤ size) :
    Calls Tryd.prog 90 #[.int .i64 size] w fun e w' => e = .returned (.pointer (some ⟨w.heap.size + 1, 0, none⟩)) ∧ Pg w' (w.heap.size + 1) w.heap.size size (List.replicate size 0) (size - 4) 0 ∧ w'.heap.size = w.heap.size + 2 ∧ Below w.heap.size w w' := by
  have hmk := make_bytes size (by omega)
  go_enter Tryd.func90, Tryd.ntmps90
  go_wp2
  go_ret
  refine ⟨rfl, ⟨?_, ?_, by simp⟩, by simp, ((Below.refl _ _).alloc (Nat.le_refl _) _).alloc (by simp) _⟩
  · rw [heap_at_alloc (by simp), show ((size - 4 : Nat) : Int) = (size : Int) - 4 by omega]; rfl
  · rw [Below.heap_alloc _ _ _ (by simp), heap_alloc_new, u8s_zeros]

theorem info5s : (Tryd.prog.info? 5).map (·.size) = some 1 := by kernel_rfl

theorem u8s_splice (bs : List UInt8) (r : Nat) (s : ByteArray) :
    ((u8s bs).toList.take r ++ Lib.byteCells s.data.toList ++ (u8s bs).toList.drop (r + s.size)).toArray = u8s (bs.take r ++ s.data.toList ++ bs.drop (r + s.size)) := by
  apply Array.toList_inj.1
  simp [u8s, Lib.byteCells]

set_option maxHeartbeats 1600000 in
set_option maxRecDepth 100000 in
theorem put_any (w : World) (g bb size : Nat) (bs : List UInt8) (l r : Nat) (s : ByteArray) (h : Pg w g bb size bs l r) (hr : r + s.size ≤ size) (hs : size ≤ 1000) :
    Calls Tryd.prog 94 #[.pointer (some ⟨g, 0, none⟩), .string s] w fun e w' => e = .returned (.tuple #[]) ∧ Pg w' g bb size (bs.take r ++ s.data.toList ++ bs.drop (r + s.size)) l (r + s.size) ∧ Chg (PS g bb) w w' := by
  have hne := h.ne
  have hlen := h.len
  have hcf := cell_of_row _ _ 0 _ _ _ h.fld
  have hcr := cell_of_row _ _ 2 _ _ _ h.fld
  have hfr := frozen_of_row _ _ 2 _ _ h.fld
  by_cases h0 : s.size = 0
  · have hcp := fun ty d dl dc => Lib.run_copy_empty_string (P := Tryd.prog) w.drew 57 9 ty 5 d dl dc s Tryd.underlying57 (by rw [info5s]; rfl) h0
    have q1 : (0 : Int) ≤ (r : Int) := by omega
    have q2 : (r : Int) ≤ (size : Int) := by omega
    have hnb : bs.take r ++ s.data.toList ++ bs.drop (r + s.size) = bs := by
      have : s.data.toList = [] := List.eq_nil_of_length_eq_zero (by simpa using h0)
      rw [this, h0]; simp
    rw [hnb, h0, Nat.add_zero]
    clear hnb
    have H := Lib.hid h
    clear h hlen
    go_enter Tryd.func94, Tryd.ntmps94
    go_wp2
    go_region
    go_end0
    exact ⟨rfl, H.out.drew.setRight _, (Chg.refl _ _).drew.setCell (.inl rfl) _⟩
  · have hrs : r < size := by omega
    have q1 : (0 : Int) ≤ (r : Int) := by omega
    have q2 : (r : Int) ≤ (size : Int) := by omega
    have hcp := fun ty => Lib.run_copy_row_string (P := Tryd.prog) w.drew 57 9 ty 5 bb r (size - r) (size - r) s (u8s bs) 5 Tryd.underlying57 info5s h.row (by omega) (by rw [u8s_size]; omega)
    rw [u8s_splice] at hcp
    obtain ⟨nb, hnb⟩ : ∃ nb, nb = bs.take r ++ s.data.toList ++ bs.drop (r + s.size) := ⟨_, rfl⟩
    rw [← hnb] at hcp ⊢
    have hrow' : (w.drew.setRow bb (u8s nb)).cell? ⟨g, 2, none⟩ = w.cell? ⟨g, 2, none⟩ := cell_setRow_other _ _ _ _ hne
    rw [hcr] at hrow'
    have hfrow' : (w.drew.setRow bb (u8s nb)).frozen? ⟨g, 2, none⟩ = false := by
      have : (w.drew.setRow bb (u8s nb)).heap[g]? = w.heap[g]? := setRow_other _ _ _ _ hne
      simp only [World.frozen?] at hfr ⊢
      rw [this]
      exact hfr
    have HNB : Hid (nb.length = size) := by
      show _ = _
      have e : s.data.toList.length = s.size := by simp
      rw [hnb]
      simp only [List.length_append, List.length_take, List.length_drop]
      omega
    have HP : Hid (Pg (w.drew.setRow bb (u8s nb)) g bb size nb l r) := ⟨(setRow_other _ _ _ _ hne).trans h.fld, setRow_heap _ _ _ _ _ _ h.row, HNB.out⟩
    have hsz : (r : Int) + (s.size : Int) = ((r + s.size : Nat) : Int) := by omega
    have HSZ := Lib.hid hsz
    clear h hlen hnb hsz
    go_enter Tryd.func94, Tryd.ntmps94
    go_wp2
    go_region
    go_end0
    refine ⟨rfl, ?_, ((Chg.refl _ _).drew.setRow (.inr rfl) _).setCell (.inl rfl) _⟩
    rw [HSZ.out]
    exact HP.out.setRight _

/-- Behind the last two numbers the page is this text. -/
theorem done_text (size : Nat) (c f : List UInt8) (h : 4 + c.length + f.length ≤ size) :
    set2 (set2 (c ++ (List.replicate (size - 4 - c.length - f.length) 0 ++ (f ++ [0, 0, 0, 0]))) (size - 4) c.length) (size - 2) (size - 4 - f.length - c.length) = whole size c f := by
  have hl : (c ++ (List.replicate (size - 4 - c.length - f.length) (0 : UInt8) ++ f)).length = size - 4 := by simp; omega
  rw [show c ++ (List.replicate (size - 4 - c.length - f.length) (0 : UInt8) ++ (f ++ [0, 0, 0, 0])) = (c ++ (List.replicate (size - 4 - c.length - f.length) 0 ++ f)) ++ [0, 0, 0, 0] by simp]
  unfold set2 whole
  rw [List.set_append_right _ _ (by omega), List.set_append_right _ _ (by omega), List.set_append_right _ _ (by omega), List.set_append_right _ _ (by omega), hl]
  rw [show size - 4 - (size - 4) = 0 by omega, show size - 4 + 1 - (size - 4) = 1 by omega, show size - 2 - (size - 4) = 2 by omega, show size - 2 + 1 - (size - 4) = 3 by omega]
  rw [show size - 4 - f.length - c.length = size - 4 - c.length - f.length by omega]
  simp

set_option maxHeartbeats 1600000 in
set_option maxRecDepth 100000 in
theorem done_any (w : World) (g bb size : Nat) (c f : List UInt8) (h : Pg w g bb size (c ++ (List.replicate (size - 4 - c.length - f.length) 0 ++ (f ++ [0, 0, 0, 0]))) (size - 4 - f.length) c.length) (hfit : 4 + c.length + f.length ≤ size) (hs : size ≤ 1000) :
    Calls Tryd.prog 95 #[.pointer (some ⟨g, 0, none⟩)] w fun e w' => e = .returned (.string (ofL (whole size c f))) ∧ Chg (PS g bb) w w' := by
  have HT := Lib.hid (done_text size c f hfit)
  have hlen := h.len
  obtain ⟨bs, hbs⟩ : ∃ bs, bs = c ++ (List.replicate (size - 4 - c.length - f.length) 0 ++ (f ++ [0, 0, 0, 0])) := ⟨_, rfl⟩
  rw [← hbs] at h HT hlen
  obtain ⟨r, hr⟩ : ∃ r, r = c.length := ⟨_, rfl⟩
  obtain ⟨l, hl⟩ : ∃ l, l = size - 4 - f.length := ⟨_, rfl⟩
  rw [← hr, ← hl] at h HT
  have hr' : r ≤ l := by omega
  have hl' : l ≤ 1000 := by omega
  have h4 : 4 ≤ size := by omega
  have hne := h.ne
  have hcf := cell_of_row _ _ 0 _ _ _ h.fld
  have hcl := cell_of_row _ _ 1 _ _ _ h.fld
  have hcr := cell_of_row _ _ 2 _ _ _ h.fld
  have H := Lib.hid h
  clear h hbs hr hl hlen hfit
  go_enter Tryd.func95, Tryd.ntmps95
  go_wp2
  go_region_held3 (fun w' => w'.cell? ⟨g, 0, none⟩ = some (.slice (some ⟨bb, 0, none⟩) size size) ∧ w'.cell? ⟨g, 2, none⟩ = some (.int .i64 r)) (first | go_keep | exact ⟨by rw [cell_of_row _ _ 0 _ _ _ hp.fld]; rfl, by rw [cell_of_row _ _ 2 _ _ _ hp.fld]; rfl⟩) (first | (go_at_call 136; refine (two_at _ g bb size _ l r (size - 4) r _ _ (by rw [IntKind.wrap_i64]; omega) rfl H.out.drew (by omega) hs (by omega)).mono ?_; rintro e w2 ⟨rfl, hp, hch⟩))
  have d0 := cell_of_row _ _ 0 _ _ _ hp.fld
  have d1 := cell_of_row _ _ 1 _ _ _ hp.fld
  have d2 := cell_of_row _ _ 2 _ _ _ hp.fld
  have HP := Lib.hid hp
  have HCH := Lib.hid hch
  clear hcf hcl hcr hp hch
  go_wp2
  go_region_held3 (fun w' => w'.cell? ⟨g, 0, none⟩ = some (.slice (some ⟨bb, 0, none⟩) size size) ∧ w'.cell? ⟨g, 1, none⟩ = some (.int .i64 l) ∧ w'.cell? ⟨g, 2, none⟩ = some (.int .i64 r)) (first | go_keep | exact ⟨by rw [cell_of_row _ _ 0 _ _ _ hp.fld]; rfl, by rw [cell_of_row _ _ 1 _ _ _ hp.fld]; rfl, by rw [cell_of_row _ _ 2 _ _ _ hp.fld]; rfl⟩) (first | (go_at_call 136; refine (two_at _ g bb size _ l r (size - 2) (l - r) _ _ (by rw [IntKind.wrap_i64]; omega) (by rw [IntKind.wrap_i64]; omega) HP.out.drew (by omega) hs (by omega)).mono ?_; rintro e w3 ⟨rfl, hp, hch⟩))
  have HL := Lib.hid hp.len
  have hcv := conv_bytes w3 bb 0 size (set2 (set2 bs (size - 4) r) (size - 2) (l - r)) (fun i hi => by
    rw [Nat.zero_add, cell_of_row _ _ i _ _ _ hp.row, u8s_get _ _ hi])
  rw [HL.out, HT.out] at hcv
  have e0 := cell_of_row _ _ 0 _ _ _ hp.fld
  have HCH2 := Lib.hid hch
  clear hp hch d0 d1 d2
  go_wp2
  go_ret
  exact ⟨rfl, ((Chg.refl _ _).drew.trans HCH.out).trans ((Chg.refl _ _).drew.trans HCH2.out)⟩
end Go.Proofs.YtnkhifgppcnmkaaDoor

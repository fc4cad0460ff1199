/- Walks: Encode and Fits. -/
import Derived.Test.YtnkhifgppcnmkaaDoorW4
namespace Go.Proofs.YtnkhifgppcnmkaaDoor
open Go.RowKit Iv

/-- A page whose fields are f, still without contents. -/
def PgF (w : World) (g bb size : Nat) (f : List UInt8) : Prop := Pg w g bb size (List.replicate (size - 4 - f.length) 0 ++ (f ++ [0, 0, 0, 0])) (size - 4 - f.length) 0

theorem field_text (l c n : Nat) (x : List UInt8) (h : 3 ≤ l) :
    set2 ((List.replicate l (0 : UInt8) ++ x).set (l - 3) (UInt8.ofNat c)) (l - 3 + 1) n = List.replicate (l - 3) 0 ++ (fld c n ++ x) := by
  obtain ⟨k, rfl⟩ : ∃ k, l = k + 3 := ⟨l - 3, by omega⟩
  have e : List.replicate (k + 3) (0 : UInt8) ++ x = List.replicate k 0 ++ (0 :: 0 :: 0 :: x) := by
    rw [show k + 3 = k + 1 + 1 + 1 by omega, List.replicate_succ', List.replicate_succ', List.replicate_succ']
    simp
  rw [e, show k + 3 - 3 = k by omega]
  unfold set2
  rw [List.set_append_right _ _ (by rw [List.length_replicate]; omega), List.set_append_right _ _ (by rw [List.length_replicate]; omega), List.set_append_right _ _ (by rw [List.length_replicate]; omega)]
  simp only [List.length_replicate, Nat.sub_self, show k + 1 - k = 1 by omega, show k + 1 + 1 - k = 2 by omega]
  rfl

theorem fld_length (c n : Nat) : (fld c n).length = 3 := rfl

theorem fieldF_any (w : World) (g bb size : Nat) (f : List UInt8) (c n : Nat) (ci ni : Int) (hci : ci = c) (hni : ni = n) (h : PgF w g bb size f) (hf : f.length + 7 ≤ size) (hs : size ≤ 1000) (hc : c < 256) (hn : n < 65536) :
    Calls Tryd.prog 93 #[.pointer (some ⟨g, 0, none⟩), .int .u8 ci, .int .i64 ni] w fun e w' => e = .returned (.tuple #[]) ∧ PgF w' g bb size (fld c n ++ f) ∧ Chg (PS g bb) w w' := by
  subst hci
  subst hni
  refine (field_any w g bb size _ _ _ n c h (by omega) (by omega) hs hc hn).mono ?_
  rintro e w' ⟨rfl, hp, hch⟩
  refine ⟨rfl, ?_, hch⟩
  rw [field_text _ _ _ _ (by omega)] at hp
  unfold PgF
  rw [List.length_append, fld_length, show size - 4 - (3 + f.length) = size - 4 - f.length - 3 by omega, List.append_assoc]
  exact hp

/-- The variable that holds the page's address. -/
def PVar (w : World) (pv g : Nat) : Prop := w.heap[pv]? = some (.cells #[.pointer (some ⟨g, 0, none⟩)] 134 (0, 0))

theorem PVar.chg {w w' : World} {pv g bb size l r : Nat} {bs : List UInt8} (h : PVar w pv g) (hp : Pg w g bb size bs l r) (hch : Chg (PS g bb) w w') : PVar w' pv g := by
  have h1 : pv ≠ g := by
    rintro rfl
    have := h.symm.trans hp.fld
    simp at this
  have h2 : pv ≠ bb := by
    rintro rfl
    have := h.symm.trans hp.row
    simp at this
  exact (hch.block pv (blk_lt h) (fun hs => by rcases hs with hs | hs <;> contradiction)).trans h

set_option maxHeartbeats 800000 in
set_option maxRecDepth 100000 in
theorem encode1_any (w : World) (pv g bb size : Nat) (f : List UInt8) (r : Nat × Nat) (h : PgF w g bb size f) (hpv : PVar w pv g) (hf : (addRun f r).length + 4 ≤ size) (hs : size ≤ 1000) (h1 : 1 ≤ r.1) (hr1 : r.1 < 65536) (hr2 : r.2 < 65536) :
    Calls Tryd.prog 92 #[.int .i64 (r.1 : Nat), .int .i64 (r.2 : Nat), .pointer (some ⟨pv, 0, none⟩)] w fun e w' => e = .returned (.tuple #[]) ∧ PgF w' g bb size (addRun f r) ∧ PVar w' pv g ∧ Chg (PS g bb) w w' := by
  obtain ⟨n, m⟩ := r
  dsimp only at h1 hr1 hr2 ⊢
  have hcv := cell_of_row _ _ 0 _ _ _ hpv
  have hlen := addRun_length f (n, m) h1
  dsimp only at hlen
  rw [hlen] at hf
  have HP := Lib.hid h
  have HV := Lib.hid hpv
  clear h hpv
  unfold addRun
  dsimp only
  by_cases hn1 : n = 1
  · have hne : ((n : Int) == 1) = true := by simp [hn1]
    rw [if_pos hn1]
    have hmin : min n 2 = 1 := by omega
    rw [hmin] at hf
    clear hn1 hmin hlen
    go_enter Tryd.func92, Tryd.ntmps92
    go_wp2_with fail
    refine (fieldF_any _ g bb size f 0 m _ _ rfl rfl HP.out (by omega) hs (by omega) hr2).mono ?_
    rintro e w2 ⟨rfl, hp2, hch⟩
    have HP2 := Lib.hid hp2
    have HCH := Lib.hid hch
    clear hp2 hch
    go_wp2
    exact bodyPost_ret (v := .tuple #[]) (results_none rfl _ _ _) rfl ⟨rfl, HP2.out, HV.out.chg HP.out HCH.out, HCH.out⟩
  · have hne : ((n : Int) == 1) = false := by simp only [beq_eq_false_iff_ne, ne_eq]; omega
    rw [if_neg hn1]
    have hmin : min n 2 = 2 := by omega
    rw [hmin] at hf
    clear hn1 hmin hlen
    go_enter Tryd.func92, Tryd.ntmps92
    go_wp2_with fail
    refine (fieldF_any _ g bb size f 64 m _ _ rfl rfl HP.out (by omega) hs (by omega) hr2).mono ?_
    rintro e w2 ⟨rfl, hp2, hch⟩
    have hv2 := HV.out.chg HP.out hch
    have hcv2 := cell_of_row _ _ 0 _ _ _ hv2
    have HV2 := Lib.hid hv2
    have HP2 := Lib.hid hp2
    have HCH := Lib.hid hch
    clear hp2 hch hv2 hcv
    go_wp2_with fail
    refine (fieldF_any _ g bb size _ 8 n _ _ rfl rfl HP2.out (by rw [List.length_append, fld_length]; omega) hs (by omega) hr1).mono ?_
    rintro e w3 ⟨rfl, hp3, hch2⟩
    have HP3 := Lib.hid hp3
    have HCH2 := Lib.hid hch2
    clear hp3 hch2
    go_wp2
    go_end0
    exact ⟨rfl, HP3.out, HV2.out.chg HP2.out HCH2.out, HCH.out.trans HCH2.out⟩

theorem call92 (args : Array Value) (w : World) : (callFunc 92 args).run Tryd.prog w = .ok (.enter 92 args) w := by
  kernel_rfl

theorem put_text (c x : List UInt8) (z : Nat) (s : ByteArray) (h : s.size ≤ z) :
    (c ++ (List.replicate z (0 : UInt8) ++ x)).take c.length ++ s.data.toList ++ (c ++ (List.replicate z (0 : UInt8) ++ x)).drop (c.length + s.size) = (c ++ s.data.toList) ++ (List.replicate (z - s.size) 0 ++ x) := by
  rw [List.take_left, ← List.drop_drop, List.drop_left]
  congr 1
  rw [List.drop_append_of_le_length (by simpa using h), List.drop_replicate]

/-- A page with contents c and fields f. -/
def PgC (w : World) (g bb size : Nat) (c f : List UInt8) : Prop := Pg w g bb size (c ++ (List.replicate (size - 4 - c.length - f.length) 0 ++ (f ++ [0, 0, 0, 0]))) (size - 4 - f.length) c.length

theorem PgF.toC {w : World} {g bb size : Nat} {f : List UInt8} (h : PgF w g bb size f) : PgC w g bb size [] f := by
  unfold PgC
  unfold PgF at h
  simpa using h

theorem putC_any (w : World) (g bb size : Nat) (c f : List UInt8) (s : ByteArray) (h : PgC w g bb size c f) (hf : 4 + c.length + f.length + s.size ≤ size) (hs : size ≤ 1000) :
    Calls Tryd.prog 94 #[.pointer (some ⟨g, 0, none⟩), .string s] w fun e w' => e = .returned (.tuple #[]) ∧ PgC w' g bb size (c ++ s.data.toList) f ∧ Chg (PS g bb) w w' := by
  refine (put_any w g bb size _ _ _ s h (by omega) hs).mono ?_
  rintro e w' ⟨rfl, hp, hch⟩
  refine ⟨rfl, ?_, hch⟩
  rw [put_text _ _ _ _ (by omega)] at hp
  unfold PgC
  have e : s.data.toList.length = s.size := by simp
  rw [List.length_append, e, show size - 4 - (c.length + s.size) - f.length = size - 4 - c.length - f.length - s.size by omega]
  exact hp

theorem newPageF_any (size : Nat) (w : World) (hs : size ≤ 1000) (h4 : 4 ≤ size) :
    Calls Tryd.prog 90 #[.int .i64 size] w fun e w' => e = .returned (.pointer (some ⟨w.heap.size + 1, 0, none⟩)) ∧ PgF w' (w.heap.size + 1) w.heap.size size [] ∧ w'.heap.size = w.heap.size + 2 ∧ Below w.heap.size w w' := by
  refine (newPage_any size w hs h4).mono ?_
  rintro e w' ⟨rfl, hp, hz, hb⟩
  refine ⟨rfl, ?_, hz, hb⟩
  unfold PgF
  have e : List.replicate (size - 4 - ([] : List UInt8).length) (0 : UInt8) ++ ([] ++ [0, 0, 0, 0]) = List.replicate size 0 := by
    have : ([0, 0, 0, 0] : List UInt8) = List.replicate 4 0 := rfl
    rw [List.nil_append, this, List.replicate_append_replicate]
    congr 1
    simp
    omega
  rw [e]
  exact hp

theorem fields_prefix (l : List ByteArray) (k : Nat) : (((runsOf l).take k).foldl addRun []).length ≤ (fieldsOf l).length := by
  unfold fieldsOf
  conv => rhs; rw [← List.take_append_drop k (runsOf l), List.foldl_append]
  rw [foldl_fields_length ((runsOf l).drop k) (fun r hr => runs_pos l r (List.mem_of_mem_drop hr))]
  omega

theorem content_take (l : List ByteArray) (k : Nat) (h : k < l.length) : content (l.take (k + 1)) = content (l.take k) ++ (l.getD k ByteArray.empty).data.toList := by
  rw [List.take_succ_eq_append_getElem h, content_append]
  simp [content, List.getD, h]

theorem content_prefix (l : List ByteArray) (k : Nat) : (content (l.take k)).length ≤ (content l).length := by
  conv => rhs; rw [← List.take_append_drop k l, content_append, List.length_append]
  omega

set_option maxHeartbeats 3200000 in
set_option maxRecDepth 100000 in
theorem encode_any (size : Int) (A : Option Addr) (c : Nat) (l : List ByteArray) (w : World) (hl : l.length ≤ 1000) (hr : ∀ s ∈ l, s.size ≤ 1000) (hc : l.length ≤ c) (hs : StrsA w A l) :
    Calls Tryd.prog 36 #[.int .i64 size, .slice A l.length c] w fun e w' => e = .returned (.tuple #[.string (encodeOf size l).1, .int .i64 (encodeOf size l).2]) ∧ Below w.heap.size w w' := by
  have HS := Lib.hid hs
  have HR := Lib.hid hr
  have hlm : l.length ≤ maxLen := by unfold maxLen; omega
  have HLM := Lib.hid hlm
  clear hs hr hlm
  cases h1 : isSz size with
  | false =>
    have he : encodeOf size l = (ByteArray.empty, 1) := by unfold encodeOf; rw [if_pos h1]
    rw [he]
    go_enter Tryd.func36, Tryd.ntmps36
    go_wp2_with fail
    refine (isSize_any _ _).mono ?_
    rintro e w' ⟨rfl, rfl⟩
    go_wp2
    go_ret2
    exact ⟨rfl, Below.refl _ _⟩
  | true =>
    cases h2 : okRec l with
    | false =>
      have he : encodeOf size l = (ByteArray.empty, 2) := by unfold encodeOf; rw [if_neg (by simp [h1]), if_pos h2]
      rw [he]
      go_enter Tryd.func36, Tryd.ntmps36
      go_wp2_with fail
      refine (isSize_any _ _).mono ?_
      rintro e w' ⟨rfl, rfl⟩
      go_wp2_with fail
      refine (allowed_any A c l _ HLM.out HS.out).mono ?_
      rintro e w' ⟨rfl, rfl⟩
      go_wp2
      go_ret2
      exact ⟨rfl, Below.refl _ _⟩
    | true =>
      by_cases h3 : size < (szOf l : Int)
      · have he : encodeOf size l = (ByteArray.empty, 8) := by unfold encodeOf; rw [if_neg (by simp [h1]), if_neg (by simp [h2]), if_pos h3]
        rw [he]
        go_enter Tryd.func36, Tryd.ntmps36
        go_wp2_with fail
        refine (isSize_any _ _).mono ?_
        rintro e w' ⟨rfl, rfl⟩
        go_wp2_with fail
        refine (allowed_any A c l _ HLM.out HS.out).mono ?_
        rintro e w' ⟨rfl, rfl⟩
        go_wp2_with fail
        refine (size_any A c l _ hl HR.out hc HS.out).mono ?_
        rintro e w1 ⟨rfl, hb1⟩
        go_wp2
        go_ret2
        exact ⟨rfl, hb1⟩
      · have he : encodeOf size l = (ofL (whole size.toNat (content l) (fieldsOf l)), 0) := by unfold encodeOf; rw [if_neg (by simp [h1]), if_neg (by simp [h2]), if_neg h3]
        rw [he]
        obtain ⟨n, rfl, hn, hn2⟩ : ∃ n : Nat, size = n ∧ n ≤ 512 ∧ 128 ≤ n := by
          rcases isSz_cases h1 with h | h | h <;> subst h
          · exact ⟨128, rfl, by omega, by omega⟩
          · exact ⟨256, rfl, by omega, by omega⟩
          · exact ⟨512, rfl, by omega, by omega⟩
        rw [Int.toNat_natCast]
        have hsum : 4 + (content l).length + (fieldsOf l).length ≤ n := by have := sizes l; omega
        have HSUM := Lib.hid hsum
        clear hsum he
        go_enter Tryd.func36, Tryd.ntmps36
        go_wp2_with fail
        refine (isSize_any _ _).mono ?_
        rintro e w' ⟨rfl, rfl⟩
        go_wp2_with fail
        refine (allowed_any A c l _ HLM.out HS.out).mono ?_
        rintro e w' ⟨rfl, rfl⟩
        go_wp2_with fail
        refine (size_any A c l _ hl HR.out hc HS.out).mono ?_
        rintro e w1 ⟨rfl, hb1⟩
        go_wp2_with fail
        refine (newPageF_any n _ (by omega) (by omega)).mono ?_
        rintro e w2 ⟨rfl, hp2, hz2, hb2⟩
        have hb12 := bstep hb1 hb2
        have hpv2 : PVar (w2.alloc (.cells #[.pointer (some ⟨w1.heap.size + 1, 0, none⟩)] 134)) (w1.heap.size + 2) (w1.heap.size + 1) := heap_at_alloc hz2
        have hp2' : PgF (w2.alloc (.cells #[.pointer (some ⟨w1.heap.size + 1, 0, none⟩)] 134)) (w1.heap.size + 1) w1.heap.size n [] := Pg.keep hp2 (Below.heap_alloc _ _ _ (by omega)) (Below.heap_alloc _ _ _ (by omega))
        have hb2' : Below w.heap.size w (w2.alloc (.cells #[.pointer (some ⟨w1.heap.size + 1, 0, none⟩)] 134)) := hb12.alloc hb12.size _
        have hw1 := hb1.size
        have HRUNS := Lib.hid (runs_any 92 ⟨w1.heap.size + 2, 0, none⟩ A c l (w2.alloc (.cells #[.pointer (some ⟨w1.heap.size + 1, 0, none⟩)] 134)) (by omega) hc
          (fun k wr => PgF wr (w1.heap.size + 1) w1.heap.size n (((runsOf l).take k).foldl addRun []) ∧ PVar wr (w1.heap.size + 2) (w1.heap.size + 1) ∧ Below w.heap.size w wr)
          (fun k w' h => HS.out.keep h.2.2)
          (fun k w' r hk h => by
            have hmem : r ∈ runsOf l := List.mem_of_getElem? hk
            have hbd := runs_bound l 1000 HR.out r hmem
            have hpos := runs_pos l r hmem
            obtain ⟨hlt, hrk⟩ := List.getElem?_eq_some_iff.1 hk
            have hstep : ((runsOf l).take (k + 1)).foldl addRun [] = addRun (((runsOf l).take k).foldl addRun []) r := by
              rw [List.take_succ_eq_append_getElem hlt, List.foldl_append, hrk]; rfl
            have hfb := fields_prefix l (k + 1)
            rw [hstep] at hfb
            refine (encode1_any w' (w1.heap.size + 2) (w1.heap.size + 1) w1.heap.size n _ r h.1 h.2.1 (by have := HSUM.out; omega) (by omega) hpos (by omega) (by omega)).mono ?_
            rintro e w'' ⟨rfl, hp, hv, hch⟩
            refine ⟨rfl, by rw [hstep]; exact hp, hv, h.2.2.trans (hch.below (fun k hk => by rcases hk with rfl | rfl <;> omega) h.2.2.size)⟩)
          (fun k w' m h => ⟨Pg.keep h.1 rfl rfl, h.2.1, below_drewN h.2.2 m⟩)
          call92 ⟨hp2', hpv2, hb2'⟩)
        clear hp2 hb12 hpv2 hp2' hb2' hb2 hb1
        go_wp2_with fail
        refine HRUNS.out.mono ?_
        rintro e w3 ⟨rfl, hp3, hv3, hb3⟩
        clear HRUNS
        rw [List.take_length] at hp3
        have hp3' : PgC w3 (w1.heap.size + 1) w1.heap.size n [] (fieldsOf l) := PgF.toC hp3
        have HP3 := Lib.hid hp3'
        have HV3 := Lib.hid hv3
        have HB3 := Lib.hid hb3
        clear hp3 hp3' hv3 hb3
        go_wp2
        go_loopw [29] (fun i wr => ∃ k : Nat, k ≤ l.length ∧ i = .int .i64 k ∧ PgC wr (w1.heap.size + 1) w1.heap.size n (content (l.take k)) (fieldsOf l) ∧ PVar wr (w1.heap.size + 2) (w1.heap.size + 1) ∧ Below w.heap.size w wr) (fun i _ => l.length - (intOf i).toNat)
        case atStart => exact ⟨0, by omega, rfl, HP3.out, HV3.out, HB3.out⟩
        case round =>
          obtain ⟨k, hk, rfl, hp, hv, hb⟩ := hrel
          have hcv := cell_of_row _ _ 0 _ _ _ hv
          by_cases hlt : k < l.length
          · obtain ⟨b, o, rfl, hbl, hcell⟩ := (HS.out.keep hb) (by omega)
            have hck := hcell k hlt
            have HT := Lib.hid (content_take l k hlt)
            have HPF := Lib.hid (content_prefix l (k + 1))
            obtain ⟨s, hs⟩ : ∃ s, s = l.getD k ByteArray.empty := ⟨_, rfl⟩
            rw [← hs] at hck HT
            have HP := Lib.hid hp
            have HV := Lib.hid hv
            clear hp hv hcell hs
            go_wp2_with fail
            refine (putC_any _ _ _ n _ _ s HP.out (by have h1 := HSUM.out; have h2 := HPF.out; rw [HT.out, List.length_append] at h2; have e : s.data.toList.length = s.size := by simp
                                                      omega) (by omega)).mono ?_
            rintro e w4 ⟨rfl, hp4, hch⟩
            have HP4 := Lib.hid hp4
            have HCH := Lib.hid hch
            clear hp4 hch
            go_wp2
            refine ⟨⟨k + 1, by omega, by go_num, ?_, HV.out.chg HP.out HCH.out, hb.trans (HCH.out.below (fun k hk => by rcases hk with rfl | rfl <;> omega) hb.size)⟩, by simp [intOf]; omega⟩
            rw [HT.out]
            exact HP4.out
          · have hkl : k = l.length := by omega
            have HP : Hid (PgC wr (w1.heap.size + 1) w1.heap.size n (content l) (fieldsOf l)) := by
              show PgC _ _ _ _ _ _
              rw [List.take_of_length_le (by omega)] at hp
              exact hp
            clear hp hv
            go_wp2_with fail
            refine (done_any wr (w1.heap.size + 1) w1.heap.size n (content l) (fieldsOf l) HP.out HSUM.out (by omega)).mono ?_
            rintro e w4 ⟨rfl, hch⟩
            have HCH := Lib.hid hch
            clear hch
            go_wp2
            go_ret2
            exact ⟨rfl, hb.trans (HCH.out.below (fun k hk => by rcases hk with rfl | rfl <;> omega) hb.size)⟩

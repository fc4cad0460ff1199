/- The plain mathematics of slots: the encoded text, and that reading it gives the slots back. -/
import Derived.Test.YtnkhifgppcnmkaaDoorIvD
import Derived.Test.YtnkhifgppcnmkaaDoorW1
namespace Go.Proofs.YtnkhifgppcnmkaaDoor.Iv

/-- A slot: whether it is used, and its record. -/
abbrev Slt := Bool × ByteArray
def noSlt : Slt := (false, ByteArray.empty)

/-- Whether a slot has a form. -/
def sltOk (len : Nat) (x : Slt) : Bool := if x.1 = true then decide (x.2.size = len) else decide (x.2.size = 0)

/-- The bytes of a slot. -/
def sltBytes (len : Nat) (x : Slt) : List UInt8 := x.2.data.toList ++ List.replicate (len - x.2.size) 0
def sltMark (x : Slt) : Nat := if x.1 = true then 0 else 4
def sltContent (len : Nat) (l : List Slt) : List UInt8 := l.flatMap (sltBytes len)
def sltMarks (len : Nat) (l : List Slt) : List UInt8 := l.foldl (fun acc x => fld (sltMark x) len ++ acc) []

/-- The i-th slot of those that are given, or an unused one. -/
def sltAt (l : List Slt) (i : Nat) : Slt := l.getD i noSlt
/-- All n slots. -/
def sltAll (l : List Slt) (n : Nat) : List Slt := (List.range n).map (sltAt l)

theorem sltAll_length (l : List Slt) (n : Nat) : (sltAll l n).length = n := by simp [sltAll]
theorem sltAll_succ (l : List Slt) (n : Nat) : sltAll l (n + 1) = sltAll l n ++ [sltAt l n] := by simp [sltAll, List.range_succ]
theorem sltAll_get (l : List Slt) (n i : Nat) (h : i < n) : (sltAll l n)[i]? = some (sltAt l i) := by simp [sltAll, h]

theorem sltBytes_length (len : Nat) (x : Slt) (h : sltOk len x = true) : (sltBytes len x).length = len := by
  unfold sltOk at h
  unfold sltBytes
  have e : x.2.data.toList.length = x.2.size := by simp
  rw [List.length_append, List.length_replicate, e]
  split at h <;> simp only [decide_eq_true_eq] at h <;> omega

theorem sltContent_append (len : Nat) (a b : List Slt) : sltContent len (a ++ b) = sltContent len a ++ sltContent len b := by simp [sltContent]
theorem sltContent_length (len : Nat) (l : List Slt) (h : ∀ x ∈ l, sltOk len x = true) : (sltContent len l).length = l.length * len := by
  induction l with
  | nil => simp [sltContent]
  | cons x l ih =>
    rw [show x :: l = [x] ++ l from rfl, sltContent_append, List.length_append, ih (fun y hy => h y (List.mem_cons_of_mem _ hy)), List.length_append, Nat.add_mul]
    have := sltBytes_length len x (h x List.mem_cons_self)
    simp [sltContent, this]

theorem sltMarks_snoc (len : Nat) (l : List Slt) (x : Slt) : sltMarks len (l ++ [x]) = fld (sltMark x) len ++ sltMarks len l := by simp [sltMarks]
theorem sltMarks_length (len : Nat) (l : List Slt) : (sltMarks len l).length = 3 * l.length := by
  have key : ∀ (m : List Slt) (o : List UInt8), (m.foldl (fun acc x => fld (sltMark x) len ++ acc) o).length = o.length + 3 * m.length := by
    intro m
    induction m with
    | nil => intro o; simp
    | cons y m ih => intro o; rw [List.foldl_cons, ih]; simp [fld]; omega
  have := key l []
  unfold sltMarks
  simpa using this

/-- What EncodeSlots answers. -/
def encSlots (size len : Int) (l : List Slt) : ByteArray × Int :=
  if lenOk size len = false then (ByteArray.empty, 1)
  else if slotCount size len < (l.length : Int) then (ByteArray.empty, 8)
  else if (sltAll l (slotCount size len).toNat).all (sltOk len.toNat) = false then (ByteArray.empty, 2)
  else (ofL (whole size.toNat (sltContent len.toNat (sltAll l (slotCount size len).toNat)) (sltMarks len.toNat (sltAll l (slotCount size len).toNat))), 0)

theorem lenOk_facts {size len : Int} (h : lenOk size len = true) : (size = 128 ∨ size = 256 ∨ size = 512) ∧ 1 ≤ len ∧ len ≤ 200 ∧ len ≤ size - 7 := by
  unfold lenOk at h
  simp only [Bool.and_eq_true, decide_eq_true_eq] at h
  obtain ⟨h1, h2⟩ := h
  exact ⟨isSz_cases h1, by omega⟩

theorem slotCount_facts {size len : Int} (h : lenOk size len = true) : 1 ≤ slotCount size len ∧ slotCount size len * (len + 3) ≤ size - 4 ∧ slotCount size len ≤ 127 := by
  have hs := lenOk_facts h
  rw [slot_len, if_pos h]
  obtain ⟨h1, h2, h3, h4⟩ := hs
  have e1 : (1 : Int) ≤ (size - 4) / (len + 3) := by
    rw [Int.le_ediv_iff_mul_le (by omega)]; omega
  have e2 : (size - 4) / (len + 3) * (len + 3) ≤ size - 4 := Int.ediv_mul_le _ (by omega)
  refine ⟨e1, e2, ?_⟩
  have : (size - 4) / (len + 3) * 4 ≤ (size - 4) / (len + 3) * (len + 3) := Int.mul_le_mul_of_nonneg_left (by omega) (by omega)
  omega

/-- The slots that a text describes. -/
def readSlots (size len : Nat) (d : ByteArray) (n : Nat) : List Slt :=
  (List.range n).map fun i => if byteAt d (size - 7 - 3 * i) = 0 then (true, d.extract (i * len) ((i + 1) * len)) else noSlt

/-- What DecodeSlots answers. -/
def decSlots (size len : Int) (d : ByteArray) : List Slt × Int :=
  if lenOk size len = false then ([], 1)
  else if (d.size : Int) ≠ size then ([], 11)
  else if unusedOf d = true then ([], 9)
  else if encSlots size len (readSlots size.toNat len.toNat d (slotCount size len).toNat) = (d, 0) then (readSlots size.toNat len.toNat d (slotCount size len).toNat, 0)
  else ([], 11)

theorem decSlots_err {size len : Int} {d : ByteArray} (h : (decSlots size len d).2 ≠ 0) : (decSlots size len d).1 = [] := by
  unfold decSlots at h ⊢
  split
  · rfl
  · split
    · rfl
    · split
      · rfl
      · split
        · rename_i h1 h2 h3 h4; rw [if_neg h1, if_neg h2, if_neg h3, if_pos h4] at h; exact absurd rfl h
        · rfl

theorem decSlots_ok {size len : Int} {d : ByteArray} (h : (decSlots size len d).2 = 0) : encSlots size len (decSlots size len d).1 = (d, 0) ∧ ((decSlots size len d).1.length : Int) = slotCount size len ∧ lenOk size len = true := by
  unfold decSlots at h ⊢
  by_cases h1 : lenOk size len = false
  · rw [if_pos h1] at h; cases h
  · rw [if_neg h1] at h ⊢
    by_cases h2 : (d.size : Int) ≠ size
    · rw [if_pos h2] at h; cases h
    · rw [if_neg h2] at h ⊢
      by_cases h3 : unusedOf d = true
      · rw [if_pos h3] at h; cases h
      · rw [if_neg h3] at h ⊢
        by_cases h4 : encSlots size len (readSlots size.toNat len.toNat d (slotCount size len).toNat) = (d, 0)
        · rw [if_pos h4]
          have h1' : lenOk size len = true := by simpa using h1
          have := slotCount_facts h1'
          refine ⟨h4, ?_, h1'⟩
          simp [readSlots]
          omega
        · rw [if_neg h4] at h; cases h

theorem encSlots_ok {size len : Int} {l : List Slt} {d : ByteArray} (h : encSlots size len l = (d, 0)) :
    lenOk size len = true ∧ (l.length : Int) ≤ slotCount size len ∧ (∀ x ∈ sltAll l (slotCount size len).toNat, sltOk len.toNat x = true) ∧
      d = ofL (whole size.toNat (sltContent len.toNat (sltAll l (slotCount size len).toNat)) (sltMarks len.toNat (sltAll l (slotCount size len).toNat))) := by
  unfold encSlots at h
  by_cases h1 : lenOk size len = false
  · rw [if_pos h1] at h; injection h with _ h; cases h
  · rw [if_neg h1] at h
    by_cases h2 : slotCount size len < (l.length : Int)
    · rw [if_pos h2] at h; injection h with _ h; cases h
    · rw [if_neg h2] at h
      by_cases h3 : (sltAll l (slotCount size len).toNat).all (sltOk len.toNat) = false
      · rw [if_pos h3] at h; injection h with _ h; cases h
      · rw [if_neg h3] at h
        injection h with h _
        refine ⟨by simpa using h1, by omega, ?_, h.symm⟩
        simpa using h3

/-- The marks of n slots, at the right of what stands ahead of the last four bytes. -/
theorem marks_at (len : Nat) (l : List Slt) (i : Nat) (x : Slt) (h : l[i]? = some x) : ∃ a b, sltMarks len l = a ++ (fld (sltMark x) len ++ b) ∧ b.length = 3 * i := by
  have hi : i < l.length := (List.getElem?_eq_some_iff.1 h).1
  have e : l = (l.take i ++ [x]) ++ l.drop (i + 1) := by
    conv => lhs; rw [← List.take_append_drop (i + 1) l]
    rw [List.take_add_one, h]; rfl
  refine ⟨(l.drop (i + 1)).foldl (fun acc x => fld (sltMark x) len ++ acc) [], sltMarks len (l.take i), ?_, ?_⟩
  · have key : ∀ (m : List Slt) (o : List UInt8), m.foldl (fun acc x => fld (sltMark x) len ++ acc) o = m.foldl (fun acc x => fld (sltMark x) len ++ acc) [] ++ o := by
      intro m
      induction m with
      | nil => intro o; rfl
      | cons y m ih => intro o; simp only [List.foldl_cons]; rw [ih, ih (fld (sltMark y) len ++ [])]; simp
    conv => lhs; rw [e]
    rw [sltMarks, List.foldl_append, key]
    rw [show (l.take i ++ [x]).foldl (fun acc x => fld (sltMark x) len ++ acc) [] = sltMarks len (l.take i ++ [x]) from rfl, sltMarks_snoc]
  · rw [sltMarks_length, List.length_take]; omega

theorem byteAt_mid (d : ByteArray) (p : Nat) (a : List UInt8) (x : UInt8) (b : List UInt8) (h : d.data.toList = a ++ (x :: b)) (hp : p = a.length) : byteAt d p = x.toNat := by
  subst hp
  unfold byteAt
  rw [h]
  simp [List.getD]

theorem extract_mid (d : ByteArray) (p q : Nat) (a c b : List UInt8) (h : d.data.toList = a ++ (c ++ b)) (hp : p = a.length) (hq : q = p + c.length) : d.extract p q = ofL c := by
  subst hp hq
  apply ByteArray.ext
  apply Array.toList_inj.1
  simp only [ByteArray.data_extract, Array.toList_extract]
  rw [List.extract_eq_take_drop, h, List.drop_left, show a.length + c.length - a.length = c.length by omega, List.take_left]
  rfl

theorem content_at (len : Nat) (l : List Slt) (hok : ∀ x ∈ l, sltOk len x = true) (i : Nat) (x : Slt) (h : l[i]? = some x) : ∃ a b, sltContent len l = a ++ (sltBytes len x ++ b) ∧ a.length = i * len := by
  have hi : i < l.length := (List.getElem?_eq_some_iff.1 h).1
  have e : l = l.take i ++ ([x] ++ l.drop (i + 1)) := by
    conv => lhs; rw [← List.take_append_drop i l]
    rw [List.drop_eq_getElem_cons hi, (List.getElem?_eq_some_iff.1 h).2]; rfl
  refine ⟨sltContent len (l.take i), sltContent len (l.drop (i + 1)), ?_, ?_⟩
  · conv => lhs; rw [e]
    rw [sltContent_append, sltContent_append]
    simp [sltContent]
  · rw [sltContent_length len _ (fun y hy => hok y (List.mem_of_mem_take hy)), List.length_take, Nat.min_eq_left (by omega)]

/-- Reading encoded slots gives all of them. -/
theorem read_encoded {size len : Int} {l : List Slt} {d : ByteArray} (h : encSlots size len l = (d, 0)) :
    readSlots size.toNat len.toNat d (slotCount size len).toNat = sltAll l (slotCount size len).toNat := by
  obtain ⟨h1, h2, h3, hd⟩ := encSlots_ok h
  obtain ⟨f1, f2, f3, f4⟩ := lenOk_facts h1
  obtain ⟨g1, g2, g3⟩ := slotCount_facts h1
  obtain ⟨n, hn⟩ : ∃ n : Nat, slotCount size len = n := ⟨(slotCount size len).toNat, by omega⟩
  obtain ⟨m, rfl⟩ : ∃ m : Nat, len = m := ⟨len.toNat, by omega⟩
  obtain ⟨s, rfl⟩ : ∃ s : Nat, size = s := ⟨size.toNat, by omega⟩
  rw [hn] at g1 g2 h3 hd ⊢
  simp only [Int.toNat_natCast] at h3 hd ⊢
  have hnm : n * m + 3 * n + 4 ≤ s := by
    have e : (n : Int) * ((m : Int) + 3) = ((n * m + 3 * n : Nat) : Int) := by
      rw [Int.mul_add]; push_cast; omega
    rw [e] at g2
    omega
  have hcl := sltContent_length m _ h3
  rw [sltAll_length] at hcl
  have hml := sltMarks_length m (sltAll l n)
  rw [sltAll_length] at hml
  unfold readSlots
  rw [sltAll]
  refine List.map_congr_left fun i hi => ?_
  have hi : i < n := by simpa using hi
  have hget := sltAll_get l n i hi
  have hxok := h3 _ (List.mem_of_getElem? hget)
  obtain ⟨a, b, hm1, hm2⟩ := marks_at m _ i _ hget
  obtain ⟨a', b', hc1, hc2⟩ := content_at m _ h3 i _ hget
  have hdl : d.data.toList = whole s (sltContent m (sltAll l n)) (sltMarks m (sltAll l n)) := by rw [hd]; rfl
  have hbyte : byteAt d (s - 7 - 3 * i) = (UInt8.ofNat (sltMark (sltAt l i))).toNat := by
    have hal : a.length + 3 + 3 * i = 3 * n := by
      have := congrArg List.length hm1
      rw [hml, List.length_append, List.length_append, hm2] at this
      simp [fld] at this
      omega
    refine byteAt_mid d _ (sltContent m (sltAll l n) ++ (List.replicate (s - 4 - (sltContent m (sltAll l n)).length - (sltMarks m (sltAll l n)).length) 0 ++ a)) _ ([UInt8.ofNat m, UInt8.ofNat (m / 256)] ++ (b ++ [UInt8.ofNat (sltContent m (sltAll l n)).length, UInt8.ofNat ((sltContent m (sltAll l n)).length / 256), UInt8.ofNat (s - 4 - (sltContent m (sltAll l n)).length - (sltMarks m (sltAll l n)).length), UInt8.ofNat ((s - 4 - (sltContent m (sltAll l n)).length - (sltMarks m (sltAll l n)).length) / 256)])) ?_ ?_
    · rw [hdl]
      unfold whole
      conv => lhs; rw [hm1]
      rw [hm1]
      simp [fld]
    · simp only [List.length_append, List.length_replicate, hcl, hml]
      omega
  have hext : d.extract (i * m) ((i + 1) * m) = ofL (sltBytes m (sltAt l i)) := by
    refine extract_mid d _ _ a' _ (b' ++ (List.replicate (s - 4 - (sltContent m (sltAll l n)).length - (sltMarks m (sltAll l n)).length) 0 ++ (sltMarks m (sltAll l n) ++ [UInt8.ofNat (sltContent m (sltAll l n)).length, UInt8.ofNat ((sltContent m (sltAll l n)).length / 256), UInt8.ofNat (s - 4 - (sltContent m (sltAll l n)).length - (sltMarks m (sltAll l n)).length), UInt8.ofNat ((s - 4 - (sltContent m (sltAll l n)).length - (sltMarks m (sltAll l n)).length) / 256)]))) ?_ hc2.symm ?_
    · rw [hdl]
      unfold whole
      conv => lhs; rw [hc1]
      rw [hc1]
      simp
    · rw [sltBytes_length m _ hxok, Nat.succ_mul]
  rw [hbyte, hext]
  obtain ⟨x, hx⟩ : ∃ x, x = sltAt l i := ⟨_, rfl⟩
  rw [← hx] at hxok ⊢
  obtain ⟨u, r⟩ := x
  unfold sltOk at hxok
  cases u with
  | true =>
    simp at hxok
    have e : sltMark (true, r) = 0 := rfl
    rw [e, if_pos (by decide)]
    unfold sltBytes
    simp [hxok, ofL_toList]
  | false =>
    simp at hxok
    have e : sltMark (false, r) = 4 := rfl
    rw [e, if_neg (by decide), hxok]
    rfl

theorem encSlots_size {size len : Int} {l : List Slt} {d : ByteArray} (h : encSlots size len l = (d, 0)) : (d.size : Int) = size := by
  obtain ⟨h1, h2, h3, hd⟩ := encSlots_ok h
  obtain ⟨f1, f2, f3, f4⟩ := lenOk_facts h1
  obtain ⟨g1, g2, g3⟩ := slotCount_facts h1
  obtain ⟨n, hn⟩ : ∃ n : Nat, slotCount size len = n := ⟨(slotCount size len).toNat, by omega⟩
  obtain ⟨m, rfl⟩ : ∃ m : Nat, len = m := ⟨len.toNat, by omega⟩
  obtain ⟨s, rfl⟩ : ∃ s : Nat, size = s := ⟨size.toNat, by omega⟩
  rw [hn] at g1 g2 h3 hd
  simp only [Int.toNat_natCast] at h3 hd
  have hnm : n * m + 3 * n + 4 ≤ s := by
    have e : (n : Int) * ((m : Int) + 3) = ((n * m + 3 * n : Nat) : Int) := by
      rw [Int.mul_add]; push_cast; omega
    rw [e] at g2
    omega
  have hcl := sltContent_length m _ h3
  rw [sltAll_length] at hcl
  have hml := sltMarks_length m (sltAll l n)
  rw [sltAll_length] at hml
  rw [hd, ofL_size, whole_length _ _ _ (by rw [hcl, hml]; omega)]

/-- Encoded slots are no zeros. -/
theorem encSlots_used {size len : Int} {l : List Slt} {d : ByteArray} (h : encSlots size len l = (d, 0)) : unusedOf d = false := by
  obtain ⟨h1, h2, h3, hd⟩ := encSlots_ok h
  obtain ⟨f1, f2, f3, f4⟩ := lenOk_facts h1
  obtain ⟨g1, g2, g3⟩ := slotCount_facts h1
  obtain ⟨n, hn⟩ : ∃ n : Nat, slotCount size len = n := ⟨(slotCount size len).toNat, by omega⟩
  obtain ⟨m, rfl⟩ : ∃ m : Nat, len = m := ⟨len.toNat, by omega⟩
  obtain ⟨s, rfl⟩ : ∃ s : Nat, size = s := ⟨size.toNat, by omega⟩
  rw [hn] at g1 g2 h3 hd
  simp only [Int.toNat_natCast] at h3 hd
  have hget := sltAll_get l n 0 (by omega)
  obtain ⟨a, b, hm1, hm2⟩ := marks_at m _ 0 _ hget
  unfold unusedOf
  rw [hd, ofL_data]
  refine Bool.eq_false_iff.2 fun hall => ?_
  rw [List.all_eq_true] at hall
  have hmem : UInt8.ofNat m ∈ whole s (sltContent m (sltAll l n)) (sltMarks m (sltAll l n)) := by
    unfold whole
    rw [hm1]
    simp [fld]
  have := hall _ hmem
  have h0 : (UInt8.ofNat m).toNat = m := by
    rw [UInt8.toNat_ofNat']; omega
  have h1 : UInt8.ofNat m = 0 := by simpa using this
  rw [h1] at h0
  have : (0 : UInt8).toNat = 0 := rfl
  omega

theorem decSlots_encoded {size len : Int} {l : List Slt} {d : ByteArray} (h : encSlots size len l = (d, 0)) : decSlots size len d = (sltAll l (slotCount size len).toNat, 0) := by
  obtain ⟨h1, h2, h3, hd⟩ := encSlots_ok h
  have hsz := encSlots_size h
  have hr := read_encoded h
  have hall : sltAll (sltAll l (slotCount size len).toNat) (slotCount size len).toNat = sltAll l (slotCount size len).toNat := by
    conv => lhs; rw [sltAll]
    conv => rhs; rw [sltAll]
    refine List.map_congr_left fun i hi => ?_
    have hi : i < (slotCount size len).toNat := by simpa using hi
    rw [sltAt, List.getD, sltAll_get _ _ _ hi]
    rfl
  have g := slotCount_facts h1
  have henc : encSlots size len (sltAll l (slotCount size len).toNat) = (d, 0) := by
    unfold encSlots
    rw [if_neg (by rw [h1]; simp), if_neg (by rw [sltAll_length]; omega), hall, if_neg (by simpa using h3), ← hd]
  unfold decSlots
  rw [if_neg (by rw [h1]; simp), if_neg (by omega), if_neg (by rw [encSlots_used h]; simp), hr, if_pos henc]
end Go.Proofs.YtnkhifgppcnmkaaDoor.Iv

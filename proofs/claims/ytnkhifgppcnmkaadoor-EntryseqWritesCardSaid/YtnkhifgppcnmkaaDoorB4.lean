/- Slots: plain laws and walks. -/
import Derived.Test.YtnkhifgppcnmkaaDoorB3
import Derived.Test.YtnkhifgppcnmkaaDoorA1
import Derived.Test.YtnkhifgppcnmkaaDoorB1
import Derived.Test.YtnkhifgppcnmkaaDoorA3
import Derived.Laws.StructEq

/- Equality of structs: slots, writes, pairs, headers. -/
namespace Go.Proofs.YtnkhifgppcnmkaaDoor
open Go.RowKit

section
variable {P : Program} {d : Nat} {xs ys : Array Value} {f : Field} {fs : List Field} {a b : Value} {r s : Bool} {w : World}
theorem eqf_cons (hn : (f.name == "_") = false) (ha : (part f.type xs f.offset).run P w = .ok a w) (hb : (part f.type ys f.offset).run P w = .ok b w) (he : (Op.equalIn d f.type a b).run P w = .ok r w) (hr : (Op.eqFields d xs ys fs).run P w = .ok s w) : (Op.eqFields d xs ys (f :: fs)).run P w = .ok (r && s) w := by
  have hn' : f.name ≠ "_" := by simpa using hn
  rw [Op.eqFields]
  simp only [if_pos hn', Sem.run_bind, ha, hb, he, Result.andThen_ok]
  cases r
  · simp
  · simpa using hr
theorem eqf_nil : (Op.eqFields d xs ys []).run P w = .ok true w := by simp [Op.eqFields]
end
theorem part_one (t : Nat) (xs : Array Value) (off : Nat) (v : Value) (w : World) (ha : (isAgg t).run Tryd.prog w = .ok false w) (hv : xs[off]? = some v) : (part t xs off).run Tryd.prog w = .ok v w := by
  simp [part, ha, hv]

/-- What an equation of structs answers, out of the fields' answers. -/
theorem neq_of {t : Nat} {fs : Array Field} {xs ys : Array Value} {r : Bool} (hu : Tryd.prog.underlying t = some (.struct fs)) (hp : Tryd.prog.stoodInHeld t = false) (w : World)
    (h : (Op.eqFields 9999 xs ys fs.toList).run Tryd.prog w = .ok r w) : (binOp .neq t (.agg xs) (.agg ys)).run Tryd.prog w = .ok (.bool !r) w := by
  have hf : Tryd.prog.fieldsOf t = fs := by simp [Program.fieldsOf, hu]
  rw [run_neq_struct, run_equalIn_struct (P := Tryd.prog) w 9999 t xs ys (by rw [hf]; exact hu) hp, hf, h]
  rfl

theorem i_part (xs : Array Value) (off : Nat) (v : Value) (w : World) (hv : xs[off]? = some v) : (part 3 xs off).run Tryd.prog w = .ok v w := part_one 3 xs off v w (Tryd.isAgg3 w) hv
theorem s_part (xs : Array Value) (off : Nat) (v : Value) (w : World) (hv : xs[off]? = some v) : (part 9 xs off).run Tryd.prog w = .ok v w := part_one 9 xs off v w (Tryd.isAgg9 w) hv
theorem b_part (xs : Array Value) (off : Nat) (v : Value) (w : World) (hv : xs[off]? = some v) : (part 4 xs off).run Tryd.prog w = .ok v w := part_one 4 xs off v w (Tryd.isAgg4 w) hv
theorem i_eq (d : Nat) (a b : Int) (w : World) : (Op.equalIn (d + 1) 3 (.int .i64 a) (.int .i64 b)).run Tryd.prog w = .ok (a == b) w := run_equalIn_int w d 3 .i64 .i64 a b Tryd.underlying3
theorem s_eq (d : Nat) (a b : ByteArray) (w : World) : (Op.equalIn (d + 1) 9 (.string a) (.string b)).run Tryd.prog w = .ok (a.toList == b.toList) w := run_equalIn_string w d 9 a b Tryd.underlying9
theorem b_eq (d : Nat) (a b : Bool) (w : World) : (Op.equalIn (d + 1) 4 (.bool a) (.bool b)).run Tryd.prog w = .ok (a == b) w := run_equalIn_bool' w d 4 a b Tryd.underlying4

theorem strEq_dec (a b : ByteArray) : (a.toList == b.toList) = decide (a = b) := by
  rw [ByteArray.toList_eq, ByteArray.toList_eq]
  by_cases h : a = b
  · subst h; simp
  · rw [decide_eq_false h, beq_eq_false_iff_ne]
    exact fun e => h (ByteArray.ext (Array.toList_inj.1 e))

/-- Two slots, '!='. -/
theorem neq_slot (a c : Bool) (b d : ByteArray) (w : World) : (binOp .neq 68 (.agg #[.bool a, .string b]) (.agg #[.bool c, .string d])).run Tryd.prog w = .ok (.bool !decide ((a, b) = (c, d))) w := by
  have h := neq_of (t := 68) Tryd.underlying68 (by kernel_rfl) w (xs := #[.bool a, .string b]) (ys := #[.bool c, .string d])
    (eqf_cons (by decide) (b_part _ _ _ w rfl) (b_part _ _ _ w rfl) (b_eq 9998 a c w) (eqf_cons (by decide) (s_part _ _ _ w rfl) (s_part _ _ _ w rfl) (s_eq 9998 b d w) eqf_nil))
  have e : (a == c && (b.toList == d.toList && true)) = decide ((a, b) = (c, d)) := by
    rw [strEq_dec]
    by_cases h1 : a = c <;> by_cases h2 : b = d <;> simp [h1, h2]
  rw [h, e]

/-- Two writes, '!='. -/
theorem neq_write (a c : Int) (b d : ByteArray) (w : World) : (binOp .neq 97 (.agg #[.int .i64 a, .string b]) (.agg #[.int .i64 c, .string d])).run Tryd.prog w = .ok (.bool !decide ((a, b) = (c, d))) w := by
  have h := neq_of (t := 97) Tryd.underlying97 (by kernel_rfl) w (xs := #[.int .i64 a, .string b]) (ys := #[.int .i64 c, .string d])
    (eqf_cons (by decide) (i_part _ _ _ w rfl) (i_part _ _ _ w rfl) (i_eq 9998 a c w) (eqf_cons (by decide) (s_part _ _ _ w rfl) (s_part _ _ _ w rfl) (s_eq 9998 b d w) eqf_nil))
  have e : (a == c && (b.toList == d.toList && true)) = decide ((a, b) = (c, d)) := by
    rw [strEq_dec]
    by_cases h1 : a = c <;> by_cases h2 : b = d <;> simp [h1, h2]
  rw [h, e]

/-- Two pairs, '!='. -/
theorem neq_pair (a c b d : ByteArray) (w : World) : (binOp .neq 48 (.agg #[.string a, .string b]) (.agg #[.string c, .string d])).run Tryd.prog w = .ok (.bool !decide ((a, b) = (c, d))) w := by
  have h := neq_of (t := 48) Tryd.underlying48 (by kernel_rfl) w (xs := #[.string a, .string b]) (ys := #[.string c, .string d])
    (eqf_cons (by decide) (s_part _ _ _ w rfl) (s_part _ _ _ w rfl) (s_eq 9998 a c w) (eqf_cons (by decide) (s_part _ _ _ w rfl) (s_part _ _ _ w rfl) (s_eq 9998 b d w) eqf_nil))
  have e : (a.toList == c.toList && (b.toList == d.toList && true)) = decide ((a, b) = (c, d)) := by
    rw [strEq_dec, strEq_dec]
    by_cases h1 : a = c <;> by_cases h2 : b = d <;> simp [h1, h2]
  rw [h, e]
end Go.Proofs.YtnkhifgppcnmkaaDoor

/- The plain mathematics of intervals, continued: fewer records take less. -/
namespace Go.Proofs.YtnkhifgppcnmkaaDoor.Iv

/-- What the fields of runs take. -/
def flen (l : List ByteArray) : Nat := (runsOf l).foldl (fun a r => a + 3 * min r.1 2) 0

theorem flen_fields (l : List ByteArray) : (fieldsOf l).length = flen l := by
  unfold fieldsOf flen
  rw [foldl_fields_length _ (runs_pos l)]
  simp

theorem fold_add (qs : List (Nat × Nat)) (a : Nat) : qs.foldl (fun a r => a + 3 * min r.1 2) a = a + qs.foldl (fun a r => a + 3 * min r.1 2) 0 := by
  induction qs generalizing a with
  | nil => rfl
  | cons q qs ih => simp only [List.foldl_cons]; rw [ih, ih (0 + _)]; omega

theorem flen_nil : flen [] = 0 := by unfold flen; rw [runsOf]; rfl
theorem flen_cons (s : ByteArray) (l : List ByteArray) : flen (s :: l) = 3 * min (runLen s.size l + 1) 2 + flen (l.drop (runLen s.size l)) := by
  unfold flen
  rw [runsOf, List.foldl_cons, fold_add]
  simp

theorem flen_tail (s : ByteArray) (l : List ByteArray) : flen l ≤ flen (s :: l) := by
  rw [flen_cons]
  cases l with
  | nil => rw [flen_nil]; exact Nat.zero_le _
  | cons t l =>
    rw [runLen]
    split
    · rename_i h
      rw [flen_cons, List.drop_succ_cons, h]
      omega
    · simp

theorem runLen_snoc (m : Nat) (l : List ByteArray) (x : ByteArray) : runLen m (l ++ [x]) = if runLen m l = l.length then (if x.size = m then l.length + 1 else l.length) else runLen m l := by
  induction l with
  | nil => simp [runLen]
  | cons s l ih =>
    rw [List.cons_append, runLen, runLen]
    by_cases hs : s.size = m
    · rw [if_pos hs, if_pos hs, ih, List.length_cons]
      by_cases h1 : runLen m l = l.length
      · rw [if_pos h1, if_pos (show runLen m l + 1 = l.length + 1 by omega)]
        by_cases hx : x.size = m
        · rw [if_pos hx, if_pos hx]
        · rw [if_neg hx, if_neg hx]
      · rw [if_neg h1, if_neg (show ¬ runLen m l + 1 = l.length + 1 by omega)]
    · rw [if_neg hs, if_neg hs, List.length_cons, if_neg (show ¬ 0 = l.length + 1 by omega)]

theorem flen_snoc (l : List ByteArray) (x : ByteArray) : flen l ≤ flen (l ++ [x]) := by
  induction l using runsOf.induct with
  | case1 => rw [flen_nil]; exact Nat.zero_le _
  | case2 s l ih =>
    rw [List.cons_append, flen_cons, flen_cons, runLen_snoc]
    by_cases h1 : runLen s.size l = l.length
    · rw [if_pos h1, h1, List.drop_length, flen_nil]
      split
      · omega
      · omega
    · rw [if_neg h1]
      have hk := runLen_le s.size l
      rw [List.drop_append_of_le_length hk]
      omega

theorem size_cons (s : ByteArray) (l : List ByteArray) : szOf l + s.size ≤ szOf (s :: l) := by
  have h1 := sizes l
  have h2 := sizes (s :: l)
  have h3 := flen_tail s l
  rw [flen_fields] at h1 h2
  rw [content_cons, List.length_append] at h2
  have e : s.data.toList.length = s.size := by simp
  omega

theorem size_snoc (l : List ByteArray) (x : ByteArray) : szOf l + x.size ≤ szOf (l ++ [x]) := by
  have h1 := sizes l
  have h2 := sizes (l ++ [x])
  have h3 := flen_snoc l x
  rw [flen_fields] at h1 h2
  rw [content_append, List.length_append] at h2
  have hc : content [x] = x.data.toList := by simp [content]
  rw [hc] at h2
  have e : x.data.toList.length = x.size := by simp
  omega

/-- The list without its first, without its last. -/
theorem size_tail (l : List ByteArray) (h : 0 < l.length) : szOf (l.drop 1) + (l.getD 0 ByteArray.empty).size ≤ szOf l := by
  cases l with
  | nil => simp at h
  | cons s l => exact size_cons s l

theorem size_init (l : List ByteArray) (h : 0 < l.length) : szOf (l.take (l.length - 1)) + (l.getD (l.length - 1) ByteArray.empty).size ≤ szOf l := by
  have h1 : l = l.take (l.length - 1) ++ [l.getD (l.length - 1) ByteArray.empty] := by
    conv => lhs; rw [← List.take_append_drop (l.length - 1) l]
    congr 1
    rw [List.drop_eq_getElem_cons (by omega)]
    simp [List.getD, show l.length - 1 < l.length by omega, show l.length - 1 + 1 = l.length by omega]
  have h2 := size_snoc (l.take (l.length - 1)) (l.getD (l.length - 1) ByteArray.empty)
  rw [← h1] at h2
  exact h2

theorem fits_tail {size : Int} {l : List ByteArray} (h : 0 < l.length) (hf : fitsOf size l = true) : fitsOf size (l.drop 1) = true := by
  unfold fitsOf at hf ⊢
  simp only [Bool.and_eq_true, decide_eq_true_eq] at hf ⊢
  have := size_tail l h
  refine ⟨⟨hf.1.1, ?_⟩, by omega⟩
  rw [okRec_iff] at hf ⊢
  exact fun s hs => hf.1.2 s (List.mem_of_mem_drop hs)

theorem fits_init {size : Int} {l : List ByteArray} (h : 0 < l.length) (hf : fitsOf size l = true) : fitsOf size (l.take (l.length - 1)) = true := by
  unfold fitsOf at hf ⊢
  simp only [Bool.and_eq_true, decide_eq_true_eq] at hf ⊢
  have := size_init l h
  refine ⟨⟨hf.1.1, ?_⟩, by omega⟩
  rw [okRec_iff] at hf ⊢
  exact fun s hs => hf.1.2 s (List.mem_of_mem_take hs)

theorem fits_double {size : Int} {l : List ByteArray} (hf : fitsOf size l = true) (h : size ≠ 512) : fitsOf (2 * size) l = true := by
  unfold fitsOf at hf ⊢
  simp only [Bool.and_eq_true, decide_eq_true_eq] at hf ⊢
  have hs : size = 128 ∨ size = 256 := by
    rcases isSz_cases hf.1.1 with h1 | h1 | h1
    · exact .inl h1
    · exact .inr h1
    · exact absurd h1 h
  refine ⟨⟨?_, hf.1.2⟩, ?_⟩
  · rcases hs with rfl | rfl <;> rfl
  · have := hf.2
    rcases hs with rfl | rfl <;> omega
end Go.Proofs.YtnkhifgppcnmkaaDoor.Iv

/- The plain mathematics of slots: the encoded text, and that reading it gives the slots back. -/
namespace Go.Proofs.YtnkhifgppcnmkaaDoor.Iv

/-- A slot: whether it is used, and its record. -/
abbrev Slt := Bool × ByteArray
def noSlt : Slt := (false, ByteArray.empty)

/-- Whether a slot has a form. -/
def sltOk (len : Nat) (x : Slt) : Bool := if x.1 = true then decide (x.2.size = len) else decide (x.2.size = 0)

/-- The bytes of a slot. -/
def sltBytes (len : Nat) (x : Slt) : List UInt8 := x.2.data.toList ++ List.replicate (len - x.2.size) 0
def sltMark (x : Slt) : Nat := if x.1 = true then 0 else 4
def sltContent (len : Nat) (l : List Slt) : List UInt8 := l.flatMap (sltBytes len)
def sltMarks (len : Nat) (l : List Slt) : List UInt8 := l.foldl (fun acc x => fld (sltMark x) len ++ acc) []

/-- The i-th slot of those that are given, or an unused one. -/
def sltAt (l : List Slt) (i : Nat) : Slt := l.getD i noSlt
/-- All n slots. -/
def sltAll (l : List Slt) (n : Nat) : List Slt := (List.range n).map (sltAt l)

theorem sltAll_length (l : List Slt) (n : Nat) : (sltAll l n).length = n := by simp [sltAll]
theorem sltAll_succ (l : List Slt) (n : Nat) : sltAll l (n + 1) = sltAll l n ++ [sltAt l n] := by simp [sltAll, List.range_succ]
theorem sltAll_get (l : List Slt) (n i : Nat) (h : i < n) : (sltAll l n)[i]? = some (sltAt l i) := by simp [sltAll, h]

theorem sltBytes_length (len : Nat) (x : Slt) (h : sltOk len x = true) : (sltBytes len x).length = len := by
  unfold sltOk at h
  unfold sltBytes
  have e : x.2.data.toList.length = x.2.size := by simp
  rw [List.length_append, List.length_replicate, e]
  split at h <;> simp only [decide_eq_true_eq] at h <;> omega

theorem sltContent_append (len : Nat) (a b : List Slt) : sltContent len (a ++ b) = sltContent len a ++ sltContent len b := by simp [sltContent]
theorem sltContent_length (len : Nat) (l : List Slt) (h : ∀ x ∈ l, sltOk len x = true) : (sltContent len l).length = l.length * len := by
  induction l with
  | nil => simp [sltContent]
  | cons x l ih =>
    rw [show x :: l = [x] ++ l from rfl, sltContent_append, List.length_append, ih (fun y hy => h y (List.mem_cons_of_mem _ hy)), List.length_append, Nat.add_mul]
    have := sltBytes_length len x (h x List.mem_cons_self)
    simp [sltContent, this]

theorem sltMarks_snoc (len : Nat) (l : List Slt) (x : Slt) : sltMarks len (l ++ [x]) = fld (sltMark x) len ++ sltMarks len l := by simp [sltMarks]
theorem sltMarks_length (len : Nat) (l : List Slt) : (sltMarks len l).length = 3 * l.length := by
  have key : ∀ (m : List Slt) (o : List UInt8), (m.foldl (fun acc x => fld (sltMark x) len ++ acc) o).length = o.length + 3 * m.length := by
    intro m
    induction m with
    | nil => intro o; simp
    | cons y m ih => intro o; rw [List.foldl_cons, ih]; simp [fld]; omega
  have := key l []
  unfold sltMarks
  simpa using this

/-- What EncodeSlots answers. -/
def encSlots (size len : Int) (l : List Slt) : ByteArray × Int :=
  if lenOk size len = false then (ByteArray.empty, 1)
  else if slotCount size len < (l.length : Int) then (ByteArray.empty, 8)
  else if (sltAll l (slotCount size len).toNat).all (sltOk len.toNat) = false then (ByteArray.empty, 2)
  else (ofL (whole size.toNat (sltContent len.toNat (sltAll l (slotCount size len).toNat)) (sltMarks len.toNat (sltAll l (slotCount size len).toNat))), 0)

theorem lenOk_facts {size len : Int} (h : lenOk size len = true) : (size = 128 ∨ size = 256 ∨ size = 512) ∧ 1 ≤ len ∧ len ≤ 200 ∧ len ≤ size - 7 := by
  unfold lenOk at h
  simp only [Bool.and_eq_true, decide_eq_true_eq] at h
  obtain ⟨h1, h2⟩ := h
  exact ⟨isSz_cases h1, by omega⟩

theorem slotCount_facts {size len : Int} (h : lenOk size len = true) : 1 ≤ slotCount size len ∧ slotCount size len * (len + 3) ≤ size - 4 ∧ slotCount size len ≤ 127 := by
  have hs := lenOk_facts h
  rw [slot_len, if_pos h]
  obtain ⟨h1, h2, h3, h4⟩ := hs
  have e1 : (1 : Int) ≤ (size - 4) / (len + 3) := by
    rw [Int.le_ediv_iff_mul_le (by omega)]; omega
  have e2 : (size - 4) / (len + 3) * (len + 3) ≤ size - 4 := Int.ediv_mul_le _ (by omega)
  refine ⟨e1, e2, ?_⟩
  have : (size - 4) / (len + 3) * 4 ≤ (size - 4) / (len + 3) * (len + 3) := Int.mul_le_mul_of_nonneg_left (by omega) (by omega)
  omega

/-- The slots that a text describes. -/
def readSlots (size len : Nat) (d : ByteArray) (n : Nat) : List Slt :=
  (List.range n).map fun i => if byteAt d (size - 7 - 3 * i) = 0 then (true, d.extract (i * len) ((i + 1) * len)) else noSlt

/-- What DecodeSlots answers. -/
def decSlots (size len : Int) (d : ByteArray) : List Slt × Int :=
  if lenOk size len = false then ([], 1)
  else if (d.size : Int) ≠ size then ([], 11)
  else if unusedOf d = true then ([], 9)
  else if encSlots size len (readSlots size.toNat len.toNat d (slotCount size len).toNat) = (d, 0) then (readSlots size.toNat len.toNat d (slotCount size len).toNat, 0)
  else ([], 11)

theorem decSlots_err {size len : Int} {d : ByteArray} (h : (decSlots size len d).2 ≠ 0) : (decSlots size len d).1 = [] := by
  unfold decSlots at h ⊢
  split
  · rfl
  · split
    · rfl
    · split
      · rfl
      · split
        · rename_i h1 h2 h3 h4; rw [if_neg h1, if_neg h2, if_neg h3, if_pos h4] at h; exact absurd rfl h
        · rfl

theorem decSlots_ok {size len : Int} {d : ByteArray} (h : (decSlots size len d).2 = 0) : encSlots size len (decSlots size len d).1 = (d, 0) ∧ ((decSlots size len d).1.length : Int) = slotCount size len ∧ lenOk size len = true := by
  unfold decSlots at h ⊢
  by_cases h1 : lenOk size len = false
  · rw [if_pos h1] at h; cases h
  · rw [if_neg h1] at h ⊢
    by_cases h2 : (d.size : Int) ≠ size
    · rw [if_pos h2] at h; cases h
    · rw [if_neg h2] at h ⊢
      by_cases h3 : unusedOf d = true
      · rw [if_pos h3] at h; cases h
      · rw [if_neg h3] at h ⊢
        by_cases h4 : encSlots size len (readSlots size.toNat len.toNat d (slotCount size len).toNat) = (d, 0)
        · rw [if_pos h4]
          have h1' : lenOk size len = true := by simpa using h1
          have := slotCount_facts h1'
          refine ⟨h4, ?_, h1'⟩
          simp [readSlots]
          omega
        · rw [if_neg h4] at h; cases h

theorem encSlots_ok {size len : Int} {l : List Slt} {d : ByteArray} (h : encSlots size len l = (d, 0)) :
    lenOk size len = true ∧ (l.length : Int) ≤ slotCount size len ∧ (∀ x ∈ sltAll l (slotCount size len).toNat, sltOk len.toNat x = true) ∧
      d = ofL (whole size.toNat (sltContent len.toNat (sltAll l (slotCount size len).toNat)) (sltMarks len.toNat (sltAll l (slotCount size len).toNat))) := by
  unfold encSlots at h
  by_cases h1 : lenOk size len = false
  · rw [if_pos h1] at h; injection h with _ h; cases h
  · rw [if_neg h1] at h
    by_cases h2 : slotCount size len < (l.length : Int)
    · rw [if_pos h2] at h; injection h with _ h; cases h
    · rw [if_neg h2] at h
      by_cases h3 : (sltAll l (slotCount size len).toNat).all (sltOk len.toNat) = false
      · rw [if_pos h3] at h; injection h with _ h; cases h
      · rw [if_neg h3] at h
        injection h with h _
        refine ⟨by simpa using h1, by omega, ?_, h.symm⟩
        simpa using h3

/-- The marks of n slots, at the right of what stands ahead of the last four bytes. -/
theorem marks_at (len : Nat) (l : List Slt) (i : Nat) (x : Slt) (h : l[i]? = some x) : ∃ a b, sltMarks len l = a ++ (fld (sltMark x) len ++ b) ∧ b.length = 3 * i := by
  have hi : i < l.length := (List.getElem?_eq_some_iff.1 h).1
  have e : l = (l.take i ++ [x]) ++ l.drop (i + 1) := by
    conv => lhs; rw [← List.take_append_drop (i + 1) l]
    rw [List.take_add_one, h]; rfl
  refine ⟨(l.drop (i + 1)).foldl (fun acc x => fld (sltMark x) len ++ acc) [], sltMarks len (l.take i), ?_, ?_⟩
  · have key : ∀ (m : List Slt) (o : List UInt8), m.foldl (fun acc x => fld (sltMark x) len ++ acc) o = m.foldl (fun acc x => fld (sltMark x) len ++ acc) [] ++ o := by
      intro m
      induction m with
      | nil => intro o; rfl
      | cons y m ih => intro o; simp only [List.foldl_cons]; rw [ih, ih (fld (sltMark y) len ++ [])]; simp
    conv => lhs; rw [e]
    rw [sltMarks, List.foldl_append, key]
    rw [show (l.take i ++ [x]).foldl (fun acc x => fld (sltMark x) len ++ acc) [] = sltMarks len (l.take i ++ [x]) from rfl, sltMarks_snoc]
  · rw [sltMarks_length, List.length_take]; omega

theorem byteAt_mid (d : ByteArray) (p : Nat) (a : List UInt8) (x : UInt8) (b : List UInt8) (h : d.data.toList = a ++ (x :: b)) (hp : p = a.length) : byteAt d p = x.toNat := by
  subst hp
  unfold byteAt
  rw [h]
  simp [List.getD]

theorem extract_mid (d : ByteArray) (p q : Nat) (a c b : List UInt8) (h : d.data.toList = a ++ (c ++ b)) (hp : p = a.length) (hq : q = p + c.length) : d.extract p q = ofL c := by
  subst hp hq
  apply ByteArray.ext
  apply Array.toList_inj.1
  simp only [ByteArray.data_extract, Array.toList_extract]
  rw [List.extract_eq_take_drop, h, List.drop_left, show a.length + c.length - a.length = c.length by omega, List.take_left]
  rfl

theorem content_at (len : Nat) (l : List Slt) (hok : ∀ x ∈ l, sltOk len x = true) (i : Nat) (x : Slt) (h : l[i]? = some x) : ∃ a b, sltContent len l = a ++ (sltBytes len x ++ b) ∧ a.length = i * len := by
  have hi : i < l.length := (List.getElem?_eq_some_iff.1 h).1
  have e : l = l.take i ++ ([x] ++ l.drop (i + 1)) := by
    conv => lhs; rw [← List.take_append_drop i l]
    rw [List.drop_eq_getElem_cons hi, (List.getElem?_eq_some_iff.1 h).2]; rfl
  refine ⟨sltContent len (l.take i), sltContent len (l.drop (i + 1)), ?_, ?_⟩
  · conv => lhs; rw [e]
    rw [sltContent_append, sltContent_append]
    simp [sltContent]
  · rw [sltContent_length len _ (fun y hy => hok y (List.mem_of_mem_take hy)), List.length_take, Nat.min_eq_left (by omega)]

/-- Reading encoded slots gives all of them. -/
theorem read_encoded {size len : Int} {l : List Slt} {d : ByteArray} (h : encSlots size len l = (d, 0)) :
    readSlots size.toNat len.toNat d (slotCount size len).toNat = sltAll l (slotCount size len).toNat := by
  obtain ⟨h1, h2, h3, hd⟩ := encSlots_ok h
  obtain ⟨f1, f2, f3, f4⟩ := lenOk_facts h1
  obtain ⟨g1, g2, g3⟩ := slotCount_facts h1
  obtain ⟨n, hn⟩ : ∃ n : Nat, slotCount size len = n := ⟨(slotCount size len).toNat, by omega⟩
  obtain ⟨m, rfl⟩ : ∃ m : Nat, len = m := ⟨len.toNat, by omega⟩
  obtain ⟨s, rfl⟩ : ∃ s : Nat, size = s := ⟨size.toNat, by omega⟩
  rw [hn] at g1 g2 h3 hd ⊢
  simp only [Int.toNat_natCast] at h3 hd ⊢
  have hnm : n * m + 3 * n + 4 ≤ s := by
    have e : (n : Int) * ((m : Int) + 3) = ((n * m + 3 * n : Nat) : Int) := by
      rw [Int.mul_add]; push_cast; omega
    rw [e] at g2
    omega
  have hcl := sltContent_length m _ h3
  rw [sltAll_length] at hcl
  have hml := sltMarks_length m (sltAll l n)
  rw [sltAll_length] at hml
  unfold readSlots
  rw [sltAll]
  refine List.map_congr_left fun i hi => ?_
  have hi : i < n := by simpa using hi
  have hget := sltAll_get l n i hi
  have hxok := h3 _ (List.mem_of_getElem? hget)
  obtain ⟨a, b, hm1, hm2⟩ := marks_at m _ i _ hget
  obtain ⟨a', b', hc1, hc2⟩ := content_at m _ h3 i _ hget
  have hdl : d.data.toList = whole s (sltContent m (sltAll l n)) (sltMarks m (sltAll l n)) := by rw [hd]; rfl
  have hbyte : byteAt d (s - 7 - 3 * i) = (UInt8.ofNat (sltMark (sltAt l i))).toNat := by
    have hal : a.length + 3 + 3 * i = 3 * n := by
      have := congrArg List.length hm1
      rw [hml, List.length_append, List.length_append, hm2] at this
      simp [fld] at this
      omega
    refine byteAt_mid d _ (sltContent m (sltAll l n) ++ (List.replicate (s - 4 - (sltContent m (sltAll l n)).length - (sltMarks m (sltAll l n)).length) 0 ++ a)) _ ([UInt8.ofNat m, UInt8.ofNat (m / 256)] ++ (b ++ [UInt8.ofNat (sltContent m (sltAll l n)).length, UInt8.ofNat ((sltContent m (sltAll l n)).length / 256), UInt8.ofNat (s - 4 - (sltContent m (sltAll l n)).length - (sltMarks m (sltAll l n)).length), UInt8.ofNat ((s - 4 - (sltContent m (sltAll l n)).length - (sltMarks m (sltAll l n)).length) / 256)])) ?_ ?_
    · rw [hdl]
      unfold whole
      conv => lhs; rw [hm1]
      rw [hm1]
      simp [fld]
    · simp only [List.length_append, List.length_replicate, hcl, hml]
      omega
  have hext : d.extract (i * m) ((i + 1) * m) = ofL (sltBytes m (sltAt l i)) := by
    refine extract_mid d _ _ a' _ (b' ++ (List.replicate (s - 4 - (sltContent m (sltAll l n)).length - (sltMarks m (sltAll l n)).length) 0 ++ (sltMarks m (sltAll l n) ++ [UInt8.ofNat (sltContent m (sltAll l n)).length, UInt8.ofNat ((sltContent m (sltAll l n)).length / 256), UInt8.ofNat (s - 4 - (sltContent m (sltAll l n)).length - (sltMarks m (sltAll l n)).length), UInt8.ofNat ((s - 4 - (sltContent m (sltAll l n)).length - (sltMarks m (sltAll l n)).length) / 256)]))) ?_ hc2.symm ?_
    · rw [hdl]
      unfold whole
      conv => lhs; rw [hc1]
      rw [hc1]
      simp
    · rw [sltBytes_length m _ hxok, Nat.succ_mul]
  rw [hbyte, hext]
  obtain ⟨x, hx⟩ : ∃ x, x = sltAt l i := ⟨_, rfl⟩
  rw [← hx] at hxok ⊢
  obtain ⟨u, r⟩ := x
  unfold sltOk at hxok
  cases u with
  | true =>
    simp at hxok
    have e : sltMark (true, r) = 0 := rfl
    rw [e, if_pos (by decide)]
    unfold sltBytes
    simp [hxok, ofL_toList]
  | false =>
    simp at hxok
    have e : sltMark (false, r) = 4 := rfl
    rw [e, if_neg (by decide), hxok]
    rfl

theorem encSlots_size {size len : Int} {l : List Slt} {d : ByteArray} (h : encSlots size len l = (d, 0)) : (d.size : Int) = size := by
  obtain ⟨h1, h2, h3, hd⟩ := encSlots_ok h
  obtain ⟨f1, f2, f3, f4⟩ := lenOk_facts h1
  obtain ⟨g1, g2, g3⟩ := slotCount_facts h1
  obtain ⟨n, hn⟩ : ∃ n : Nat, slotCount size len = n := ⟨(slotCount size len).toNat, by omega⟩
  obtain ⟨m, rfl⟩ : ∃ m : Nat, len = m := ⟨len.toNat, by omega⟩
  obtain ⟨s, rfl⟩ : ∃ s : Nat, size = s := ⟨size.toNat, by omega⟩
  rw [hn] at g1 g2 h3 hd
  simp only [Int.toNat_natCast] at h3 hd
  have hnm : n * m + 3 * n + 4 ≤ s := by
    have e : (n : Int) * ((m : Int) + 3) = ((n * m + 3 * n : Nat) : Int) := by
      rw [Int.mul_add]; push_cast; omega
    rw [e] at g2
    omega
  have hcl := sltContent_length m _ h3
  rw [sltAll_length] at hcl
  have hml := sltMarks_length m (sltAll l n)
  rw [sltAll_length] at hml
  rw [hd, ofL_size, whole_length _ _ _ (by rw [hcl, hml]; omega)]

/-- Encoded slots are no zeros. -/
theorem encSlots_used {size len : Int} {l : List Slt} {d : ByteArray} (h : encSlots size len l = (d, 0)) : unusedOf d = false := by
  obtain ⟨h1, h2, h3, hd⟩ := encSlots_ok h
  obtain ⟨f1, f2, f3, f4⟩ := lenOk_facts h1
  obtain ⟨g1, g2, g3⟩ := slotCount_facts h1
  obtain ⟨n, hn⟩ : ∃ n : Nat, slotCount size len = n := ⟨(slotCount size len).toNat, by omega⟩
  obtain ⟨m, rfl⟩ : ∃ m : Nat, len = m := ⟨len.toNat, by omega⟩
  obtain ⟨s, rfl⟩ : ∃ s : Nat, size = s := ⟨size.toNat, by omega⟩
  rw [hn] at g1 g2 h3 hd
  simp only [Int.toNat_natCast] at h3 hd
  have hget := sltAll_get l n 0 (by omega)
  obtain ⟨a, b, hm1, hm2⟩ := marks_at m _ 0 _ hget
  unfold unusedOf
  rw [hd, ofL_data]
  refine Bool.eq_false_iff.2 fun hall => ?_
  rw [List.all_eq_true] at hall
  have hmem : UInt8.ofNat m ∈ whole s (sltContent m (sltAll l n)) (sltMarks m (sltAll l n)) := by
    unfold whole
    rw [hm1]
    simp [fld]
  have := hall _ hmem
  have h0 : (UInt8.ofNat m).toNat = m := by
    rw [UInt8.toNat_ofNat']; omega
  have h1 : UInt8.ofNat m = 0 := by simpa using this
  rw [h1] at h0
  have : (0 : UInt8).toNat = 0 := rfl
  omega

theorem decSlots_encoded {size len : Int} {l : List Slt} {d : ByteArray} (h : encSlots size len l = (d, 0)) : decSlots size len d = (sltAll l (slotCount size len).toNat, 0) := by
  obtain ⟨h1, h2, h3, hd⟩ := encSlots_ok h
  have hsz := encSlots_size h
  have hr := read_encoded h
  have hall : sltAll (sltAll l (slotCount size len).toNat) (slotCount size len).toNat = sltAll l (slotCount size len).toNat := by
    conv => lhs; rw [sltAll]
    conv => rhs; rw [sltAll]
    refine List.map_congr_left fun i hi => ?_
    have hi : i < (slotCount size len).toNat := by simpa using hi
    rw [sltAt, List.getD, sltAll_get _ _ _ hi]
    rfl
  have g := slotCount_facts h1
  have henc : encSlots size len (sltAll l (slotCount size len).toNat) = (d, 0) := by
    unfold encSlots
    rw [if_neg (by rw [h1]; simp), if_neg (by rw [sltAll_length]; omega), hall, if_neg (by simpa using h3), ← hd]
  unfold decSlots
  rw [if_neg (by rw [h1]; simp), if_neg (by omega), if_neg (by rw [encSlots_used h]; simp), hr, if_pos henc]
end Go.Proofs.YtnkhifgppcnmkaaDoor.Iv

/- Walks: EncodeSlots. -/
namespace Go.Proofs.YtnkhifgppcnmkaaDoor
open Go.RowKit Iv

/-- The cells of slots. -/
def sltCells (l : List Slt) : List Value := l.flatMap fun x => [.bool x.1, .string x.2]

theorem sltCells_length (l : List Slt) : (sltCells l).length = 2 * l.length := by
  induction l with
  | nil => rfl
  | cons x l ih => rw [show sltCells (x :: l) = [.bool x.1, .string x.2] ++ sltCells l from rfl, List.length_append, ih]; simp; omega

theorem sltCells_get (l : List Slt) (i : Nat) (h : i < l.length) : (sltCells l)[2 * i]? = some (.bool (sltAt l i).1) ∧ (sltCells l)[2 * i + 1]? = some (.string (sltAt l i).2) := by
  induction l generalizing i with
  | nil => simp at h
  | cons x l ih =>
    have e : sltCells (x :: l) = .bool x.1 :: .string x.2 :: sltCells l := rfl
    rw [e]
    cases i with
    | zero => exact ⟨rfl, rfl⟩
    | succ i =>
      have := ih i (by simpa using h)
      rw [show 2 * (i + 1) = 2 * i + 1 + 1 by omega, List.getElem?_cons_succ, List.getElem?_cons_succ, List.getElem?_cons_succ, List.getElem?_cons_succ]
      exact this

theorem slots_at {w : World} {A : Option Addr} {l : List Slt} (h : RowA w A (sltCells l)) (i : Nat) (hi : i < l.length) :
    ∃ b o, A = some ⟨b, o, none⟩ ∧ b < w.heap.size ∧ w.cell? ⟨b, o + i * 2, none⟩ = some (.bool (sltAt l i).1) ∧ w.cell? ⟨b, o + i * 2 + 1, none⟩ = some (.string (sltAt l i).2) := by
  have hl := sltCells_length l
  obtain ⟨b, o, rfl, hlt, hc⟩ := h (by omega)
  obtain ⟨h1, h2⟩ := sltCells_get l i hi
  refine ⟨b, o, rfl, hlt, ?_, ?_⟩
  · rw [hc (i * 2) (by omega), Nat.mul_comm i 2, h1]
  · rw [Nat.add_assoc, hc (i * 2 + 1) (by omega), Nat.mul_comm i 2, h2]

theorem fieldC_any (w : World) (g bb size : Nat) (cs f : List UInt8) (c n : Nat) (ci ni : Int) (hci : ci = c) (hni : ni = n) (h : PgC w g bb size cs f) (hf : cs.length + f.length + 7 ≤ size) (hs : size ≤ 1000) (hc : c < 256) (hn : n < 65536) :
    Calls Tryd.prog 93 #[.pointer (some ⟨g, 0, none⟩), .int .u8 ci, .int .i64 ni] w fun e w' => e = .returned (.tuple #[]) ∧ PgC w' g bb size cs (fld c n ++ f) ∧ Chg (PS g bb) w w' := by
  subst hci
  subst hni
  refine (field_any w g bb size _ _ _ n c h (by omega) (by omega) hs hc hn).mono ?_
  rintro e w' ⟨rfl, hp, hch⟩
  refine ⟨rfl, ?_, hch⟩
  have e : ∀ (l : Nat) (x : List UInt8), 3 ≤ l → set2 ((cs ++ (List.replicate l 0 ++ x)).set (cs.length + l - 3) (UInt8.ofNat c)) (cs.length + l - 3 + 1) n = cs ++ (List.replicate (l - 3) 0 ++ (fld c n ++ x)) := by
    intro l x hl
    have := field_text l c n x hl
    unfold set2 at this ⊢
    rw [List.set_append_right _ _ (by omega), List.set_append_right _ _ (by omega), List.set_append_right _ _ (by omega)]
    rw [show cs.length + l - 3 - cs.length = l - 3 by omega, show cs.length + l - 3 + 1 - cs.length = l - 3 + 1 by omega, show cs.length + l - 3 + 1 + 1 - cs.length = l - 3 + 1 + 1 by omega, this]
  rw [show size - 4 - f.length - 3 = cs.length + (size - 4 - cs.length - f.length) - 3 by omega, e _ _ (by omega)] at hp
  unfold PgC
  rw [List.length_append, fld_length, show size - 4 - cs.length - (3 + f.length) = size - 4 - cs.length - f.length - 3 by omega, show size - 4 - (3 + f.length) = cs.length + (size - 4 - cs.length - f.length) - 3 by omega, List.append_assoc]
  exact hp

theorem repeat_zeros (c : Nat) : Lib.repeatL (ByteArray.mk #[0]).data.toList c = List.replicate c 0 := by
  induction c with
  | zero => rfl
  | succ c ih => rw [List.replicate_succ, ← ih]; rfl

theorem repeat_any (c : Nat) (ci : Int) (hci : ci = c) (w : World) (hc : c ≤ 1000) :
    Calls Tryd.prog 101 #[.string { data := #[0] }, .int .i64 ci] w fun e w' => e = .returned (.string (ofL (List.replicate c 0))) ∧ Below w.heap.size w w' := by
  subst hci
  have := Tryd.strings_Repeat ⟨#[0]⟩ c w (by omega) (by show 1 * c ≤ _; omega)
  rw [repeat_zeros] at this
  exact this
end Go.Proofs.YtnkhifgppcnmkaaDoor

/- Walks: EncodeSlots. -/
namespace Go.Proofs.YtnkhifgppcnmkaaDoor
open Go.RowKit Iv

/-- The numbers of slots, as they are. -/
theorem slot_nums {size len : Int} (h : lenOk size len = true) : ∃ s m n : Nat, size = s ∧ len = m ∧ slotCount size len = n ∧ 128 ≤ s ∧ s ≤ 512 ∧ 1 ≤ m ∧ m ≤ 200 ∧ 1 ≤ n ∧ n ≤ 127 ∧ n * m + 3 * n + 4 ≤ s ∧ (s : Int) = size ∧ m + 7 ≤ s := by
  obtain ⟨f1, f2, f3, f4⟩ := lenOk_facts h
  obtain ⟨g1, g2, g3⟩ := slotCount_facts h
  obtain ⟨n, hn⟩ : ∃ n : Nat, slotCount size len = n := ⟨(slotCount size len).toNat, by omega⟩
  obtain ⟨m, rfl⟩ : ∃ m : Nat, len = m := ⟨len.toNat, by omega⟩
  obtain ⟨s, rfl⟩ : ∃ s : Nat, size = s := ⟨size.toNat, by omega⟩
  rw [hn] at g1 g2
  refine ⟨s, m, n, rfl, rfl, hn, by omega, by omega, by omega, by omega, by omega, by omega, ?_, rfl, by omega⟩
  have e : (n : Int) * ((m : Int) + 3) = ((n * m + 3 * n : Nat) : Int) := by
    rw [Int.mul_add]; push_cast; omega
  rw [e] at g2
  omega

theorem sltAll_ok (l : List Slt) (m n k : Nat) (hk : k < n) (h : (sltAll l n).all (sltOk m) = true) : sltOk m (sltAt l k) = true := by
  rw [List.all_eq_true] at h
  exact h _ (List.mem_of_getElem? (sltAll_get l n k hk))

theorem slt_room (m n s k : Nat) (hk : k < n) (h : n * m + 3 * n + 4 ≤ s) : k * m + m + (3 * k + 3) + 4 ≤ s := by
  have : (k + 1) * m ≤ n * m := Nat.mul_le_mul_right _ hk
  rw [Nat.succ_mul] at this
  omega

set_option maxHeartbeats 6400000 in
set_option maxRecDepth 100000 in
theorem encSlots_any (size len : Int) (A : Option Addr) (c : Nat) (l : List Slt) (w : World) (hs : RowA w A (sltCells l)) :
    Calls Tryd.prog 43 #[.int .i64 size, .int .i64 len, .slice A l.length c] w fun e w' => e = .returned (.tuple #[.string (encSlots size len l).1, .int .i64 (encSlots size len l).2]) ∧ Below w.heap.size w w' := by
  have HS := Lib.hid hs
  clear hs
  cases h1 : lenOk size len with
  | false =>
    have he : encSlots size len l = (ByteArray.empty, 1) := by unfold encSlots; rw [if_pos h1]
    have hc : slotCount size len = 0 := by rw [slot_len, if_neg (by simp [h1])]
    rw [he]
    go_enter Tryd.func43, Tryd.ntmps43
    go_wp2_with fail
    refine (slotCount_any _ _ _).mono ?_
    rintro e w' ⟨rfl, rfl⟩
    rw [hc]
    go_wp2
    go_ret2
    exact ⟨rfl, Below.refl _ _⟩
  | true =>
    obtain ⟨s, m, n, rfl, rfl, hn, hs1, hs2, hm1, hm2, hn1, hn2, hroom, _, _⟩ := slot_nums h1
    by_cases h2 : slotCount s m < (l.length : Int)
    · have he : encSlots s m l = (ByteArray.empty, 8) := by unfold encSlots; rw [if_neg (by simp [h1]), if_pos h2]
      rw [he]
      have hz : ((n : Int) == 0) = false := by simp; omega
      rw [hn] at h2
      have HN := Lib.hid hn
      clear hn hroom
      go_enter Tryd.func43, Tryd.ntmps43
      go_wp2_with fail
      refine (slotCount_any _ _ _).mono ?_
      rintro e w' ⟨rfl, rfl⟩
      rw [HN.out]
      go_wp2
      go_ret2
      exact ⟨rfl, Below.refl _ _⟩
    · obtain ⟨ans, hans⟩ : ∃ ans, ans = encSlots s m l := ⟨_, rfl⟩
      rw [← hans]
      have he : ans = if (sltAll l n).all (sltOk m) = false then (ByteArray.empty, 2) else (ofL (whole s (sltContent m (sltAll l n)) (sltMarks m (sltAll l n))), 0) := by
        rw [hans]; unfold encSlots; rw [if_neg (by simp [h1]), if_neg h2, hn]; rfl
      have HA := Lib.hid he
      have hz : ((n : Int) == 0) = false := by simp; omega
      rw [hn] at h2
      have hln : (l.length : Int) ≤ (n : Int) := by omega
      have HN := Lib.hid hn
      have HROOM := Lib.hid hroom
      clear hn hroom h2 hans he h1
      go_enter Tryd.func43, Tryd.ntmps43
      go_wp2_with fail
      refine (slotCount_any _ _ _).mono ?_
      rintro e w' ⟨rfl, rfl⟩
      rw [HN.out]
      go_wp2_with fail
      refine (newPageF_any s _ (by omega) (by omega)).mono ?_
      rintro e w1 ⟨rfl, hp1, _, hb1⟩
      obtain ⟨g, hg⟩ : ∃ g, g = w.heap.size + 1 := ⟨_, rfl⟩
      obtain ⟨bb, hbb⟩ : ∃ bb, bb = w.heap.size := ⟨_, rfl⟩
      rw [← hg, ← hbb] at hp1
      rw [← hg]
      have HG : Hid (w.heap.size ≤ g ∧ w.heap.size ≤ bb) := by show _ ∧ _; omega
      have HP1 := Lib.hid hp1.toC
      have HB1 := Lib.hid hb1
      clear hp1 hb1 hg hbb
      go_wp2
      go_loopw [27] (fun x wr => ∃ k : Nat, x = .int .i64 k ∧ k ≤ n ∧ (∀ y ∈ sltAll l k, sltOk m y = true) ∧ PgC wr g bb s (sltContent m (sltAll l k)) (sltMarks m (sltAll l k)) ∧ Below w.heap.size w wr) (fun x _ => n - (intOf x).toNat)
      case atStart => exact ⟨0, rfl, Nat.zero_le _, by simp [sltAll], HP1.out, HB1.out⟩
      case round =>
        obtain ⟨k, rfl, hk, hok, hp, hb⟩ := hrel
        have HP := Lib.hid hp
        have HB := Lib.hid hb
        have HOK := Lib.hid hok
        clear hp hb hok HP1 HB1
        by_cases hkn : k < n
        · have hroom := slt_room m n s k hkn HROOM.out
          have HROOM2 := Lib.hid hroom
          have HCL : Hid ((sltContent m (sltAll l k)).length = k * m ∧ (sltMarks m (sltAll l k)).length = 3 * k) := by
            show _ ∧ _
            rw [sltContent_length _ _ HOK.out, sltMarks_length, sltAll_length]; exact ⟨rfl, rfl⟩
          clear hroom
          obtain ⟨⟨u, r⟩, hx⟩ : ∃ x, x = sltAt l k := ⟨_, rfl⟩
          have HX := Lib.hid hx
          by_cases hkl : k < l.length
          · obtain ⟨b, o, rfl, hbl, hc1, hc2⟩ := slots_at (HS.out.keep HB.out) k hkl
            rw [← hx] at hc1 hc2
            clear hx
            dsimp only at hc1 hc2
            cases u with
            | true =>
              by_cases hrm : r.size = m
              · have hrm1 : ((r.size : Int) != (m : Int)) = false := by simp [hrm]
                have hr0 : (0 : Int) < (r.size : Int) := by omega
                have HRS : Hid (r.size ≤ m) := by show _ ≤ _; omega
                have HOKX : Hid (sltOk m (true, r) = true) := by show _ = _; simp [sltOk, hrm]
                clear hrm
                have HPX : Hid (PgC (wr.alloc (.cells #[.bool true, .string r] 68)) g bb s (sltContent m (sltAll l k)) (sltMarks m (sltAll l k))) := HP.out.keep (Below.heap_alloc _ _ _ (blk_lt HP.out.fld)) (Below.heap_alloc _ _ _ (blk_lt HP.out.row))
                have HBX := Lib.hid (HB.out.alloc HB.out.size (.cells #[.bool true, .string r] 68))
                have HNE : Hid (wr.heap.size ≠ g ∧ wr.heap.size ≠ bb) := ⟨fun e => by have := blk_lt HP.out.fld; omega, fun e => by have := blk_lt HP.out.row; omega⟩
                obtain ⟨z, hz1⟩ : ∃ z, z = ofL (List.replicate (m - (r).size) 0) := ⟨_, rfl⟩
                obtain ⟨z2, hz2⟩ : ∃ z2, z2 = r ++ z := ⟨_, rfl⟩
                have HZ2 : Hid (z2.data.toList = sltBytes m (true, r) ∧ z2.size = m) := by
                  show _ ∧ _
                  have e : z2.data.toList = sltBytes m (true, r) := by rw [hz2, hz1]; unfold sltBytes; simp [ofL]
                  have e2 := sltBytes_length m (true, r) HOKX.out
                  rw [← e] at e2
                  exact ⟨e, by simpa using e2⟩
                have hz3 : z.size ≤ 1000 := by rw [hz1, ofL_size, List.length_replicate]; omega
                have ha1 : ∀ w, (Op.stringOp .add r z).run Tryd.prog w = .ok (.string z2) w := fun w => by rw [hz2]; exact run_string_add_sum w _ _ (by have := HRS.out; omega)
                have HRP : Hid (∀ w', Calls Tryd.prog 101 #[.string { data := #[0] }, .int .i64 ((m : Int) - (r.size : Int))] w' fun e w'' => e = .returned (.string z) ∧ Below w'.heap.size w' w'') := by
                  show ∀ _, _
                  intro w'; rw [hz1]; exact repeat_any (m - (r).size) _ (by have := HRS.out; omega) w' (by omega)
                have hw1 : IntKind.i64.wrap ((m : Int) - (r.size : Int)) = (m : Int) - (r.size : Int) := by have := HRS.out; rw [IntWalk.i64_in _ (by omega)]
                clear hz1 hz2 hz3
                go_wp2_with fail
                refine (fieldC_any _ g bb s (sltContent m (sltAll l k)) (sltMarks m (sltAll l k)) 0 m _ _ rfl rfl HPX.out (by have := HCL.out; have := HROOM2.out; omega) (by omega) (by omega) (by omega)).mono ?_
                rintro e w2 ⟨rfl, hp2, hch⟩
                have hs0 : w2.cell? ⟨wr.heap.size, 0, none⟩ = some (.bool true) := (World.cell?_of_block (hch.block wr.heap.size (by simp) (fun h => by rcases h with h | h; exact HNE.out.1 h; exact HNE.out.2 h))).trans (cell_of_row _ _ 0 _ _ _ (heap_alloc_new wr _))
                have hs1 : w2.cell? ⟨wr.heap.size, 1, none⟩ = some (.string r) := (World.cell?_of_block (hch.block wr.heap.size (by simp) (fun h => by rcases h with h | h; exact HNE.out.1 h; exact HNE.out.2 h))).trans (cell_of_row _ _ 1 _ _ _ (heap_alloc_new wr _))
                have hgl : wr.heap.size < w2.heap.size := by have := hch.size; simp at this; omega
                have HPUT : Hid (∀ w', Below w2.heap.size w2 w' → Calls Tryd.prog 94 #[.pointer (some ⟨g, 0, none⟩), .string z2] w' fun e w'' => e = .returned (.tuple #[]) ∧ PgC w'' g bb s (sltContent m (sltAll l (k + 1))) (sltMarks m (sltAll l (k + 1))) ∧ Below w.heap.size w w'' ∧ w''.cell? ⟨wr.heap.size, 1, none⟩ = some (.string r)) := by
                  show ∀ _, _
                  intro w' hw'
                  refine (putC_any w' g bb s _ _ z2 (hp2.keep (hw'.block _ (blk_lt hp2.fld)) (hw'.block _ (blk_lt hp2.row))) (by rw [HZ2.out.2, HCL.out.1, List.length_append, fld_length, HCL.out.2]; have := HROOM2.out; omega) (by omega)).mono ?_
                  rintro e w'' ⟨rfl, hp3, hch3⟩
                  refine ⟨rfl, ?_, ?_, (World.cell?_of_block (hch3.block wr.heap.size (Nat.lt_of_lt_of_le hgl hw'.size) (fun h => by rcases h with h | h; exact HNE.out.1 h; exact HNE.out.2 h))).trans ((hw'.cell (p := ⟨wr.heap.size, 1, none⟩) hgl).trans hs1)⟩
                  · rw [sltAll_succ, sltContent_append, sltMarks_snoc, ← HX.out]
                    rw [HZ2.out.1] at hp3
                    have e1 : sltContent m [(true, r)] = sltBytes m (true, r) := by simp [sltContent]
                    rw [e1]
                    exact hp3
                  · have hPS : ∀ q, PS g bb q → w.heap.size ≤ q := fun q hq => by have := HG.out; rcases hq with h | h <;> rw [h] <;> omega
                    have h1 : Below w.heap.size w w2 := HBX.out.trans (hch.below hPS HBX.out.size)
                    have h2 : Below w.heap.size w w' := h1.trans (hw'.mono h1.size)
                    exact h2.trans (hch3.below hPS h2.size)
                have HCHW := Lib.hid hch
                clear hch hp2
                go_wp2
                go_region_held3 (fun w' => w'.cell? ⟨wr.heap.size, 1, none⟩ = some (.string r)) (first | exact hc5 | exact (hBB.cell (p := ⟨wr.heap.size, 1, none⟩) hgl).trans hs1 | exact hs1) (first | (go_at_call 101; with_reducible_and_instances refine (HRP.out _).mono ?_; rintro e w3 ⟨rfl, hbF⟩; first | have hBB := bstep hBB hbF | have hBB := bstep ((Below.refl _ w2).drew) hbF) | (go_at_call 94; with_reducible_and_instances refine (HPUT.out _ hBB).mono ?_; rintro e w5 ⟨rfl, hp5, hb5, hc5⟩))
                all_goals
                  go_wp2
                  refine ⟨⟨k + 1, by go_num, by omega, ?_, hp5, hb5⟩, by simp [intOf]; omega⟩
                  rw [sltAll_succ, ← HX.out]
                  intro y hy
                  rcases List.mem_append.1 hy with hy | hy
                  · exact HOK.out y hy
                  · rw [List.mem_singleton.1 hy]; exact HOKX.out
              · have hrm1 : ((r.size : Int) != (m : Int)) = true := by simp; omega
                have HBAD : Hid (ans = (ByteArray.empty, 2)) := by
                  show _ = _
                  rw [HA.out]
                  refine if_pos ?_
                  cases hall : (sltAll l n).all (sltOk m) with
                  | false => rfl
                  | true =>
                    have hok2 := sltAll_ok l m n k hkn hall
                    rw [← HX.out] at hok2
                    simp only [sltOk] at hok2
                    simp at hok2
                    omega
                by_cases hr0 : (0 : Int) < (r.size : Int)
                · clear hrm
                  go_wp2
                  go_ret2
                  exact ⟨by rw [HBAD.out]; rfl, HB.out.alloc HB.out.size _⟩
                · clear hrm
                  go_wp2
                  go_ret2
                  exact ⟨by rw [HBAD.out]; rfl, HB.out.alloc HB.out.size _⟩
            | false =>
              by_cases hrm : r.size = 0
              · obtain rfl : r = ByteArray.empty := by simpa using hrm
                have HRS : Hid (ByteArray.empty.size ≤ m ∧ ByteArray.empty.size = 0) := ⟨by simp, rfl⟩
                have HOKX : Hid (sltOk m (false, ByteArray.empty) = true) := by show _ = _; rfl
                clear hrm
                have HPX : Hid (PgC (wr.alloc (.cells #[.bool false, .string ByteArray.empty] 68)) g bb s (sltContent m (sltAll l k)) (sltMarks m (sltAll l k))) := HP.out.keep (Below.heap_alloc _ _ _ (blk_lt HP.out.fld)) (Below.heap_alloc _ _ _ (blk_lt HP.out.row))
                have HBX := Lib.hid (HB.out.alloc HB.out.size (.cells #[.bool false, .string ByteArray.empty] 68))
                have HNE : Hid (wr.heap.size ≠ g ∧ wr.heap.size ≠ bb) := ⟨fun e => by have := blk_lt HP.out.fld; omega, fun e => by have := blk_lt HP.out.row; omega⟩
                obtain ⟨z, hz1⟩ : ∃ z, z = ofL (List.replicate (m - (ByteArray.empty).size) 0) := ⟨_, rfl⟩
                obtain ⟨z2, hz2⟩ : ∃ z2, z2 = ByteArray.empty ++ z := ⟨_, rfl⟩
                have HZ2 : Hid (z2.data.toList = sltBytes m (false, ByteArray.empty) ∧ z2.size = m) := by
                  show _ ∧ _
                  have e : z2.data.toList = sltBytes m (false, ByteArray.empty) := by rw [hz2, hz1]; unfold sltBytes; simp [ofL]
                  have e2 := sltBytes_length m (false, ByteArray.empty) HOKX.out
                  rw [← e] at e2
                  exact ⟨e, by simpa using e2⟩
                have hz3 : z.size ≤ 1000 := by rw [hz1, ofL_size, List.length_replicate]; omega
                have ha1 : ∀ w, (Op.stringOp .add ByteArray.empty z).run Tryd.prog w = .ok (.string z2) w := fun w => by rw [hz2]; exact run_string_add_sum w _ _ (by have := HRS.out; omega)
                have HRP : Hid (∀ w', Calls Tryd.prog 101 #[.string { data := #[0] }, .int .i64 ((m : Int))] w' fun e w'' => e = .returned (.string z) ∧ Below w'.heap.size w' w'') := by
                  show ∀ _, _
                  intro w'; rw [hz1]; exact repeat_any (m - (ByteArray.empty).size) _ (by have := HRS.out; omega) w' (by omega)
                have hw1 : IntKind.i64.wrap ((m : Int)) = (m : Int) := by have := HRS.out; rw [IntWalk.i64_in _ (by omega)]
                clear hz1 hz2 hz3
                go_wp2_with fail
                refine (fieldC_any _ g bb s (sltContent m (sltAll l k)) (sltMarks m (sltAll l k)) 4 m _ _ rfl rfl HPX.out (by have := HCL.out; have := HROOM2.out; omega) (by omega) (by omega) (by omega)).mono ?_
                rintro e w2 ⟨rfl, hp2, hch⟩
                have hs0 : w2.cell? ⟨wr.heap.size, 0, none⟩ = some (.bool false) := (World.cell?_of_block (hch.block wr.heap.size (by simp) (fun h => by rcases h with h | h; exact HNE.out.1 h; exact HNE.out.2 h))).trans (cell_of_row _ _ 0 _ _ _ (heap_alloc_new wr _))
                have hs1 : w2.cell? ⟨wr.heap.size, 1, none⟩ = some (.string ByteArray.empty) := (World.cell?_of_block (hch.block wr.heap.size (by simp) (fun h => by rcases h with h | h; exact HNE.out.1 h; exact HNE.out.2 h))).trans (cell_of_row _ _ 1 _ _ _ (heap_alloc_new wr _))
                have hgl : wr.heap.size < w2.heap.size := by have := hch.size; simp at this; omega
                have HPUT : Hid (∀ w', Below w2.heap.size w2 w' → Calls Tryd.prog 94 #[.pointer (some ⟨g, 0, none⟩), .string z2] w' fun e w'' => e = .returned (.tuple #[]) ∧ PgC w'' g bb s (sltContent m (sltAll l (k + 1))) (sltMarks m (sltAll l (k + 1))) ∧ Below w.heap.size w w'' ∧ w''.cell? ⟨wr.heap.size, 1, none⟩ = some (.string ByteArray.empty)) := by
                  show ∀ _, _
                  intro w' hw'
                  refine (putC_any w' g bb s _ _ z2 (hp2.keep (hw'.block _ (blk_lt hp2.fld)) (hw'.block _ (blk_lt hp2.row))) (by rw [HZ2.out.2, HCL.out.1, List.length_append, fld_length, HCL.out.2]; have := HROOM2.out; omega) (by omega)).mono ?_
                  rintro e w'' ⟨rfl, hp3, hch3⟩
                  refine ⟨rfl, ?_, ?_, (World.cell?_of_block (hch3.block wr.heap.size (Nat.lt_of_lt_of_le hgl hw'.size) (fun h => by rcases h with h | h; exact HNE.out.1 h; exact HNE.out.2 h))).trans ((hw'.cell (p := ⟨wr.heap.size, 1, none⟩) hgl).trans hs1)⟩
                  · rw [sltAll_succ, sltContent_append, sltMarks_snoc, ← HX.out]
                    rw [HZ2.out.1] at hp3
                    have e1 : sltContent m [(false, ByteArray.empty)] = sltBytes m (false, ByteArray.empty) := by simp [sltContent]
                    rw [e1]
                    exact hp3
                  · have hPS : ∀ q, PS g bb q → w.heap.size ≤ q := fun q hq => by have := HG.out; rcases hq with h | h <;> rw [h] <;> omega
                    have h1 : Below w.heap.size w w2 := HBX.out.trans (hch.below hPS HBX.out.size)
                    have h2 : Below w.heap.size w w' := h1.trans (hw'.mono h1.size)
                    exact h2.trans (hch3.below hPS h2.size)
                have HCHW := Lib.hid hch
                clear hch hp2
                go_wp2
                go_region_held3 (fun w' => w'.cell? ⟨wr.heap.size, 1, none⟩ = some (.string ByteArray.empty)) (first | exact hc5 | exact (hBB.cell (p := ⟨wr.heap.size, 1, none⟩) hgl).trans hs1 | exact hs1) (first | (go_at_call 101; with_reducible_and_instances refine (HRP.out _).mono ?_; rintro e w3 ⟨rfl, hbF⟩; first | have hBB := bstep hBB hbF | have hBB := bstep ((Below.refl _ w2).drew) hbF) | (go_at_call 94; with_reducible_and_instances refine (HPUT.out _ hBB).mono ?_; rintro e w5 ⟨rfl, hp5, hb5, hc5⟩))
                all_goals
                  go_wp2
                  refine ⟨⟨k + 1, by go_num, by omega, ?_, hp5, hb5⟩, by simp [intOf]; omega⟩
                  rw [sltAll_succ, ← HX.out]
                  intro y hy
                  rcases List.mem_append.1 hy with hy | hy
                  · exact HOK.out y hy
                  · rw [List.mem_singleton.1 hy]; exact HOKX.out
              · have hr0 : 0 < r.size := by omega
                have HBAD : Hid (ans = (ByteArray.empty, 2)) := by
                  show _ = _
                  rw [HA.out]
                  refine if_pos ?_
                  cases hall : (sltAll l n).all (sltOk m) with
                  | false => rfl
                  | true =>
                    have hok2 := sltAll_ok l m n k hkn hall
                    rw [← HX.out] at hok2
                    simp only [sltOk] at hok2
                    simp at hok2
                    exact absurd (by rw [hok2]; rfl) hrm
                clear hrm
                go_wp2
                go_ret2
                exact ⟨by rw [HBAD.out]; rfl, HB.out.alloc HB.out.size _⟩
          · have hx2 : (u, r) = (false, ByteArray.empty) := by rw [hx]; unfold sltAt noSlt; simp [List.getD, List.getElem?_eq_none (by omega : l.length ≤ k)]
            obtain ⟨rfl, rfl⟩ := Prod.mk.inj hx2
            clear hx hx2
            have HRS : Hid (ByteArray.empty.size ≤ m ∧ ByteArray.empty.size = 0) := ⟨by simp, rfl⟩
            have HOKX : Hid (sltOk m (false, ByteArray.empty) = true) := by show _ = _; rfl
            have HPX : Hid (PgC (wr.alloc (.cells #[.bool false, .string ByteArray.empty] 68)) g bb s (sltContent m (sltAll l k)) (sltMarks m (sltAll l k))) := HP.out.keep (Below.heap_alloc _ _ _ (blk_lt HP.out.fld)) (Below.heap_alloc _ _ _ (blk_lt HP.out.row))
            have HBX := Lib.hid (HB.out.alloc HB.out.size (.cells #[.bool false, .string ByteArray.empty] 68))
            have HNE : Hid (wr.heap.size ≠ g ∧ wr.heap.size ≠ bb) := ⟨fun e => by have := blk_lt HP.out.fld; omega, fun e => by have := blk_lt HP.out.row; omega⟩
            obtain ⟨z, hz1⟩ : ∃ z, z = ofL (List.replicate (m - (ByteArray.empty).size) 0) := ⟨_, rfl⟩
            obtain ⟨z2, hz2⟩ : ∃ z2, z2 = ByteArray.empty ++ z := ⟨_, rfl⟩
            have HZ2 : Hid (z2.data.toList = sltBytes m (false, ByteArray.empty) ∧ z2.size = m) := by
              show _ ∧ _
              have e : z2.data.toList = sltBytes m (false, ByteArray.empty) := by rw [hz2, hz1]; unfold sltBytes; simp [ofL]
              have e2 := sltBytes_length m (false, ByteArray.empty) HOKX.out
              rw [← e] at e2
              exact ⟨e, by simpa using e2⟩
            have hz3 : z.size ≤ 1000 := by rw [hz1, ofL_size, List.length_replicate]; omega
            have ha1 : ∀ w, (Op.stringOp .add ByteArray.empty z).run Tryd.prog w = .ok (.string z2) w := fun w => by rw [hz2]; exact run_string_add_sum w _ _ (by have := HRS.out; omega)
            have HRP : Hid (∀ w', Calls Tryd.prog 101 #[.string { data := #[0] }, .int .i64 ((m : Int))] w' fun e w'' => e = .returned (.string z) ∧ Below w'.heap.size w' w'') := by
              show ∀ _, _
              intro w'; rw [hz1]; exact repeat_any (m - (ByteArray.empty).size) _ (by have := HRS.out; omega) w' (by omega)
            have hw1 : IntKind.i64.wrap ((m : Int)) = (m : Int) := by have := HRS.out; rw [IntWalk.i64_in _ (by omega)]
            clear hz1 hz2 hz3
            go_wp2_with fail
            refine (fieldC_any _ g bb s (sltContent m (sltAll l k)) (sltMarks m (sltAll l k)) 4 m _ _ rfl rfl HPX.out (by have := HCL.out; have := HROOM2.out; omega) (by omega) (by omega) (by omega)).mono ?_
            rintro e w2 ⟨rfl, hp2, hch⟩
            have hs0 : w2.cell? ⟨wr.heap.size, 0, none⟩ = some (.bool false) := (World.cell?_of_block (hch.block wr.heap.size (by simp) (fun h => by rcases h with h | h; exact HNE.out.1 h; exact HNE.out.2 h))).trans (cell_of_row _ _ 0 _ _ _ (heap_alloc_new wr _))
            have hs1 : w2.cell? ⟨wr.heap.size, 1, none⟩ = some (.string ByteArray.empty) := (World.cell?_of_block (hch.block wr.heap.size (by simp) (fun h => by rcases h with h | h; exact HNE.out.1 h; exact HNE.out.2 h))).trans (cell_of_row _ _ 1 _ _ _ (heap_alloc_new wr _))
            have hgl : wr.heap.size < w2.heap.size := by have := hch.size; simp at this; omega
            have HPUT : Hid (∀ w', Below w2.heap.size w2 w' → Calls Tryd.prog 94 #[.pointer (some ⟨g, 0, none⟩), .string z2] w' fun e w'' => e = .returned (.tuple #[]) ∧ PgC w'' g bb s (sltContent m (sltAll l (k + 1))) (sltMarks m (sltAll l (k + 1))) ∧ Below w.heap.size w w'' ∧ w''.cell? ⟨wr.heap.size, 1, none⟩ = some (.string ByteArray.empty)) := by
              show ∀ _, _
              intro w' hw'
              refine (putC_any w' g bb s _ _ z2 (hp2.keep (hw'.block _ (blk_lt hp2.fld)) (hw'.block _ (blk_lt hp2.row))) (by rw [HZ2.out.2, HCL.out.1, List.length_append, fld_length, HCL.out.2]; have := HROOM2.out; omega) (by omega)).mono ?_
              rintro e w'' ⟨rfl, hp3, hch3⟩
              refine ⟨rfl, ?_, ?_, (World.cell?_of_block (hch3.block wr.heap.size (Nat.lt_of_lt_of_le hgl hw'.size) (fun h => by rcases h with h | h; exact HNE.out.1 h; exact HNE.out.2 h))).trans ((hw'.cell (p := ⟨wr.heap.size, 1, none⟩) hgl).trans hs1)⟩
              · rw [sltAll_succ, sltContent_append, sltMarks_snoc, ← HX.out]
                rw [HZ2.out.1] at hp3
                have e1 : sltContent m [(false, ByteArray.empty)] = sltBytes m (false, ByteArray.empty) := by simp [sltContent]
                rw [e1]
                exact hp3
              · have hPS : ∀ q, PS g bb q → w.heap.size ≤ q := fun q hq => by have := HG.out; rcases hq with h | h <;> rw [h] <;> omega
                have h1 : Below w.heap.size w w2 := HBX.out.trans (hch.below hPS HBX.out.size)
                have h2 : Below w.heap.size w w' := h1.trans (hw'.mono h1.size)
                exact h2.trans (hch3.below hPS h2.size)
            have HCHW := Lib.hid hch
            clear hch hp2
            go_wp2
            go_region_held3 (fun w' => w'.cell? ⟨wr.heap.size, 1, none⟩ = some (.string ByteArray.empty)) (first | exact hc5 | exact (hBB.cell (p := ⟨wr.heap.size, 1, none⟩) hgl).trans hs1 | exact hs1) (first | (go_at_call 101; with_reducible_and_instances refine (HRP.out _).mono ?_; rintro e w3 ⟨rfl, hbF⟩; first | have hBB := bstep hBB hbF | have hBB := bstep ((Below.refl _ w2).drew) hbF) | (go_at_call 94; with_reducible_and_instances refine (HPUT.out _ hBB).mono ?_; rintro e w5 ⟨rfl, hp5, hb5, hc5⟩))
            all_goals
              go_wp2
              refine ⟨⟨k + 1, by go_num, by omega, ?_, hp5, hb5⟩, by simp [intOf]; omega⟩
              rw [sltAll_succ, ← HX.out]
              intro y hy
              rcases List.mem_append.1 hy with hy | hy
              · exact HOK.out y hy
              · rw [List.mem_singleton.1 hy]; exact HOKX.out
        · obtain rfl : k = n := by omega
          have HF : Hid (ans = (ofL (whole s (sltContent m (sltAll l k)) (sltMarks m (sltAll l k))), 0)) := by
            show _ = _
            rw [HA.out]
            refine if_neg ?_
            simpa using HOK.out
          have HCL : Hid ((sltContent m (sltAll l k)).length = k * m ∧ (sltMarks m (sltAll l k)).length = 3 * k) := by
            show _ ∧ _
            rw [sltContent_length _ _ HOK.out, sltMarks_length, sltAll_length]; exact ⟨rfl, rfl⟩
          go_wp2_with fail
          refine (done_any _ g bb s _ _ HP.out (by rw [HCL.out.1, HCL.out.2]; have := HROOM.out; omega) (by omega)).mono ?_
          rintro e w2 ⟨rfl, hch⟩
          have HB2 := Lib.hid (HB.out.trans (hch.below (B := w.heap.size) (fun q hq => by have := HG.out; rcases hq with h | h <;> rw [h] <;> omega) HB.out.size))
          clear hch
          go_wp2
          go_ret2
          exact ⟨by rw [HF.out]; rfl, HB2.out⟩
end Go.Proofs.YtnkhifgppcnmkaaDoor

/- Walks: the reference's EncodeSlots. -/
namespace Go.Proofs.YtnkhifgppcnmkaaDoor
open Go.RowKit Iv

theorem slotLen_small (m n s k : Nat) (hk : k ≤ n) (h : n * m + 3 * n + 4 ≤ s) (hs : s ≤ 512) : k * m ≤ 512 ∧ 3 * k ≤ 512 := by
  have : k * m ≤ n * m := Nat.mul_le_mul_right _ hk
  omega

theorem toList_empty (r : ByteArray) (h : r.size ≠ 0) : r.toList.isEmpty = false := by
  rw [isEmpty_iff]
  cases hr : r.data.toList with
  | nil => exact absurd (by have := congrArg List.length hr; simpa using this) h
  | cons a t => rfl

set_option maxHeartbeats 6400000 in
set_option maxRecDepth 100000 in
theorem refEncSlots_any (size len : Int) (A : Option Addr) (c : Nat) (l : List Slt) (w : World) (hs : RowA w A (sltCells l)) :
    Calls Tryd.prog 44 #[.int .i64 size, .int .i64 len, .slice A l.length c] w fun e w' => e = .returned (.tuple #[.string (encSlots size len l).1, .int .i64 (encSlots size len l).2]) ∧ Below w.heap.size w w' := by
  have HS := Lib.hid hs
  clear hs
  cases h1 : lenOk size len with
  | false =>
    have he : encSlots size len l = (ByteArray.empty, 1) := by unfold encSlots; rw [if_pos h1]
    rw [he]
    go_enter Tryd.func44, Tryd.ntmps44
    go_wp2_with fail
    refine (isLength_any _ _ _).mono ?_
    rintro e w' ⟨rfl, rfl⟩
    rw [h1]
    go_wp2
    go_ret2
    exact ⟨rfl, Below.refl _ _⟩
  | true =>
    obtain ⟨s, m, n, rfl, rfl, hn, hs1, hs2, hm1, hm2, hn1, hn2, hroom, _, _⟩ := slot_nums h1
    have H1 := Lib.hid h1
    by_cases h2 : slotCount s m < (l.length : Int)
    · have he : encSlots s m l = (ByteArray.empty, 8) := by unfold encSlots; rw [if_neg (by simp [h1]), if_pos h2]
      rw [he]
      rw [hn] at h2
      have HN := Lib.hid hn
      clear hn hroom h1
      go_enter Tryd.func44, Tryd.ntmps44
      go_wp2_with fail
      refine (isLength_any _ _ _).mono ?_
      rintro e w' ⟨rfl, rfl⟩
      rw [H1.out]
      go_wp2_with fail
      refine (refSlotCount_any _ _ _).mono ?_
      rintro e w' ⟨rfl, rfl⟩
      rw [HN.out]
      go_wp2
      go_ret2
      exact ⟨rfl, Below.refl _ _⟩
    · obtain ⟨ans, hans⟩ : ∃ ans, ans = encSlots s m l := ⟨_, rfl⟩
      rw [← hans]
      have he : ans = if (sltAll l n).all (sltOk m) = false then (ByteArray.empty, 2) else (ofL (whole s (sltContent m (sltAll l n)) (sltMarks m (sltAll l n))), 0) := by
        rw [hans]; unfold encSlots; rw [if_neg (by simp [h1]), if_neg h2, hn]; rfl
      have HA := Lib.hid he
      rw [hn] at h2
      have hln : (l.length : Int) ≤ (n : Int) := by omega
      have hdec : decide (n < l.length) = false := by simp; omega
      have HN := Lib.hid hn
      have HROOM := Lib.hid hroom
      have HCNT : Hid (∀ w', Calls Tryd.prog 49 #[.int .i64 s, .int .i64 m] w' fun e w'' => e = .returned (.int .i64 n) ∧ w' = w'') := by
        show ∀ _, _
        intro w'
        have := refSlotCount_any s m w'
        rwa [hn] at this
      clear hn hroom h2 hans he h1
      go_enter Tryd.func44, Tryd.ntmps44
      go_wp2_with fail
      refine (isLength_any _ _ _).mono ?_
      rintro e w' ⟨rfl, rfl⟩
      rw [H1.out]
      go_wp2_with fail
      refine (HCNT.out _).mono ?_
      rintro e w' ⟨rfl, rfl⟩
      go_wp2
      go_loopw [8, 9, 10] (fun x y z wr => ∃ k : Nat, x = .string (ofL (sltContent m (sltAll l k))) ∧ y = .string (ofL (sltMarks m (sltAll l k))) ∧ z = .int .i64 k ∧ k ≤ n ∧ (∀ y ∈ sltAll l k, sltOk m y = true) ∧ Below w.heap.size w wr) (fun _ _ z _ => n - (intOf z).toNat)
      case atStart => exact ⟨0, rfl, rfl, rfl, Nat.zero_le _, by simp [sltAll], Below.refl _ _⟩
      case round =>
        obtain ⟨k, rfl, rfl, rfl, hk, hok, hb⟩ := hrel
        have HB := Lib.hid hb
        have HOK := Lib.hid hok
        clear hb hok
        have HCL : Hid ((sltContent m (sltAll l k)).length = k * m ∧ (sltMarks m (sltAll l k)).length = 3 * k) := by
          show _ ∧ _
          rw [sltContent_length _ _ HOK.out, sltMarks_length, sltAll_length]; exact ⟨rfl, rfl⟩
        have HSM := Lib.hid (slotLen_small m n s k hk HROOM.out hs2)
        obtain ⟨cs, hcs⟩ : ∃ cs, cs = ofL (sltContent m (sltAll l k)) := ⟨_, rfl⟩
        obtain ⟨ms, hms⟩ : ∃ ms, ms = ofL (sltMarks m (sltAll l k)) := ⟨_, rfl⟩
        have hcsz : cs.size ≤ 1000 := by rw [hcs, ofL_size, HCL.out.1]; have := HSM.out.1; omega
        have hmsz : ms.size ≤ 1000 := by rw [hms, ofL_size, HCL.out.2]; have := HSM.out.2; omega
        rw [← hcs, ← hms]
        have HCS := Lib.hid hcs
        have HMS := Lib.hid hms
        have HCZ := Lib.hid hcsz
        have HMZ := Lib.hid hmsz
        clear hcs hms hcsz hmsz
        by_cases hkn : k < n
        · obtain ⟨⟨u, r⟩, hx⟩ : ∃ x, x = sltAt l k := ⟨_, rfl⟩
          have HX := Lib.hid hx
          obtain ⟨fs, hfs⟩ : ∃ fs, fs = ofL (fld (sltMark (u, r)) m) := ⟨_, rfl⟩
          obtain ⟨s2, hs2'⟩ : ∃ s2, s2 = fs ++ ms := ⟨_, rfl⟩
          have hfz : fs.size = 3 := by rw [hfs, ofL_size]; rfl
          have ha2 : ∀ w, (Op.stringOp .add fs ms).run Tryd.prog w = .ok (.string s2) w := fun w => by rw [hs2']; exact run_string_add_sum w _ _ (by have := HMZ.out; omega)
          have HS2 : Hid (s2 = ofL (sltMarks m (sltAll l (k + 1)))) := by
            show _ = _
            rw [hs2', hfs, HMS.out, ofL_append, sltAll_succ, sltMarks_snoc, ← HX.out]
          have HFS := Lib.hid hfs
          clear hfs hs2'
          have hcell : ∀ (h : k < l.length), ∃ b o, A = some ⟨b, o, none⟩ ∧ b < wr.heap.size ∧ wr.cell? ⟨b, o + k * 2, none⟩ = some (.bool u) ∧ wr.cell? ⟨b, o + k * 2 + 1, none⟩ = some (.string r) := by
            intro h
            obtain ⟨b, o, rfl, hbl, hc1, hc2⟩ := slots_at (HS.out.keep HB.out) k h
            rw [← hx] at hc1 hc2
            exact ⟨b, o, rfl, hbl, hc1, hc2⟩
          have HCELL := Lib.hid hcell
          clear hcell
          by_cases hkl : k < l.length
          · obtain ⟨b, o, rfl, hbl, hc1, hc2⟩ := HCELL.out hkl
            clear HCELL
            cases u with
            | true =>
              by_cases hrm : r.size = m
              · have hrm1 : ((r.size : Int) == (m : Int)) = true := by simp [hrm]
                obtain ⟨s1, hs1'⟩ : ∃ s1, s1 = cs ++ r := ⟨_, rfl⟩
                have ha1 : ∀ w, (Op.stringOp .add cs r).run Tryd.prog w = .ok (.string s1) w := fun w => by rw [hs1']; exact run_string_add_sum w _ _ (by have := HCZ.out; omega)
                have HOKX : Hid (sltOk m (true, r) = true) := by show _ = _; simp [sltOk, hrm]
                have HS1 : Hid (s1 = ofL (sltContent m (sltAll l (k + 1)))) := by
                  show _ = _
                  have e1 : sltContent m [(true, r)] = r.data.toList := by simp [sltContent, sltBytes, hrm]
                  rw [hs1', HCS.out, sltAll_succ, sltContent_append, ← HX.out, e1, ← ofL_append, ofL_toList]
                have HF1 : Hid (∀ w', Calls Tryd.prog 103 #[.int .i64 0, .int .i64 m] w' fun e w'' => e = .returned (.string fs) ∧ Below w'.heap.size w' w'') := by
                  show ∀ _, _
                  intro w'; rw [HFS.out]; exact refField_any 0 m w' (by omega) (by omega)
                clear hs1' hrm hx
                have HBX := Lib.hid (HB.out.alloc HB.out.size (.cells #[.bool true, .string r] 68))
                have hs1c : (wr.alloc (.cells #[.bool true, .string r] 68)).cell? ⟨wr.heap.size, 1, none⟩ = some (.string r) := cell_of_row _ _ 1 _ _ _ (heap_alloc_new wr _)
                have hgl : wr.heap.size < (wr.alloc (.cells #[.bool true, .string r] 68)).heap.size := by simp
                go_wp2_with fail
                refine (HCNT.out _).mono ?_
                rintro e w' ⟨rfl, rfl⟩
                go_wp2
                go_region_held3 (fun w' => w'.cell? ⟨wr.heap.size, 1, none⟩ = some (.string r)) (first | exact (hBB.cell (p := ⟨wr.heap.size, 1, none⟩) hgl).trans hs1c | exact hs1c) ((go_at_call 103; with_reducible_and_instances refine (HF1.out _).mono ?_; rintro e w3 ⟨rfl, hbF⟩; first | have hBB := bstep hBB hbF | have hBB := bstep ((Below.refl _ (wr.alloc (.cells #[.bool true, .string r] 68))).drew) hbF))
                all_goals
                  go_wp2
                  refine ⟨⟨k + 1, by rw [HS1.out], by rw [HS2.out], by go_num, by omega, ?_, bstep HBX.out hBB⟩, by simp [intOf]; omega⟩
                  rw [sltAll_succ, ← HX.out]
                  intro y hy
                  rcases List.mem_append.1 hy with hy | hy
                  · exact HOK.out y hy
                  · rw [List.mem_singleton.1 hy]; exact HOKX.out
              · have hrm1 : ((r.size : Int) == (m : Int)) = false := by simp; omega
                have HBAD : Hid (ans = (ByteArray.empty, 2)) := by
                  show _ = _
                  rw [HA.out]
                  refine if_pos ?_
                  cases hall : (sltAll l n).all (sltOk m) with
                  | false => rfl
                  | true =>
                    have hok2 := sltAll_ok l m n k hkn hall
                    rw [← HX.out] at hok2
                    simp only [sltOk] at hok2
                    simp at hok2
                    omega
                clear hx
                clear hrm
                go_wp2_with fail
                refine (HCNT.out _).mono ?_
                rintro e w' ⟨rfl, rfl⟩
                go_wp2
                go_ret2
                exact ⟨by rw [HBAD.out]; rfl, HB.out.alloc HB.out.size _⟩
            | false =>
              by_cases hrm : r.size = 0
              · obtain rfl : r = ByteArray.empty := by simpa using hrm
                clear hrm
                obtain ⟨z, hz1⟩ : ∃ z, z = ofL (List.replicate m 0) := ⟨_, rfl⟩
                obtain ⟨s1, hs1'⟩ : ∃ s1, s1 = cs ++ z := ⟨_, rfl⟩
                have hzz : z.size = m := by rw [hz1, ofL_size, List.length_replicate]
                have ha1 : ∀ w, (Op.stringOp .add cs z).run Tryd.prog w = .ok (.string s1) w := fun w => by rw [hs1']; exact run_string_add_sum w _ _ (by have := HCZ.out; omega)
                have HOKX : Hid (sltOk m (false, ByteArray.empty) = true) := by show _ = _; rfl
                have HS1 : Hid (s1 = ofL (sltContent m (sltAll l (k + 1)))) := by
                  show _ = _
                  have e1 : sltContent m [(false, ByteArray.empty)] = List.replicate m 0 := by simp [sltContent, sltBytes]
                  rw [hs1', HCS.out, sltAll_succ, sltContent_append, ← HX.out, e1, ← ofL_append, hz1]
                have HF1 : Hid (∀ w', Calls Tryd.prog 103 #[.int .i64 4, .int .i64 m] w' fun e w'' => e = .returned (.string fs) ∧ Below w'.heap.size w' w'') := by
                  show ∀ _, _
                  intro w'; rw [HFS.out]; exact refField_any 4 m w' (by omega) (by omega)
                have HZR : Hid (∀ w', Calls Tryd.prog 88 #[.int .i64 m] w' fun e w'' => e = .returned (.string z) ∧ Below w'.heap.size w' w'') := by
                  show ∀ _, _
                  intro w'; rw [hz1]; exact zeros_any m w' (by omega)
                clear hs1' hz1 hzz hx
                have HBX := Lib.hid (HB.out.alloc HB.out.size (.cells #[.bool false, .string ByteArray.empty] 68))
                go_wp2_with fail
                refine (HCNT.out _).mono ?_
                rintro e w' ⟨rfl, rfl⟩
                go_wp2_with fail
                refine (HZR.out _).mono ?_
                rintro e w3 ⟨rfl, hb3⟩
                have HB3 := Lib.hid (bstep HBX.out hb3)
                clear hb3
                go_wp2_with fail
                refine (HF1.out _).mono ?_
                rintro e w4 ⟨rfl, hb4⟩
                have HB4 := Lib.hid (bstep HB3.out hb4)
                clear hb4
                go_wp2
                refine ⟨⟨k + 1, by rw [HS1.out], by rw [HS2.out], by go_num, by omega, ?_, HB4.out⟩, by simp [intOf]; omega⟩
                rw [sltAll_succ, ← HX.out]
                intro y hy
                rcases List.mem_append.1 hy with hy | hy
                · exact HOK.out y hy
                · rw [List.mem_singleton.1 hy]; exact HOKX.out
              · have hem := toList_empty r hrm
                have hem2 : (r.toList == ByteArray.empty.toList) = false := bytes_ne (fun e => hrm (by rw [e]; rfl))
                have HBAD : Hid (ans = (ByteArray.empty, 2)) := by
                  show _ = _
                  rw [HA.out]
                  refine if_pos ?_
                  cases hall : (sltAll l n).all (sltOk m) with
                  | false => rfl
                  | true =>
                    have hok2 := sltAll_ok l m n k hkn hall
                    rw [← HX.out] at hok2
                    simp only [sltOk] at hok2
                    simp at hok2
                    exact absurd (by rw [hok2]; rfl) hrm
                clear hx
                clear hrm
                go_wp2_with fail
                refine (HCNT.out _).mono ?_
                rintro e w' ⟨rfl, rfl⟩
                go_wp2
                go_ret2
                exact ⟨by rw [HBAD.out]; rfl, HB.out.alloc HB.out.size _⟩
          · have hx2 : (u, r) = (false, ByteArray.empty) := by rw [hx]; unfold sltAt noSlt; simp [List.getD, List.getElem?_eq_none (by omega : l.length ≤ k)]
            obtain ⟨rfl, rfl⟩ := Prod.mk.inj hx2
            clear hx2 HCELL
            obtain ⟨z, hz1⟩ : ∃ z, z = ofL (List.replicate m 0) := ⟨_, rfl⟩
            obtain ⟨s1, hs1'⟩ : ∃ s1, s1 = cs ++ z := ⟨_, rfl⟩
            have hzz : z.size = m := by rw [hz1, ofL_size, List.length_replicate]
            have ha1 : ∀ w, (Op.stringOp .add cs z).run Tryd.prog w = .ok (.string s1) w := fun w => by rw [hs1']; exact run_string_add_sum w _ _ (by have := HCZ.out; omega)
            have HOKX : Hid (sltOk m (false, ByteArray.empty) = true) := by show _ = _; rfl
            have HS1 : Hid (s1 = ofL (sltContent m (sltAll l (k + 1)))) := by
              show _ = _
              have e1 : sltContent m [(false, ByteArray.empty)] = List.replicate m 0 := by simp [sltContent, sltBytes]
              rw [hs1', HCS.out, sltAll_succ, sltContent_append, ← HX.out, e1, ← ofL_append, hz1]
            have HF1 : Hid (∀ w', Calls Tryd.prog 103 #[.int .i64 4, .int .i64 m] w' fun e w'' => e = .returned (.string fs) ∧ Below w'.heap.size w' w'') := by
              show ∀ _, _
              intro w'; rw [HFS.out]; exact refField_any 4 m w' (by omega) (by omega)
            have HZR : Hid (∀ w', Calls Tryd.prog 88 #[.int .i64 m] w' fun e w'' => e = .returned (.string z) ∧ Below w'.heap.size w' w'') := by
              show ∀ _, _
              intro w'; rw [hz1]; exact zeros_any m w' (by omega)
            clear hs1' hz1 hzz hx
            have HBX := Lib.hid (HB.out.alloc HB.out.size (.cells #[.bool false, .string ByteArray.empty] 68))
            go_wp2_with fail
            refine (HCNT.out _).mono ?_
            rintro e w' ⟨rfl, rfl⟩
            go_wp2_with fail
            refine (HZR.out _).mono ?_
            rintro e w3 ⟨rfl, hb3⟩
            have HB3 := Lib.hid (bstep HBX.out hb3)
            clear hb3
            go_wp2_with fail
            refine (HF1.out _).mono ?_
            rintro e w4 ⟨rfl, hb4⟩
            have HB4 := Lib.hid (bstep HB3.out hb4)
            clear hb4
            go_wp2
            refine ⟨⟨k + 1, by rw [HS1.out], by rw [HS2.out], by go_num, by omega, ?_, HB4.out⟩, by simp [intOf]; omega⟩
            rw [sltAll_succ, ← HX.out]
            intro y hy
            rcases List.mem_append.1 hy with hy | hy
            · exact HOK.out y hy
            · rw [List.mem_singleton.1 hy]; exact HOKX.out
        · obtain rfl : k = n := by omega
          have HF : Hid (ans = (ofL (whole s (sltContent m (sltAll l k)) (sltMarks m (sltAll l k))), 0)) := by
            show _ = _
            rw [HA.out]
            refine if_neg ?_
            simpa using HOK.out
          have HWH : Hid (∀ w', Calls Tryd.prog 97 #[.int .i64 s, .string cs, .string ms] w' fun e w'' => e = .returned (.string (ofL (whole s (sltContent m (sltAll l k)) (sltMarks m (sltAll l k))))) ∧ Below w'.heap.size w' w'') := by
            show ∀ _, _
            intro w'; rw [HCS.out, HMS.out]; exact whole_any s _ _ w' (by omega) (by rw [HCL.out.1, HCL.out.2]; have := HROOM.out; omega)
          go_wp2_with fail
          refine (HCNT.out _).mono ?_
          rintro e w' ⟨rfl, rfl⟩
          go_wp2_with fail
          refine (HWH.out _).mono ?_
          rintro e w3 ⟨rfl, hb3⟩
          have HB3 := Lib.hid (bstep HB.out hb3)
          clear hb3
          go_wp2
          go_ret2
          exact ⟨by rw [HF.out]; rfl, HB3.out⟩
end Go.Proofs.YtnkhifgppcnmkaaDoor

/- Walks: DecodeSlots. -/
namespace Go.Proofs.YtnkhifgppcnmkaaDoor
open Go.RowKit Iv

/-- What DecodeSlots answers: a slice of slots that is its caller's own, and the error. -/
def SlotsTo (w : World) (r : List Slt × Int) (e : Ending) (w' : World) : Prop :=
  ∃ v, e = .returned (.tuple #[v, .int .i64 r.2]) ∧ w'.ownsRow w.heap.size 68 2 v r.1.length (sltCells r.1) ∧ Below w.heap.size w w'

theorem slots_err (w w' : World) (k : Int) (h : Below w.heap.size w w') : SlotsTo w ([], k) (.returned (.tuple #[.slice none 0 0, .int .i64 k])) w' :=
  ⟨_, rfl, World.ownsRow_nil _ _ _ _, h⟩

/-- The slot that is read at a place. -/
def rdSlt (s m : Nat) (d : ByteArray) (i : Nat) : Slt := if byteAt d (s - 7 - 3 * i) = 0 then (true, d.extract (i * m) ((i + 1) * m)) else noSlt
theorem readSlots_eq (s m : Nat) (d : ByteArray) (n : Nat) : readSlots s m d n = (List.range n).map (rdSlt s m d) := rfl
/-- The first k slots read, the others still unused. -/
def rdTab (s m : Nat) (d : ByteArray) (n k : Nat) : List Slt := (List.range k).map (rdSlt s m d) ++ List.replicate (n - k) noSlt

theorem rdTab_length (s m : Nat) (d : ByteArray) (n k : Nat) (h : k ≤ n) : (rdTab s m d n k).length = n := by simp [rdTab]; omega
theorem rdTab_all (s m : Nat) (d : ByteArray) (n : Nat) : rdTab s m d n n = readSlots s m d n := by simp [rdTab, readSlots_eq]
theorem rdTab_at (s m : Nat) (d : ByteArray) (n k : Nat) (h : k < n) : sltAt (rdTab s m d n k) k = noSlt := by
  unfold sltAt rdTab
  rw [List.getD, List.getElem?_append_right (by simp)]
  obtain ⟨j, hj⟩ : ∃ j, n - k = j + 1 := ⟨n - k - 1, by omega⟩
  rw [hj, List.replicate_succ]
  simp
theorem rdTab_succ (s m : Nat) (d : ByteArray) (n k : Nat) (h : k < n) : rdTab s m d n (k + 1) = (rdTab s m d n k).set k (rdSlt s m d k) := by
  unfold rdTab
  rw [List.range_succ, List.map_append, List.set_append_right _ _ (by simp)]
  obtain ⟨j, hj⟩ : ∃ j, n - k = j + 1 := ⟨n - k - 1, by omega⟩
  rw [hj, List.replicate_succ, show n - (k + 1) = j by omega]
  simp

theorem sltCells_append (a b : List Slt) : sltCells (a ++ b) = sltCells a ++ sltCells b := by simp [sltCells]
theorem sltCells_set (l : List Slt) (k : Nat) (x : Slt) (h : k < l.length) : ((sltCells l).set (k * 2) (.bool x.1)).set (k * 2 + 1) (.string x.2) = sltCells (l.set k x) := by
  have e : l = l.take k ++ ([l[k]] ++ l.drop (k + 1)) := by
    conv => lhs; rw [← List.take_append_drop k l, List.drop_eq_getElem_cons h]
    rfl
  have hl := sltCells_length (l.take k)
  rw [List.length_take, Nat.min_eq_left (by omega)] at hl
  have e2 : l.set k x = l.take k ++ ([x] ++ l.drop (k + 1)) := by
    rw [List.set_eq_take_append_cons_drop, if_pos h]; rfl
  have e3 : sltCells l = sltCells (l.take k) ++ ([.bool l[k].1, .string l[k].2] ++ sltCells (l.drop (k + 1))) := by
    conv => lhs; rw [e, sltCells_append, sltCells_append]
    rfl
  rw [e2, e3, sltCells_append, sltCells_append, List.set_append_right _ _ (by omega), List.set_append_right _ _ (by omega), show k * 2 - (sltCells (l.take k)).length = 0 by omega, show k * 2 + 1 - (sltCells (l.take k)).length = 1 by omega]
  rfl

theorem sltMade (n : Nat) : madeCells #[.bool false, .string ByteArray.empty] (n * 2) = (sltCells (List.replicate n noSlt)).toArray := by
  apply Array.ext'
  apply List.ext_getElem
  · rw [Array.length_toList, size_madeCells, List.toList_toArray, sltCells_length, List.length_replicate, Nat.mul_comm]
  · intro i h1 h2
    have hz : ∀ j, j < n → sltAt (List.replicate n noSlt) j = noSlt := by
      intro j hj; unfold sltAt; rw [List.getD, List.getElem?_replicate, if_pos hj]; rfl
    have hi : i < n * 2 := by rw [Array.length_toList, size_madeCells] at h1; exact h1
    have hg := sltCells_get (List.replicate n noSlt) (i / 2) (by rw [List.length_replicate]; omega)
    rw [hz _ (by omega)] at hg
    apply Option.some.inj
    have hl : some ((madeCells #[Value.bool false, Value.string ByteArray.empty] (n * 2)).toList[i]) = some ((#[Value.bool false, Value.string ByteArray.empty] : Array Value)[i % 2]!) := by
      simp [madeCells]
    rw [hl, ← List.getElem?_eq_getElem h2]
    show _ = (sltCells (List.replicate n noSlt))[i]?
    rcases Nat.mod_two_eq_zero_or_one i with h | h
    · rw [h]
      conv => rhs; rw [show i = 2 * (i / 2) by omega]
      rw [hg.1]; rfl
    · rw [h]
      conv => rhs; rw [show i = 2 * (i / 2) + 1 by omega]
      rw [hg.2]; rfl

set_option maxRecDepth 100000 in
theorem make_slots (n : Nat) (hn : n ≤ 1000) (w : World) :
    (Instr.makeSlice 66 (.int .i64 (n : Int)) (.int .i64 (n : Int))).run Tryd.prog w = .ok (.slice (some ⟨w.heap.size, 0, none⟩) n n) (w.alloc (.cells (sltCells (List.replicate n noSlt)).toArray 68)) := by
  obtain ⟨ht, i, z, hi, hz, hs, hb, hzs, _⟩ := elemSlot
  have hz2 : some z = some (Value.agg #[.bool false, .string ByteArray.empty]) := by
    have h : (Tryd.prog.info? 68).map (fun i => i.zero) = some (some (Value.agg #[.bool false, .string ByteArray.empty])) := by kernel_rfl
    rw [hi] at h
    simp only [Option.map_some, Option.some.injEq] at h
    rw [← hz, h]
  injection hz2 with hz2
  subst hz2
  have hr := run_make w 66 68 i _ ht hi hz .i64 .i64 (n : Int) (n : Int) (by omega) (by omega) (by rw [hb]; omega) (by omega)
  rw [hr, Int.toNat_natCast, hs, ← sltMade]
  rfl
theorem lenOk_false {size len : Int} (h : lenOk size len = false) : slotCount size len = 0 := by rw [slot_len, if_neg (by simp [h])]

set_option maxHeartbeats 800000 in
set_option maxRecDepth 100000 in
theorem decSlots_any (size len : Int) (d : ByteArray) (w : World) (hd : d.size ≤ 1000) :
    Calls Tryd.prog 45 #[.int .i64 size, .int .i64 len, .string d] w fun e w' => SlotsTo w (decSlots size len d) e w' := by
  have HDM : Hid (d.size ≤ maxLen) := by show _ ≤ _; unfold maxLen; omega
  cases h1 : lenOk size len with
  | false =>
    have he : decSlots size len d = ([], 1) := by unfold decSlots; rw [if_pos h1]
    have hc := lenOk_false h1
    rw [he]
    go_enter Tryd.func45, Tryd.ntmps45
    go_wp2_with fail
    refine (slotCount_any _ _ _).mono ?_
    rintro e w' ⟨rfl, rfl⟩
    rw [hc]
    go_wp2
    go_ret2
    exact slots_err _ _ _ (Below.refl _ _)
  | true =>
    obtain ⟨s, m, n, rfl, rfl, hn, hs1, hs2, hm1, hm2, hn1, hn2, hroom, _, _⟩ := slot_nums h1
    have hz : ((n : Int) == 0) = false := by simp; omega
    have HN := Lib.hid hn
    by_cases h2 : checkOf s d = 0
    · have h2a : (d.size : Int) = s := by
        unfold checkOf at h2
        split at h2
        · cases h2
        · omega
      have h2b : unusedOf d = false := by
        unfold checkOf at h2
        rw [if_neg (by omega)] at h2
        cases hu : unusedOf d with
        | false => rfl
        | true => rw [hu, if_pos rfl] at h2; cases h2
      have hds : d.size = s := by omega
      obtain ⟨ans, hans⟩ : ∃ ans, ans = decSlots s m d := ⟨_, rfl⟩
      rw [← hans]
      have he : ans = if encSlots s m (readSlots s m d n) = (d, 0) then (readSlots s m d n, 0) else ([], 11) := by
        rw [hans]; unfold decSlots; rw [if_neg (by simp [h1]), if_neg (by omega), if_neg (by simp [h2b]), hn]; rfl
      have HA := Lib.hid he
      have HDS := Lib.hid hds
      have HROOM := Lib.hid hroom
      have HCK : Hid (∀ w', Calls Tryd.prog 82 #[.int .i64 s, .string d] w' fun e w'' => e = .returned (.int .i64 0) ∧ Below w'.heap.size w' w'') := by
        show ∀ _, _
        intro w'
        have := check_any s d w' HDM.out
        rwa [h2] at this
      have hmk := fun W => make_slots n (by omega) W
      clear hn hroom h2 h2a h2b hans he h1 hds
      go_enter Tryd.func45, Tryd.ntmps45
      go_wp2_with fail
      refine (slotCount_any _ _ _).mono ?_
      rintro e w' ⟨rfl, rfl⟩
      rw [HN.out]
      go_wp2_with fail
      refine (HCK.out _).mono ?_
      rintro e w1 ⟨rfl, hb1⟩
      have HB1 := Lib.hid hb1
      clear hb1
      go_wp2
      obtain ⟨g, hg⟩ : ∃ g, g = w1.heap.size := ⟨_, rfl⟩
      have HG0 : Hid ((w1.alloc (.cells (sltCells (List.replicate n noSlt)).toArray 68)).heap[g]? = some (.cells (sltCells (rdTab s m d n 0)).toArray 68 (0, 0))) := by
        show _ = _
        rw [hg]
        have : rdTab s m d n 0 = List.replicate n noSlt := by simp [rdTab]
        rw [this]
        exact heap_alloc_new w1 _
      have HB2 := Lib.hid (HB1.out.alloc HB1.out.size (.cells (sltCells (List.replicate n noSlt)).toArray 68))
      have HGL : Hid (w.heap.size ≤ g) := by show _ ≤ _; rw [hg]; exact HB1.out.size
      rw [← hg]
      clear hg hmk
      go_loopw [29] (fun x wr => ∃ k : Nat, x = .int .i64 k ∧ k ≤ n ∧ wr.heap[g]? = some (.cells (sltCells (rdTab s m d n k)).toArray 68 (0, 0)) ∧ Below w.heap.size w wr) (fun x _ => n - (intOf x).toNat)
      case atStart => exact ⟨0, rfl, Nat.zero_le _, HG0.out, HB2.out⟩
      case round =>
        obtain ⟨k, rfl, hk, hg, hb⟩ := hrel
        have HB := Lib.hid hb
        have HG := Lib.hid hg
        clear hb hg HG0 HB2
        by_cases hkn : k < n
        · have hroom := slt_room m n s k hkn HROOM.out
          obtain ⟨P, hP⟩ : ∃ P, P = s - 7 - 3 * k := ⟨_, rfl⟩
          have e1 : (s : Int) - 4 - 3 * ((k : Int) + 1) = (P : Int) := by omega
          have hPd : (P : Int) < (d.size : Int) := by have := HDS.out; omega
          have hPd2 : P < d.size := by omega
          have hix := byteAt_get d P hPd2
          obtain ⟨y, hy⟩ : ∃ y, y = byteAt d P := ⟨_, rfl⟩
          rw [← hy] at hix
          have hrd : rdSlt s m d k = if y = 0 then (true, d.extract (k * m) ((k + 1) * m)) else noSlt := by unfold rdSlt; rw [← hP, ← hy]
          obtain ⟨K, hK⟩ : ∃ K, K = k * m := ⟨_, rfl⟩
          have hK2 : (k + 1) * m = K + m := by rw [Nat.succ_mul, hK]
          rw [← hK, hK2] at hrd
          have m1 : (k : Int) * (m : Int) = (K : Int) := by rw [hK]; push_cast; rfl
          have m2 : ((k : Int) + 1) * (m : Int) = (K : Int) + (m : Int) := by rw [hK]; push_cast; rw [Int.add_mul, Int.one_mul]
          have hK5 : K ≤ 512 := by rw [hK]; omega
          have q1 : (K : Int) ≤ (K : Int) + (m : Int) := by omega
          have q2 : (K : Int) + (m : Int) ≤ (d.size : Int) := by have := HDS.out; rw [hK]; omega
          have q4 : ((K : Int) + (m : Int)).toNat = K + m := by omega
          have hL := rdTab_length s m d n k hk
          have hcs := sltCells_get (rdTab s m d n k) k (by omega)
          rw [rdTab_at s m d n k hkn] at hcs
          have hc0 : wr.cell? ⟨g, k * 2, none⟩ = some (.bool false) := by
            rw [cell_of_row _ _ (k * 2) _ _ _ HG.out, List.getElem?_toArray, Nat.mul_comm]; exact hcs.1
          have hc1 : wr.cell? ⟨g, k * 2 + 1, none⟩ = some (.string ByteArray.empty) := by
            rw [cell_of_row _ _ (k * 2 + 1) _ _ _ HG.out, List.getElem?_toArray, Nat.mul_comm]; exact hcs.2
          have hf0 := frozen_of_row _ _ (k * 2) _ _ HG.out
          have hf1 := frozen_of_row _ _ (k * 2 + 1) _ _ HG.out
          have hset := rdTab_succ s m d n k hkn
          have hst := sltCells_set (rdTab s m d n k) k (rdSlt s m d k) (by omega)
          rw [← hset] at hst
          have HST := Lib.hid hst
          have HRD := Lib.hid hrd
          clear hP hy hK hK2 hcs hset hst hL hroom hrd
          by_cases hy0 : y = 0
          · subst hy0
            go_wp2
            refine ⟨⟨k + 1, by go_num, by omega, ?_, (HB.out.setCell (p := ⟨g, k * 2, none⟩) HGL.out _).setCell (p := ⟨g, k * 2 + 1, none⟩) HGL.out _⟩, by simp [intOf]; omega⟩
            rw [heap_setCell_same _ _ _ _ _ _ (heap_setCell_same _ _ _ _ _ _ HG.out)]
            have h1 := HST.out
            rw [HRD.out, if_pos rfl] at h1
            rw [← h1]
            simp
          · have hyz : ((y : Int) == 0) = false := by simpa using hy0
            go_wp2
            refine ⟨⟨k + 1, by go_num, by omega, ?_, HB.out⟩, by simp [intOf]; omega⟩
            have h1 := HST.out
            rw [HRD.out, if_neg hy0] at h1
            rw [HG.out, ← h1]
            have h2 : sltCells (rdTab s m d n k) = ((sltCells (rdTab s m d n k)).set (k * 2) (Value.bool noSlt.1)).set (k * 2 + 1) (Value.string noSlt.2) := by
              have hL := rdTab_length s m d n k hk
              rw [sltCells_set _ _ _ (by omega)]
              congr 1
              apply List.ext_getElem (by simp)
              intro i h1 h2
              rw [List.getElem_set]
              split
              · rename_i e
                subst e
                have h3 := rdTab_at s m d n k hkn
                unfold sltAt at h3
                rw [List.getD, List.getElem?_eq_getElem h1] at h3
                exact h3
              · rfl
            rw [← h2]
        · obtain rfl : k = n := by omega
          have hlen : (readSlots s m d k).length = k := by simp [readSlots]
          have HOWN : Hid (wr.ownsRow w.heap.size 68 2 (.slice (some ⟨g, 0, none⟩) k k) k (sltCells (readSlots s m d k))) := by
            have hc2 := sltCells_length (readSlots s m d k)
            rw [hlen] at hc2
            refine ⟨by omega, .inr ⟨g, k, _, rfl, HGL.out, HG.out, Nat.le_refl _, by unfold maxLen; omega, ?_, ?_⟩⟩
            · rw [rdTab_all, List.size_toArray]; omega
            · rw [rdTab_all, List.toList_toArray, List.take_of_length_le (by omega)]
          have HENC : Hid (∀ w', Below wr.heap.size wr w' → Calls Tryd.prog 43 #[.int .i64 s, .int .i64 m, .slice (some ⟨g, 0, none⟩) k k] w' fun e w'' => e = .returned (.tuple #[.string (encSlots s m (readSlots s m d k)).1, .int .i64 (encSlots s m (readSlots s m d k)).2]) ∧ Below w'.heap.size w' w'') := by
            show ∀ _, _
            intro w' hw'
            obtain ⟨A, c, e, hrow, _⟩ := own_row (own_keep HOWN.out hw')
            injection e with e1 e2 e3
            subst e1
            have := encSlots_any s m (some ⟨g, 0, none⟩) k (readSlots s m d k) w' hrow
            rwa [hlen] at this
          have HL := Lib.hid hlen
          have HRES := HA
          clear hlen
          obtain ⟨rs, hrs⟩ : ∃ rs, rs = readSlots s m d k := ⟨_, rfl⟩
          rw [← hrs] at HENC HRES HOWN HL
          clear hrs
          rcases hxe : encSlots s m rs with ⟨x, e2⟩
          rw [hxe] at HENC HRES
          clear hxe HA
          go_wp2_with fail
          refine (HENC.out _ (Below.refl _ _)).mono ?_
          rintro e w6 ⟨rfl, hb6⟩
          have HB6 := Lib.hid (bstep HB.out hb6)
          have HOWN6 := Lib.hid (own_keep HOWN.out hb6)
          clear hb6
          by_cases he : e2 = 0
          · subst he
            by_cases hx : x = d
            · subst hx
              go_wp2
              go_ret2
              rw [show ans = (rs, 0) by rw [HRES.out]; simp]
              exact ⟨_, rfl, by rw [HL.out]; exact HOWN6.out, HB6.out⟩
            · have hxn := bytes_ne hx
              have HX := Lib.hid hx
              clear hx
              go_wp2
              go_ret2
              rw [HRES.out, if_neg (by intro h; injection h with h _; exact HX.out h)]
              exact slots_err _ _ _ HB6.out
          · have hen : (e2 != 0) = true := by simp [he]
            have HEN := Lib.hid he
            clear he
            go_wp2
            go_ret2
            rw [HRES.out, if_neg (by intro h; injection h with _ h; exact HEN.out h)]
            exact slots_err _ _ _ HB6.out
    · have hck : decSlots s m d = ([], checkOf s d) := by
        unfold decSlots
        rw [if_neg (by simp [h1])]
        unfold checkOf at h2 ⊢
        split at h2
        · rename_i hs; rw [if_pos hs, if_pos hs]
        · rename_i hs
          rw [if_neg hs, if_neg hs]
          split at h2
          · rename_i hu; rw [if_pos hu, if_pos hu]
          · exact absurd rfl h2
      rw [hck]
      obtain ⟨ck, hck2⟩ : ∃ ck, ck = checkOf s d := ⟨_, rfl⟩
      have HCK : Hid (∀ w', Calls Tryd.prog 82 #[.int .i64 s, .string d] w' fun e w'' => e = .returned (.int .i64 ck) ∧ Below w'.heap.size w' w'') := by
        show ∀ _, _
        intro w'
        rw [hck2]
        exact check_any s d w' HDM.out
      rw [← hck2] at h2 ⊢
      have hne : (ck != 0) = true := by simp [h2]
      clear hck hck2 hn hroom
      go_enter Tryd.func45, Tryd.ntmps45
      go_wp2_with fail
      refine (slotCount_any _ _ _).mono ?_
      rintro e w' ⟨rfl, rfl⟩
      rw [HN.out]
      go_wp2_with fail
      refine (HCK.out _).mono ?_
      rintro e w1 ⟨rfl, hb1⟩
      go_wp2
      go_ret2
      exact slots_err _ _ _ hb1
end Go.Proofs.YtnkhifgppcnmkaaDoor

/- Walks: the reference's DecodeSlots and SameSlots. -/
namespace Go.Proofs.YtnkhifgppcnmkaaDoor
open Go.RowKit Iv

/-- One element is appended to a row that the call owns; where the element's block lies is told by a number. -/
theorem wpl_pushH {ops : Array Oper} {rest : List Oper} {o : Oper} {a : Act} {Q : Exit → Act → World → Prop} {t e size bytes : Nat} (E : Elem t e size bytes) (hgd : o.guard = none) (s x : Operand)
    (ho : o.op = .call { callee := .builtin .append, args := #[s, x], argTypes := #[t, t] })
    {w0 w : World} (v : Value) (n : Nat) (xs news : List Value) (hs : a.eval s = v) (hown : w.ownsRow w0.heap.size e size v n xs) (hb : Below w0.heap.size w0 w)
    (H : Nat) (hH : w.heap.size = H) (hx : a.eval x = .slice (some ⟨H, 0, none⟩) 1 1) (hl : news.length = size) (h1 : ∀ u ∈ news, u.oneCell' = true) (h63 : n + 1 ≤ maxLen) (hbytes : (n + 1) * bytes ≤ 140737488355328)
    (h : ∀ g cap w', w'.ownsRow w0.heap.size e size (.slice (some ⟨g, 0, none⟩) (n + 1) cap) (n + 1) (xs ++ news) → Below w0.heap.size w0 w' → wpList Tryd.prog ops Q rest (a.put o.dst (.slice (some ⟨g, 0, none⟩) (n + 1) cap)) w') :
    wpList Tryd.prog ops Q (o :: rest) a (w.alloc (.cells news.toArray e)) := by
  subst hH
  exact wpl_push E hgd s x ho v n xs news hs hown hb hx hl h1 h63 hbytes h

theorem readSlots_succ (s m : Nat) (d : ByteArray) (k : Nat) : readSlots s m d (k + 1) = readSlots s m d k ++ [rdSlt s m d k] := by
  rw [readSlots_eq, readSlots_eq, List.range_succ, List.map_append]; rfl

set_option maxHeartbeats 1600000 in
set_option maxRecDepth 100000 in
theorem refDecSlots_any (size len : Int) (d : ByteArray) (w : World) (hd : d.size ≤ 1000) :
    Calls Tryd.prog 46 #[.int .i64 size, .int .i64 len, .string d] w fun e w' => SlotsTo w (decSlots size len d) e w' := by
  cases h1 : lenOk size len with
  | false =>
    have he : decSlots size len d = ([], 1) := by unfold decSlots; rw [if_pos h1]
    rw [he]
    go_enter Tryd.func46, Tryd.ntmps46
    go_wp2_with fail
    refine (isLength_any _ _ _).mono ?_
    rintro e w' ⟨rfl, rfl⟩
    rw [h1]
    go_wp2
    go_ret2
    exact slots_err _ _ _ (Below.refl _ _)
  | true =>
    obtain ⟨s, m, n, rfl, rfl, hn, hs1, hs2, hm1, hm2, hn1, hn2, hroom, _, _⟩ := slot_nums h1
    have H1 := Lib.hid h1
    have HDZ := Lib.hid hd
    by_cases h2 : (d.size : Int) = s
    · have hneq : ((d.size : Int) != (s : Int)) = false := by simp [h2]
      cases hu : unusedOf d with
      | true =>
        have he : decSlots s m d = ([], 9) := by unfold decSlots; rw [if_neg (by simp [h1]), if_neg (by omega), if_pos hu]
        rw [he]
        clear h2 h1 hn hroom
        go_enter Tryd.func46, Tryd.ntmps46
        go_wp2_with fail
        refine (isLength_any _ _ _).mono ?_
        rintro e w' ⟨rfl, rfl⟩
        rw [H1.out]
        go_wp2_with fail
        refine (refUnused_any d _ HDZ.out).mono ?_
        rintro e w1 ⟨rfl, hb1⟩
        go_wp2
        go_ret2
        exact slots_err _ _ _ hb1
      | false =>
        have hds : d.size = s := by omega
        obtain ⟨ans, hans⟩ : ∃ ans, ans = decSlots s m d := ⟨_, rfl⟩
        rw [← hans]
        have he : ans = if encSlots s m (readSlots s m d n) = (d, 0) then (readSlots s m d n, 0) else ([], 11) := by
          rw [hans]; unfold decSlots; rw [if_neg (by simp [h1]), if_neg (by omega), if_neg (by simp [hu]), hn]; rfl
        have HA := Lib.hid he
        have HDS := Lib.hid hds
        have HROOM := Lib.hid hroom
        have HCNT : Hid (∀ w', Calls Tryd.prog 49 #[.int .i64 s, .int .i64 m] w' fun e w'' => e = .returned (.int .i64 n) ∧ w' = w'') := by
          show ∀ _, _
          intro w'
          have := refSlotCount_any s m w'
          rwa [hn] at this
        clear hn hroom h2 hans he h1 hds
        go_enter Tryd.func46, Tryd.ntmps46
        go_wp2_with fail
        refine (isLength_any _ _ _).mono ?_
        rintro e w' ⟨rfl, rfl⟩
        rw [H1.out]
        go_wp2_with fail
        refine (refUnused_any d _ HDZ.out).mono ?_
        rintro e w1 ⟨rfl, hb1⟩
        have HB1 := Lib.hid hb1
        clear hb1
        have hm : (w1.alloc (.cells #[] 68)).ownsRow w.heap.size 68 2 (.slice (some ⟨w1.heap.size, 0, none⟩) 0 0) 0 (sltCells (readSlots s m d 0)) := World.ownsRow_made (e := 68) (size := 2) w1 #[] 0 HB1.out.size (by decide) rfl
        have HOW := Lib.hid hm
        have HBW := Lib.hid (HB1.out.alloc HB1.out.size (.cells #[] 68))
        clear hm
        go_wp2
        go_loopw [8, 9] (fun x z wr => ∃ k : Nat, z = .int .i64 k ∧ k ≤ n ∧ wr.ownsRow w.heap.size 68 2 x k (sltCells (readSlots s m d k)) ∧ Below w.heap.size w wr) (fun _ z _ => n - (intOf z).toNat)
        case atStart => exact ⟨0, rfl, Nat.zero_le _, HOW.out, HBW.out⟩
        case round =>
          obtain ⟨k, rfl, hk, hown, hb⟩ := hrel
          have HB := Lib.hid hb
          have HO := Lib.hid hown
          clear hb hown HOW HBW
          by_cases hkn : k < n
          · have hroom := slt_room m n s k hkn HROOM.out
            obtain ⟨P, hP⟩ : ∃ P, P = s - 7 - 3 * k := ⟨_, rfl⟩
            have e1 : (s : Int) - 7 - 3 * (k : Int) = (P : Int) := by omega
            have hPd : (P : Int) < (d.size : Int) := by have := HDS.out; omega
            have hPd2 : P < d.size := by omega
            have hix := byteAt_get d P hPd2
            obtain ⟨y, hy⟩ : ∃ y, y = byteAt d P := ⟨_, rfl⟩
            rw [← hy] at hix
            have hrd : rdSlt s m d k = if y = 0 then (true, d.extract (k * m) ((k + 1) * m)) else noSlt := by unfold rdSlt; rw [← hP, ← hy]
            obtain ⟨K, hK⟩ : ∃ K, K = k * m := ⟨_, rfl⟩
            have hK2 : (k + 1) * m = K + m := by rw [Nat.succ_mul, hK]
            rw [← hK, hK2] at hrd
            have m1 : (k : Int) * (m : Int) = (K : Int) := by rw [hK]; push_cast; rfl
            have m2 : ((k : Int) + 1) * (m : Int) = (K : Int) + (m : Int) := by rw [hK]; push_cast; rw [Int.add_mul, Int.one_mul]
            have hK5 : K ≤ 512 := by rw [hK]; omega
            have q1 : (K : Int) ≤ (K : Int) + (m : Int) := by omega
            have q2 : (K : Int) + (m : Int) ≤ (d.size : Int) := by have := HDS.out; rw [hK]; omega
            have q4 : ((K : Int) + (m : Int)).toNat = K + m := by omega
            have hsc := readSlots_succ s m d k
            have HSC : Hid (sltCells (readSlots s m d k) ++ [.bool (rdSlt s m d k).1, .string (rdSlt s m d k).2] = sltCells (readSlots s m d (k + 1))) := by
              show _ = _
              rw [hsc, sltCells_append]; rfl
            have HRD := Lib.hid hrd
            have HK := Lib.hid hkn
            clear hP hy hK hK2 hroom hrd hsc
            by_cases hy0 : y = 0
            · subst hy0
              have h1 := HSC.out
              rw [HRD.out, if_pos rfl] at h1
              have HSC2 := Lib.hid h1
              have HBX := Lib.hid (HB.out.alloc HB.out.size (.cells #[.bool true, .string (d.extract K (K + m))] 68))
              have HOX : Hid ((wr.alloc (.cells #[.bool true, .string (d.extract K (K + m))] 68)).ownsRow w.heap.size 68 2 u8 k (sltCells (readSlots s m d k))) := World.ownsRow.alloc HO.out _
              clear h1
              go_wp2_with fail
              refine (HCNT.out _).mono ?_
              rintro e w' ⟨rfl, rfl⟩
              go_wp2_with (first | (at_builtin; refine wpl_pushH elemSlot rfl _ _ rfl u8 k (sltCells (readSlots s m d k)) [.bool true, .string (d.extract K (K + m))] rfl HOX.out HBX.out _ (by simp) rfl rfl (by simp [Value.oneCell']) (by have := HK.out; unfold maxLen; omega) (by have := HK.out; omega) ?_; intro g cap w7 hown7 hb7; have HB7 := Lib.hid hb7; clear hb7))
              refine ⟨⟨k + 1, by go_num, by have := HK.out; omega, ?_, HB7.out⟩, by have := HK.out; simp [intOf]; omega⟩
              rw [← HSC2.out]
              exact hown7
            · have hyz : ((y : Int) == 0) = false := by simpa using hy0
              have h1 := HSC.out
              rw [HRD.out, if_neg hy0] at h1
              have HSC2 := Lib.hid h1
              have HBX := Lib.hid (HB.out.alloc HB.out.size (.cells #[.bool false, .string ByteArray.empty] 68))
              have HOX : Hid ((wr.alloc (.cells #[.bool false, .string ByteArray.empty] 68)).ownsRow w.heap.size 68 2 u8 k (sltCells (readSlots s m d k))) := World.ownsRow.alloc HO.out _
              clear h1
              go_wp2_with fail
              refine (HCNT.out _).mono ?_
              rintro e w' ⟨rfl, rfl⟩
              go_wp2_with (first | (at_builtin; refine wpl_pushH elemSlot rfl _ _ rfl u8 k (sltCells (readSlots s m d k)) [.bool false, .string ByteArray.empty] rfl HOX.out HBX.out _ (by simp) rfl rfl (by simp [Value.oneCell']) (by have := HK.out; unfold maxLen; omega) (by have := HK.out; omega) ?_; intro g cap w7 hown7 hb7; have HB7 := Lib.hid hb7; clear hb7))
              refine ⟨⟨k + 1, by go_num, by have := HK.out; omega, ?_, HB7.out⟩, by have := HK.out; simp [intOf]; omega⟩
              rw [← HSC2.out]
              exact hown7
          · obtain rfl : k = n := by omega
            have hlen : (readSlots s m d k).length = k := by simp [readSlots]
            obtain ⟨A, c, rfl, hrow, hkc⟩ := own_row HO.out
            have HENC : Hid (∀ w', Below wr.heap.size wr w' → Calls Tryd.prog 44 #[.int .i64 s, .int .i64 m, .slice A k c] w' fun e w'' => e = .returned (.tuple #[.string (encSlots s m (readSlots s m d k)).1, .int .i64 (encSlots s m (readSlots s m d k)).2]) ∧ Below w'.heap.size w' w'') := by
              show ∀ _, _
              intro w' hw'
              have := refEncSlots_any s m A c (readSlots s m d k) w' (hrow.keep hw')
              rwa [hlen] at this
            have HL := Lib.hid hlen
            have HRES := HA
            clear hlen hrow
            obtain ⟨rs, hrs⟩ : ∃ rs, rs = readSlots s m d k := ⟨_, rfl⟩
            rw [← hrs] at HENC HRES HO HL
            clear hrs
            rcases hxe : encSlots s m rs with ⟨x, e2⟩
            rw [hxe] at HENC HRES
            clear hxe HA
            go_wp2_with fail
            refine (HCNT.out _).mono ?_
            rintro e w' ⟨rfl, rfl⟩
            go_wp2_with fail
            refine (HENC.out _ (Below.refl _ _)).mono ?_
            rintro e w6 ⟨rfl, hb6⟩
            have HB6 := Lib.hid (bstep HB.out hb6)
            have HOWN6 := Lib.hid (own_keep HO.out hb6)
            clear hb6
            by_cases he : e2 = 0
            · subst he
              by_cases hx : x = d
              · subst hx
                go_wp2
                go_ret2
                rw [show ans = (rs, 0) by rw [HRES.out]; simp]
                exact ⟨_, rfl, by rw [HL.out]; exact HOWN6.out, HB6.out⟩
              · have hxn := bytes_ne hx
                have HX := Lib.hid hx
                clear hx
                go_wp2
                go_ret2
                rw [HRES.out, if_neg (by intro h; injection h with h _; exact HX.out h)]
                exact slots_err _ _ _ HB6.out
            · have hen : (e2 != 0) = true := by simp [he]
              have HEN := Lib.hid he
              clear he
              go_wp2
              go_ret2
              rw [HRES.out, if_neg (by intro h; injection h with _ h; exact HEN.out h)]
              exact slots_err _ _ _ HB6.out
    · have he : decSlots s m d = ([], 11) := by unfold decSlots; rw [if_neg (by simp [h1]), if_pos h2]
      rw [he]
      have hne : ((d.size : Int) != (s : Int)) = true := by simp only [bne_iff_ne, ne_eq]; exact h2
      clear h2 h1 hn hroom
      go_enter Tryd.func46, Tryd.ntmps46
      go_wp2_with fail
      refine (isLength_any _ _ _).mono ?_
      rintro e w' ⟨rfl, rfl⟩
      rw [H1.out]
      go_wp2
      go_ret2
      exact slots_err _ _ _ (Below.refl _ _)
end Go.Proofs.YtnkhifgppcnmkaaDoor

/- Walks: SameSlots. -/
namespace Go.Proofs.YtnkhifgppcnmkaaDoor
open Go.RowKit Iv

theorem same_step {α : Type} (z : α) (a b : List α) (k : Nat) (ha : k < a.length) (hb : k < b.length) (h : a.take k = b.take k) (he : a.getD k z = b.getD k z) : a.take (k + 1) = b.take (k + 1) := by
  rw [List.take_succ_eq_append_getElem ha, List.take_succ_eq_append_getElem hb, h]
  simp only [List.getD, List.getElem?_eq_getElem ha, List.getElem?_eq_getElem hb, Option.getD_some] at he
  rw [he]

set_option maxHeartbeats 1600000 in
set_option maxRecDepth 100000 in
theorem sameSlots_any (A B : Option Addr) (ca cb : Nat) (a b : List Slt) (w : World) (hl : a.length ≤ 100000) (ha : RowA w A (sltCells a)) (hb : RowA w B (sltCells b)) :
    Calls Tryd.prog 47 #[.slice A a.length ca, .slice B b.length cb] w fun e w' => e = .returned (.bool (decide (a = b))) ∧ Below w.heap.size w w' := by
  have HA := Lib.hid ha
  have HB := Lib.hid hb
  clear ha hb
  by_cases hlen : a.length = b.length
  · have hne : ((a.length : Int) != (b.length : Int)) = false := by simp [hlen]
    have HL := Lib.hid hlen
    clear hlen
    go_enter Tryd.func47, Tryd.ntmps47
    go_wp2
    go_loopw [5] (fun x wr => ∃ k : Nat, x = .int .i64 k ∧ k ≤ a.length ∧ a.take k = b.take k ∧ Below w.heap.size w wr) (fun x _ => a.length - (intOf x).toNat)
    case atStart => exact ⟨0, rfl, Nat.zero_le _, by simp, Below.refl _ _⟩
    case round =>
      obtain ⟨k, rfl, hk, htk, hbw⟩ := hrel
      have HT := Lib.hid htk
      have HBW := Lib.hid hbw
      clear htk hbw
      by_cases hka : k < a.length
      · have hkb : k < b.length := by have := HL.out; omega
        obtain ⟨b1, o1, rfl, hb1, hc1, hc2⟩ := slots_at (HA.out.keep HBW.out) k hka
        obtain ⟨b2, o2, rfl, hb2, hd1, hd2⟩ := slots_at (HB.out.keep HBW.out) k hkb
        have HST : Hid (sltAt a k = sltAt b k → a.take (k + 1) = b.take (k + 1)) := fun e => same_step noSlt a b k hka hkb HT.out e
        have HNE : Hid (sltAt a k ≠ sltAt b k → a ≠ b) := fun e h => e (by rw [h])
        obtain ⟨⟨u, r⟩, hx⟩ : ∃ x, x = sltAt a k := ⟨_, rfl⟩
        obtain ⟨⟨u', r'⟩, hx'⟩ : ∃ x, x = sltAt b k := ⟨_, rfl⟩
        rw [← hx] at hc1 hc2 HST HNE
        rw [← hx'] at hd1 hd2 HST HNE
        clear hx hx'
        dsimp only at hc1 hc2 hd1 hd2
        have hneq := neq_slot u u' r r'
        by_cases he : (u, r) = (u', r')
        · have hd : decide ((u, r) = (u', r')) = true := decide_eq_true he
          rw [hd] at hneq
          have HE := Lib.hid he
          clear hd he
          go_wp2
          go_quiet (fail)
          go_wp2
          exact ⟨⟨k + 1, by go_num, by omega, HST.out HE.out, HBW.out.trans (below_drewN (Below.refl _ _) _)⟩, by simp [intOf]; omega⟩
        · have hd : decide ((u, r) = (u', r')) = false := decide_eq_false he
          rw [hd] at hneq
          have HE := Lib.hid he
          clear hd he
          go_wp2
          go_quiet (fail)
          go_wp2
          go_ret
          exact ⟨ret_bool (decide_eq_false (HNE.out HE.out)).symm, HBW.out.trans (below_drewN (Below.refl _ _) _)⟩
      · have hkb : b.length ≤ k := by have := HL.out; omega
        have HD : Hid (true = decide (a = b)) := by
          show _ = _
          have h := HT.out
          rw [List.take_of_length_le (by omega), List.take_of_length_le hkb] at h
          exact (decide_eq_true h).symm
        go_wp2
        go_ret
        exact ⟨ret_bool HD.out, HBW.out⟩
  · have hne : ((a.length : Int) != (b.length : Int)) = true := by simp only [bne_iff_ne, ne_eq]; omega
    have hd : decide (a = b) = false := decide_eq_false (fun h => hlen (by rw [h]))
    rw [hd]
    clear hlen hd
    go_enter Tryd.func47, Tryd.ntmps47
    go_wp2
    go_ret
    exact ⟨rfl, Below.refl _ _⟩
end Go.Proofs.YtnkhifgppcnmkaaDoor

/- The plain mathematics of intervals, continued: fewer records take less. -/
import Derived.Test.YtnkhifgppcnmkaaDoorIvC
namespace Go.Proofs.YtnkhifgppcnmkaaDoor.Iv

/-- What the fields of runs take. -/
def flen (l : List ByteArray) : Nat := (runsOf l).foldl (fun a r => a + 3 * min r.1 2) 0

theorem flen_fields (l : List ByteArray) : (fieldsOf l).length = flen l := by
  unfold fieldsOf flen
  rw [foldl_fields_length _ (runs_pos l)]
  simp

theorem fold_add (qs : List (Nat × Nat)) (a : Nat) : qs.foldl (fun a r => a + 3 * min r.1 2) a = a + qs.foldl (fun a r => a + 3 * min r.1 2) 0 := by
  induction qs generalizing a with
  | nil => rfl
  | cons q qs ih => simp only [List.foldl_cons]; rw [ih, ih (0 + _)]; omega

theorem flen_nil : flen [] = 0 := by unfold flen; rw [runsOf]; rfl
theorem flen_cons (s : ByteArray) (l : List ByteArray) : flen (s :: l) = 3 * min (runLen s.size l + 1) 2 + flen (l.drop (runLen s.size l)) := by
  unfold flen
  rw [runsOf, List.foldl_cons, fold_add]
  simp

theorem flen_tail (s : ByteArray) (l : List ByteArray) : flen l ≤ flen (s :: l) := by
  rw [flen_cons]
  cases l with
  | nil => rw [flen_nil]; exact Nat.zero_le _
  | cons t l =>
    rw [runLen]
    split
    · rename_i h
      rw [flen_cons, List.drop_succ_cons, h]
      omega
    · simp

theorem runLen_snoc (m : Nat) (l : List ByteArray) (x : ByteArray) : runLen m (l ++ [x]) = if runLen m l = l.length then (if x.size = m then l.length + 1 else l.length) else runLen m l := by
  induction l with
  | nil => simp [runLen]
  | cons s l ih =>
    rw [List.cons_append, runLen, runLen]
    by_cases hs : s.size = m
    · rw [if_pos hs, if_pos hs, ih, List.length_cons]
      by_cases h1 : runLen m l = l.length
      · rw [if_pos h1, if_pos (show runLen m l + 1 = l.length + 1 by omega)]
        by_cases hx : x.size = m
        · rw [if_pos hx, if_pos hx]
        · rw [if_neg hx, if_neg hx]
      · rw [if_neg h1, if_neg (show ¬ runLen m l + 1 = l.length + 1 by omega)]
    · rw [if_neg hs, if_neg hs, List.length_cons, if_neg (show ¬ 0 = l.length + 1 by omega)]

theorem flen_snoc (l : List ByteArray) (x : ByteArray) : flen l ≤ flen (l ++ [x]) := by
  induction l using runsOf.induct with
  | case1 => rw [flen_nil]; exact Nat.zero_le _
  | case2 s l ih =>
    rw [List.cons_append, flen_cons, flen_cons, runLen_snoc]
    by_cases h1 : runLen s.size l = l.length
    · rw [if_pos h1, h1, List.drop_length, flen_nil]
      split
      · omega
      · omega
    · rw [if_neg h1]
      have hk := runLen_le s.size l
      rw [List.drop_append_of_le_length hk]
      omega

theorem size_cons (s : ByteArray) (l : List ByteArray) : szOf l + s.size ≤ szOf (s :: l) := by
  have h1 := sizes l
  have h2 := sizes (s :: l)
  have h3 := flen_tail s l
  rw [flen_fields] at h1 h2
  rw [content_cons, List.length_append] at h2
  have e : s.data.toList.length = s.size := by simp
  omega

theorem size_snoc (l : List ByteArray) (x : ByteArray) : szOf l + x.size ≤ szOf (l ++ [x]) := by
  have h1 := sizes l
  have h2 := sizes (l ++ [x])
  have h3 := flen_snoc l x
  rw [flen_fields] at h1 h2
  rw [content_append, List.length_append] at h2
  have hc : content [x] = x.data.toList := by simp [content]
  rw [hc] at h2
  have e : x.data.toList.length = x.size := by simp
  omega

/-- The list without its first, without its last. -/
theorem size_tail (l : List ByteArray) (h : 0 < l.length) : szOf (l.drop 1) + (l.getD 0 ByteArray.empty).size ≤ szOf l := by
  cases l with
  | nil => simp at h
  | cons s l => exact size_cons s l

theorem size_init (l : List ByteArray) (h : 0 < l.length) : szOf (l.take (l.length - 1)) + (l.getD (l.length - 1) ByteArray.empty).size ≤ szOf l := by
  have h1 : l = l.take (l.length - 1) ++ [l.getD (l.length - 1) ByteArray.empty] := by
    conv => lhs; rw [← List.take_append_drop (l.length - 1) l]
    congr 1
    rw [List.drop_eq_getElem_cons (by omega)]
    simp [List.getD, show l.length - 1 < l.length by omega, show l.length - 1 + 1 = l.length by omega]
  have h2 := size_snoc (l.take (l.length - 1)) (l.getD (l.length - 1) ByteArray.empty)
  rw [← h1] at h2
  exact h2

theorem fits_tail {size : Int} {l : List ByteArray} (h : 0 < l.length) (hf : fitsOf size l = true) : fitsOf size (l.drop 1) = true := by
  unfold fitsOf at hf ⊢
  simp only [Bool.and_eq_true, decide_eq_true_eq] at hf ⊢
  have := size_tail l h
  refine ⟨⟨hf.1.1, ?_⟩, by omega⟩
  rw [okRec_iff] at hf ⊢
  exact fun s hs => hf.1.2 s (List.mem_of_mem_drop hs)

theorem fits_init {size : Int} {l : List ByteArray} (h : 0 < l.length) (hf : fitsOf size l = true) : fitsOf size (l.take (l.length - 1)) = true := by
  unfold fitsOf at hf ⊢
  simp only [Bool.and_eq_true, decide_eq_true_eq] at hf ⊢
  have := size_init l h
  refine ⟨⟨hf.1.1, ?_⟩, by omega⟩
  rw [okRec_iff] at hf ⊢
  exact fun s hs => hf.1.2 s (List.mem_of_mem_take hs)

theorem fits_double {size : Int} {l : List ByteArray} (hf : fitsOf size l = true) (h : size ≠ 512) : fitsOf (2 * size) l = true := by
  unfold fitsOf at hf ⊢
  simp only [Bool.and_eq_true, decide_eq_true_eq] at hf ⊢
  have hs : size = 128 ∨ size = 256 := by
    rcases isSz_cases hf.1.1 with h1 | h1 | h1
    · exact .inl h1
    · exact .inr h1
    · exact absurd h1 h
  refine ⟨⟨?_, hf.1.2⟩, ?_⟩
  · rcases hs with rfl | rfl <;> rfl
  · have := hf.2
    rcases hs with rfl | rfl <;> omega
end Go.Proofs.YtnkhifgppcnmkaaDoor.Iv

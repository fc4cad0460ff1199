/- The plain mathematics of intervals: runs, fields, the encoded text, and that reading it gives the records back. No program in sight. -/
namespace Go.Proofs.YtnkhifgppcnmkaaDoor.Iv

/-- How many records at the list's head have the length m. -/
def runLen (m : Nat) : List ByteArray → Nat
  | [] => 0
  | s :: l => if s.size = m then runLen m l + 1 else 0

theorem runLen_le (m : Nat) (l : List ByteArray) : runLen m l ≤ l.length := by
  induction l with
  | nil => exact Nat.le_refl _
  | cons s l ih => rw [runLen]; split <;> simp <;> omega

theorem runLen_all (m : Nat) (l : List ByteArray) : ∀ s ∈ l.take (runLen m l), s.size = m := by
  induction l with
  | nil => simp
  | cons s l ih =>
    rw [runLen]
    split
    · rename_i h
      rw [List.take_succ_cons]
      intro t ht
      rcases List.mem_cons.1 ht with rfl | ht
      · exact h
      · exact ih t ht
    · simp

/-- The runs: how many records of which length. -/
def runsOf : List ByteArray → List (Nat × Nat)
  | [] => []
  | s :: l => (runLen s.size l + 1, s.size) :: runsOf (l.drop (runLen s.size l))
termination_by l => l.length
decreasing_by simp; omega

/-- A field's three bytes. -/
def fld (c n : Nat) : List UInt8 := [UInt8.ofNat c, UInt8.ofNat n, UInt8.ofNat (n / 256)]

/-- A run's fields stand ahead of those of the runs before it. -/
def addRun (out : List UInt8) (r : Nat × Nat) : List UInt8 := if r.1 = 1 then fld 0 r.2 ++ out else fld 8 r.1 ++ (fld 64 r.2 ++ out)

def fieldsOf (l : List ByteArray) : List UInt8 := (runsOf l).foldl addRun []

def sizeR (out : Nat) (r : Nat × Nat) : Nat := out + (r.1 * r.2 + 3 * min r.1 2)
def szOf (l : List ByteArray) : Nat := (runsOf l).foldl sizeR 4

def content (l : List ByteArray) : List UInt8 := l.flatMap (·.data.toList)

theorem content_cons (s : ByteArray) (l : List ByteArray) : content (s :: l) = s.data.toList ++ content l := rfl
theorem content_append (a b : List ByteArray) : content (a ++ b) = content a ++ content b := by simp [content]

theorem runs_pos (l : List ByteArray) : ∀ r ∈ runsOf l, 1 ≤ r.1 := by
  induction l using runsOf.induct with
  | case1 => rw [runsOf]; simp
  | case2 s l ih =>
    rw [runsOf]
    intro r hr
    rcases List.mem_cons.1 hr with rfl | hr
    · exact Nat.le_add_left _ _
    · exact ih r hr

theorem foldl_size (rs : List (Nat × Nat)) (a : Nat) : rs.foldl sizeR a = a + rs.foldl sizeR 0 := by
  induction rs generalizing a with
  | nil => rfl
  | cons r rs ih =>
    simp only [List.foldl_cons]
    rw [ih (sizeR a r), ih (sizeR 0 r)]
    unfold sizeR
    omega

theorem addRun_length (out : List UInt8) (r : Nat × Nat) (h : 1 ≤ r.1) : (addRun out r).length = out.length + 3 * min r.1 2 := by
  unfold addRun fld
  split
  · rename_i h1; rw [h1]; simp
  · simp; omega

theorem foldl_fields_length (rs : List (Nat × Nat)) (h : ∀ r ∈ rs, 1 ≤ r.1) (out : List UInt8) : (rs.foldl addRun out).length = out.length + rs.foldl (fun a r => a + 3 * min r.1 2) 0 := by
  induction rs generalizing out with
  | nil => rfl
  | cons r rs ih =>
    simp only [List.foldl_cons]
    rw [ih (fun q hq => h q (List.mem_cons_of_mem _ hq)), addRun_length _ _ (h r List.mem_cons_self)]
    have e : ∀ (qs : List (Nat × Nat)) (a : Nat), qs.foldl (fun a r => a + 3 * min r.1 2) a = a + qs.foldl (fun a r => a + 3 * min r.1 2) 0 := by
      intro qs
      induction qs with
      | nil => intro a; rfl
      | cons q qs ihq => intro a; simp only [List.foldl_cons]; rw [ihq, ihq (0 + _)]; omega
    rw [e rs (0 + 3 * min r.1 2)]
    omega

theorem content_const (m : Nat) (l : List ByteArray) (h : ∀ s ∈ l, s.size = m) : (content l).length = l.length * m := by
  induction l with
  | nil => simp [content]
  | cons s l ih =>
    rw [content_cons, List.length_append, ih (fun t ht => h t (List.mem_cons_of_mem _ ht)), List.length_cons, Nat.succ_mul]
    have := h s List.mem_cons_self
    have e : s.data.toList.length = s.size := by simp
    omega

theorem sizes (l : List ByteArray) : szOf l = 4 + (content l).length + (fieldsOf l).length := by
  unfold szOf fieldsOf
  rw [foldl_fields_length _ (runs_pos l), foldl_size]
  suffices h : (runsOf l).foldl sizeR 0 = (content l).length + (runsOf l).foldl (fun a r => a + 3 * min r.1 2) 0 by
    rw [h]; simp; omega
  induction l using runsOf.induct with
  | case1 => rw [runsOf]; rfl
  | case2 s l ih =>
    rw [runsOf]
    simp only [List.foldl_cons]
    rw [foldl_size, ih]
    have e : ∀ (qs : List (Nat × Nat)) (a : Nat), qs.foldl (fun a r => a + 3 * min r.1 2) a = a + qs.foldl (fun a r => a + 3 * min r.1 2) 0 := by
      intro qs
      induction qs with
      | nil => intro a; rfl
      | cons q qs ihq => intro a; simp only [List.foldl_cons]; rw [ihq, ihq (0 + _)]; omega
    rw [e _ (0 + _)]
    have h1 := content_const s.size (l.take (runLen s.size l)) (runLen_all s.size l)
    have h2 : content l = content (l.take (runLen s.size l)) ++ content (l.drop (runLen s.size l)) := by
      rw [← content_append, List.take_append_drop]
    have h3 := runLen_le s.size l
    rw [List.length_take, Nat.min_eq_left h3] at h1
    rw [content_cons, List.length_append, h2, List.length_append, h1]
    unfold sizeR
    have e2 : s.data.toList.length = s.size := by simp
    dsimp only
    rw [e2, Nat.succ_mul]
    omega

/-- An interval with its contents and its fields. -/
def whole (size : Nat) (c f : List UInt8) : List UInt8 :=
  c ++ (List.replicate (size - 4 - c.length - f.length) 0 ++ (f ++ [UInt8.ofNat c.length, UInt8.ofNat (c.length / 256), UInt8.ofNat (size - 4 - c.length - f.length), UInt8.ofNat ((size - 4 - c.length - f.length) / 256)]))

theorem whole_length (size : Nat) (c f : List UInt8) (h : 4 + c.length + f.length ≤ size) : (whole size c f).length = size := by
  unfold whole
  simp
  omega

def isSz (n : Int) : Bool := n == 128 || n == 256 || n == 512

def okRec (l : List ByteArray) : Bool := l.all fun s => 1 ≤ s.size && s.size ≤ 200

theorem okRec_cons (s : ByteArray) (l : List ByteArray) : okRec (s :: l) = ((1 ≤ s.size && s.size ≤ 200) && okRec l) := rfl
theorem okRec_iff (l : List ByteArray) : okRec l = true ↔ ∀ s ∈ l, 1 ≤ s.size ∧ s.size ≤ 200 := by
  unfold okRec
  simp

def ofL (l : List UInt8) : ByteArray := ⟨l.toArray⟩
theorem ofL_data (l : List UInt8) : (ofL l).data.toList = l := rfl
theorem ofL_size (l : List UInt8) : (ofL l).size = l.length := by simp [ofL, ByteArray.size]
theorem ofL_toList (s : ByteArray) : ofL s.data.toList = s := by cases s; rfl
theorem ofL_inj {a b : List UInt8} (h : ofL a = ofL b) : a = b := by
  have := congrArg (fun s : ByteArray => s.data.toList) h
  exact this

/-- What Encode answers: the text and the error. -/
def encodeOf (size : Int) (l : List ByteArray) : ByteArray × Int :=
  if isSz size = false then (ByteArray.empty, 1)
  else if okRec l = false then (ByteArray.empty, 2)
  else if size < (szOf l : Int) then (ByteArray.empty, 8)
  else (ofL (whole size.toNat (content l) (fieldsOf l)), 0)

def fitsOf (size : Int) (l : List ByteArray) : Bool := isSz size && okRec l && decide ((szOf l : Int) ≤ size)

theorem isSz_cases {n : Int} (h : isSz n = true) : n = 128 ∨ n = 256 ∨ n = 512 := by
  unfold isSz at h
  simpa [or_assoc] using h

theorem encode_ok {size : Int} {l : List ByteArray} {d : ByteArray} (h : encodeOf size l = (d, 0)) :
    isSz size = true ∧ okRec l = true ∧ (szOf l : Int) ≤ size ∧ d = ofL (whole size.toNat (content l) (fieldsOf l)) := by
  unfold encodeOf at h
  by_cases h1 : isSz size = false
  · rw [if_pos h1] at h; injection h with _ h; cases h
  · rw [if_neg h1] at h
    by_cases h2 : okRec l = false
    · rw [if_pos h2] at h; injection h with _ h; cases h
    · rw [if_neg h2] at h
      by_cases h3 : size < (szOf l : Int)
      · rw [if_pos h3] at h; injection h with _ h; cases h
      · rw [if_neg h3] at h
        injection h with h _
        exact ⟨by simpa using h1, by simpa using h2, by omega, h.symm⟩

theorem encode_fits (size : Int) (l : List ByteArray) : (encodeOf size l).2 = 0 ↔ fitsOf size l = true := by
  unfold encodeOf fitsOf
  cases isSz size <;> cases okRec l <;> simp
  by_cases h3 : size < (szOf l : Int)
  · rw [if_pos h3]; simp; omega
  · rw [if_neg h3]; simp; omega

theorem encode_size {size : Int} {l : List ByteArray} {d : ByteArray} (h : encodeOf size l = (d, 0)) : (d.size : Int) = size := by
  obtain ⟨h1, _, h3, rfl⟩ := encode_ok h
  rw [ofL_size, whole_length]
  · rcases isSz_cases h1 with h | h | h <;> rw [h] <;> rfl
  · rw [sizes] at h3
    rcases isSz_cases h1 with h | h | h <;> subst h <;> simp <;> omega
end Go.Proofs.YtnkhifgppcnmkaaDoor.Iv

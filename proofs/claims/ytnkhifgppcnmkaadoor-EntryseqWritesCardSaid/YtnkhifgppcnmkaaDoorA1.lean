/- Plain laws: intervals, descriptions, headers. -/

/- The plain mathematics of intervals: runs, fields, the encoded text, and that reading it gives the records back. No program in sight. -/
namespace Go.Proofs.YtnkhifgppcnmkaaDoor.Iv

/-- How many records at the list's head have the length m. -/
def runLen (m : Nat) : List ByteArray → Nat
  | [] => 0
  | s :: l => if s.size = m then runLen m l + 1 else 0

theorem runLen_le (m : Nat) (l : List ByteArray) : runLen m l ≤ l.length := by
  induction l with
  | nil => exact Nat.le_refl _
  | cons s l ih => rw [runLen]; split <;> simp <;> omega

theorem runLen_all (m : Nat) (l : List ByteArray) : ∀ s ∈ l.take (runLen m l), s.size = m := by
  induction l with
  | nil => simp
  | cons s l ih =>
    rw [runLen]
    split
    · rename_i h
      rw [List.take_succ_cons]
      intro t ht
      rcases List.mem_cons.1 ht with rfl | ht
      · exact h
      · exact ih t ht
    · simp

/-- The runs: how many records of which length. -/
def runsOf : List ByteArray → List (Nat × Nat)
  | [] => []
  | s :: l => (runLen s.size l + 1, s.size) :: runsOf (l.drop (runLen s.size l))
termination_by l => l.length
decreasing_by simp; omega

/-- A field's three bytes. -/
def fld (c n : Nat) : List UInt8 := [UInt8.ofNat c, UInt8.ofNat n, UInt8.ofNat (n / 256)]

/-- A run's fields stand ahead of those of the runs before it. -/
def addRun (out : List UInt8) (r : Nat × Nat) : List UInt8 := if r.1 = 1 then fld 0 r.2 ++ out else fld 8 r.1 ++ (fld 64 r.2 ++ out)

def fieldsOf (l : List ByteArray) : List UInt8 := (runsOf l).foldl addRun []

def sizeR (out : Nat) (r : Nat × Nat) : Nat := out + (r.1 * r.2 + 3 * min r.1 2)
def szOf (l : List ByteArray) : Nat := (runsOf l).foldl sizeR 4

def content (l : List ByteArray) : List UInt8 := l.flatMap (·.data.toList)

theorem content_cons (s : ByteArray) (l : List ByteArray) : content (s :: l) = s.data.toList ++ content l := rfl
theorem content_append (a b : List ByteArray) : content (a ++ b) = content a ++ content b := by simp [content]

theorem runs_pos (l : List ByteArray) : ∀ r ∈ runsOf l, 1 ≤ r.1 := by
  induction l using runsOf.induct with
  | case1 => rw [runsOf]; simp
  | case2 s l ih =>
    rw [runsOf]
    intro r hr
    rcases List.mem_cons.1 hr with rfl | hr
    · exact Nat.le_add_left _ _
    · exact ih r hr

theorem foldl_size (rs : List (Nat × Nat)) (a : Nat) : rs.foldl sizeR a = a + rs.foldl sizeR 0 := by
  induction rs generalizing a with
  | nil => rfl
  | cons r rs ih =>
    simp only [List.foldl_cons]
    rw [ih (sizeR a r), ih (sizeR 0 r)]
    unfold sizeR
    omega

theorem addRun_length (out : List UInt8) (r : Nat × Nat) (h : 1 ≤ r.1) : (addRun out r).length = out.length + 3 * min r.1 2 := by
  unfold addRun fld
  split
  · rename_i h1; rw [h1]; simp
  · simp; omega

theorem foldl_fields_length (rs : List (Nat × Nat)) (h : ∀ r ∈ rs, 1 ≤ r.1) (out : List UInt8) : (rs.foldl addRun out).length = out.length + rs.foldl (fun a r => a + 3 * min r.1 2) 0 := by
  induction rs generalizing out with
  | nil => rfl
  | cons r rs ih =>
    simp only [List.foldl_cons]
    rw [ih (fun q hq => h q (List.mem_cons_of_mem _ hq)), addRun_length _ _ (h r List.mem_cons_self)]
    have e : ∀ (qs : List (Nat × Nat)) (a : Nat), qs.foldl (fun a r => a + 3 * min r.1 2) a = a + qs.foldl (fun a r => a + 3 * min r.1 2) 0 := by
      intro qs
      induction qs with
      | nil => intro a; rfl
      | cons q qs ihq => intro a; simp only [List.foldl_cons]; rw [ihq, ihq (0 + _)]; omega
    rw [e rs (0 + 3 * min r.1 2)]
    omega

theorem content_const (m : Nat) (l : List ByteArray) (h : ∀ s ∈ l, s.size = m) : (content l).length = l.length * m := by
  induction l with
  | nil => simp [content]
  | cons s l ih =>
    rw [content_cons, List.length_append, ih (fun t ht => h t (List.mem_cons_of_mem _ ht)), List.length_cons, Nat.succ_mul]
    have := h s List.mem_cons_self
    have e : s.data.toList.length = s.size := by simp
    omega

theorem sizes (l : List ByteArray) : szOf l = 4 + (content l).length + (fieldsOf l).length := by
  unfold szOf fieldsOf
  rw [foldl_fields_length _ (runs_pos l), foldl_size]
  suffices h : (runsOf l).foldl sizeR 0 = (content l).length + (runsOf l).foldl (fun a r => a + 3 * min r.1 2) 0 by
    rw [h]; simp; omega
  induction l using runsOf.induct with
  | case1 => rw [runsOf]; rfl
  | case2 s l ih =>
    rw [runsOf]
    simp only [List.foldl_cons]
    rw [foldl_size, ih]
    have e : ∀ (qs : List (Nat × Nat)) (a : Nat), qs.foldl (fun a r => a + 3 * min r.1 2) a = a + qs.foldl (fun a r => a + 3 * min r.1 2) 0 := by
      intro qs
      induction qs with
      | nil => intro a; rfl
      | cons q qs ihq => intro a; simp only [List.foldl_cons]; rw [ihq, ihq (0 + _)]; omega
    rw [e _ (0 + _)]
    have h1 := content_const s.size (l.take (runLen s.size l)) (runLen_all s.size l)
    have h2 : content l = content (l.take (runLen s.size l)) ++ content (l.drop (runLen s.size l)) := by
      rw [← content_append, List.take_append_drop]
    have h3 := runLen_le s.size l
    rw [List.length_take, Nat.min_eq_left h3] at h1
    rw [content_cons, List.length_append, h2, List.length_append, h1]
    unfold sizeR
    have e2 : s.data.toList.length = s.size := by simp
    dsimp only
    rw [e2, Nat.succ_mul]
    omega

/-- An interval with its contents and its fields. -/
def whole (size : Nat) (c f : List UInt8) : List UInt8 :=
  c ++ (List.replicate (size - 4 - c.length - f.length) 0 ++ (f ++ [UInt8.ofNat c.length, UInt8.ofNat (c.length / 256), UInt8.ofNat (size - 4 - c.length - f.length), UInt8.ofNat ((size - 4 - c.length - f.length) / 256)]))

theorem whole_length (size : Nat) (c f : List UInt8) (h : 4 + c.length + f.length ≤ size) : (whole size c f).length = size := by
  unfold whole
  simp
  omega

def isSz (n : Int) : Bool := n == 128 || n == 256 || n == 512

def okRec (l : List ByteArray) : Bool := l.all fun s => 1 ≤ s.size && s.size ≤ 200

theorem okRec_cons (s : ByteArray) (l : List ByteArray) : okRec (s :: l) = ((1 ≤ s.size && s.size ≤ 200) && okRec l) := rfl
theorem okRec_iff (l : List ByteArray) : okRec l = true ↔ ∀ s ∈ l, 1 ≤ s.size ∧ s.size ≤ 200 := by
  unfold okRec
  simp

def ofL (l : List UInt8) : ByteArray := ⟨l.toArray⟩
theorem ofL_data (l : List UInt8) : (ofL l).data.toList = l := rfl
theorem ofL_size (l : List UInt8) : (ofL l).size = l.length := by simp [ofL, ByteArray.size]
theorem ofL_toList (s : ByteArray) : ofL s.data.toList = s := by cases s; rfl
theorem ofL_inj {a b : List UInt8} (h : ofL a = ofL b) : a = b := by
  have := congrArg (fun s : ByteArray => s.data.toList) h
  exact this

/-- What Encode answers: the text and the error. -/
def encodeOf (size : Int) (l : List ByteArray) : ByteArray × Int :=
  if isSz size = false then (ByteArray.empty, 1)
  else if okRec l = false then (ByteArray.empty, 2)
  else if size < (szOf l : Int) then (ByteArray.empty, 8)
  else (ofL (whole size.toNat (content l) (fieldsOf l)), 0)

def fitsOf (size : Int) (l : List ByteArray) : Bool := isSz size && okRec l && decide ((szOf l : Int) ≤ size)

theorem isSz_cases {n : Int} (h : isSz n = true) : n = 128 ∨ n = 256 ∨ n = 512 := by
  unfold isSz at h
  simpa [or_assoc] using h

theorem encode_ok {size : Int} {l : List ByteArray} {d : ByteArray} (h : encodeOf size l = (d, 0)) :
    isSz size = true ∧ okRec l = true ∧ (szOf l : Int) ≤ size ∧ d = ofL (whole size.toNat (content l) (fieldsOf l)) := by
  unfold encodeOf at h
  by_cases h1 : isSz size = false
  · rw [if_pos h1] at h; injection h with _ h; cases h
  · rw [if_neg h1] at h
    by_cases h2 : okRec l = false
    · rw [if_pos h2] at h; injection h with _ h; cases h
    · rw [if_neg h2] at h
      by_cases h3 : size < (szOf l : Int)
      · rw [if_pos h3] at h; injection h with _ h; cases h
      · rw [if_neg h3] at h
        injection h with h _
        exact ⟨by simpa using h1, by simpa using h2, by omega, h.symm⟩

theorem encode_fits (size : Int) (l : List ByteArray) : (encodeOf size l).2 = 0 ↔ fitsOf size l = true := by
  unfold encodeOf fitsOf
  cases isSz size <;> cases okRec l <;> simp
  by_cases h3 : size < (szOf l : Int)
  · rw [if_pos h3]; simp; omega
  · rw [if_neg h3]; simp; omega

theorem encode_size {size : Int} {l : List ByteArray} {d : ByteArray} (h : encodeOf size l = (d, 0)) : (d.size : Int) = size := by
  obtain ⟨h1, _, h3, rfl⟩ := encode_ok h
  rw [ofL_size, whole_length]
  · rcases isSz_cases h1 with h | h | h <;> rw [h] <;> rfl
  · rw [sizes] at h3
    rcases isSz_cases h1 with h | h | h <;> subst h <;> simp <;> omega
end Go.Proofs.YtnkhifgppcnmkaaDoor.Iv

/- The plain mathematics of intervals, continued: the program's reading and the reference's reading give the encoded records back. -/
namespace Go.Proofs.YtnkhifgppcnmkaaDoor.Iv

/-- The byte at a place (0 behind the end). -/
def byteAt (d : ByteArray) (i : Nat) : Nat := (d.data.toList.getD i 0).toNat
/-- The number in two bytes. -/
def twoOf (d : ByteArray) (i : Nat) : Nat := byteAt d i + 256 * byteAt d (i + 1)

theorem byteAt_lt (d : ByteArray) (i : Nat) : byteAt d i < 256 := (d.data.toList.getD i 0).toNat_lt
theorem twoOf_lt (d : ByteArray) (i : Nat) : twoOf d i < 65536 := by
  have := byteAt_lt d i; have := byteAt_lt d (i + 1); unfold twoOf; omega

/-- Taking n records of one length. -/
def takeN (size : Nat) (d : ByteArray) (m : Nat) : Nat → List ByteArray → Nat → Option (List ByteArray × Nat)
  | 0, out, a => some (out, a)
  | n + 1, out, a => if m < 1 ∨ size < a + m then none else takeN size d m n (out ++ [d.extract a (a + m)]) (a + m)

/-- One field read by the program: the records, where they end, and a common length that waits for its number. -/
def stepP (size : Nat) (d : ByteArray) (st : List ByteArray × Nat × Nat) (left : Nat) : Option (List ByteArray × Nat × Nat) :=
  if 0 < st.2.2 then
    if byteAt d left = 8 then (takeN size d st.2.2 (twoOf d (left + 1)) st.1 st.2.1).map fun r => (r.1, r.2, 0) else none
  else if byteAt d left = 64 then some (st.1, st.2.1, twoOf d (left + 1))
  else if byteAt d left = 0 then (takeN size d (twoOf d (left + 1)) 1 st.1 st.2.1).map fun r => (r.1, r.2, 0) else none

/-- The program's rounds: k fields, the first at `left`. -/
def readP (size : Nat) (d : ByteArray) : Nat → Nat → List ByteArray × Nat × Nat → Option (List ByteArray × Nat × Nat)
  | 0, _, st => some st
  | k + 1, left, st => (stepP size d st left).bind (readP size d k (left - 3))

/-- How many rounds there are. -/
def rounds (size e : Nat) : Nat := if e + 7 ≤ size then (size - 7 - e) / 3 + 1 else 0

def endOf (size : Nat) (d : ByteArray) : Nat := twoOf d (size - 4) + twoOf d (size - 2)

def parseP (size : Nat) (d : ByteArray) : Option (List ByteArray) :=
  (readP size d (rounds size (endOf size d)) (size - 7) ([], 0, 0)).map (·.1)

/-- The records l lie in the text from a on. -/
def Lies (d : ByteArray) (a : Nat) (l : List ByteArray) : Prop := content l <+: d.data.toList.drop a

theorem Lies.append {d : ByteArray} {a : Nat} {l m : List ByteArray} (h : Lies d a (l ++ m)) : Lies d a l ∧ Lies d (a + (content l).length) m := by
  unfold Lies at *
  rw [content_append] at h
  obtain ⟨t, ht⟩ := h
  refine ⟨⟨content m ++ t, by rw [← ht, List.append_assoc]⟩, ⟨t, ?_⟩⟩
  rw [← List.drop_drop, ← ht, List.append_assoc, List.drop_left]

theorem Lies.head {d : ByteArray} {a : Nat} {s : ByteArray} {l : List ByteArray} (h : Lies d a (s :: l)) : d.extract a (a + s.size) = s ∧ (1 ≤ s.size → a + s.size ≤ d.size) ∧ Lies d (a + s.size) l := by
  have h2 := Lies.append (l := [s]) (m := l) h
  have hc : content [s] = s.data.toList := by simp [content]
  have hs : s.data.toList.length = s.size := by simp
  rw [hc, hs] at h2
  refine ⟨?_, ?_, h2.2⟩
  · have h1 := h2.1
    unfold Lies at h1
    rw [hc] at h1
    obtain ⟨t, ht⟩ := h1
    apply ByteArray.ext
    apply Array.toList_inj.1
    simp only [ByteArray.data_extract, Array.toList_extract]
    rw [List.extract_eq_take_drop, show a + s.size - a = s.size by omega, ← ht, ← hs, List.take_left]
  · intro _
    have h1 := h2.1
    unfold Lies at h1
    rw [hc] at h1
    have := h1.length_le
    rw [List.length_drop, hs] at this
    have e : d.data.toList.length = d.size := by simp
    omega

theorem takeN_lies (size : Nat) (d : ByteArray) (hd : d.size = size) (m : Nat) (hm : 1 ≤ m) (l : List ByteArray) (hl : ∀ s ∈ l, s.size = m) (a : Nat) (h : Lies d a l) (out : List ByteArray) :
    takeN size d m l.length out a = some (out ++ l, a + l.length * m) := by
  induction l generalizing a out with
  | nil => simp [takeN]
  | cons s l ih =>
    obtain ⟨h1, h2, h3⟩ := h.head
    have hs := hl s List.mem_cons_self
    rw [hs] at h1 h2 h3
    have h2 := h2 hm
    rw [List.length_cons, takeN, if_neg (by omega), h1, ih (fun t ht => hl t (List.mem_cons_of_mem _ ht)) _ h3]
    simp only [List.append_assoc, List.singleton_append, Option.some.injEq, Prod.mk.injEq, true_and]
    rw [Nat.succ_mul]
    omega

/-- The three bytes of a field lie at a place. -/
def FldAt (d : ByteArray) (p c n : Nat) : Prop := byteAt d p = c ∧ twoOf d (p + 1) = n

/-- The fields of runs lie in the text, the first run's at the right: they end at p + 3. -/
def Flds (d : ByteArray) : Nat → List (Nat × Nat) → Prop
  | _, [] => True
  | p, r :: rs => if r.1 = 1 then FldAt d p 0 r.2 ∧ Flds d (p - 3) rs else FldAt d p 64 r.2 ∧ FldAt d (p - 3) 8 r.1 ∧ Flds d (p - 6) rs

/-- How many fields runs take. -/
def cnt : List (Nat × Nat) → Nat
  | [] => 0
  | r :: rs => min r.1 2 + cnt rs

theorem readP_add (size : Nat) (d : ByteArray) (j k left : Nat) (st : List ByteArray × Nat × Nat) :
    readP size d (j + k) left st = (readP size d j left st).bind (readP size d k (left - 3 * j)) := by
  induction j generalizing left st with
  | zero => simp [readP]
  | succ j ih =>
    rw [Nat.succ_add, readP, readP]
    cases stepP size d st left with
    | none => rfl
    | some st' =>
      simp only [Option.bind_some]
      rw [ih, Nat.sub_sub, show 3 + 3 * j = 3 * (j + 1) by omega]

theorem runs_split (s : ByteArray) (l : List ByteArray) : s :: l = (s :: l.take (runLen s.size l)) ++ l.drop (runLen s.size l) := by
  simp

/-- Reading the fields of the runs of l gives l. -/
theorem readP_runs (size : Nat) (d : ByteArray) (hd : d.size = size) (l : List ByteArray) (hok : ∀ s ∈ l, 1 ≤ s.size ∧ s.size ≤ 200) :
    ∀ (a p : Nat) (out : List ByteArray), Lies d a l → Flds d p (runsOf l) →
      readP size d (cnt (runsOf l)) p (out, a, 0) = some (out ++ l, a + (content l).length, 0) := by
  induction l using runsOf.induct with
  | case1 => intro a p out _ _; rw [runsOf]; simp [cnt, readP, content]
  | case2 s l ih =>
    intro a p out hl hf
    have hs := hok s List.mem_cons_self
    rw [runs_split s l] at hl
    obtain ⟨hl1, hl2⟩ := hl.append
    have hall : ∀ t ∈ s :: l.take (runLen s.size l), t.size = s.size := by
      intro t ht
      rcases List.mem_cons.1 ht with rfl | ht
      · rfl
      · exact runLen_all _ _ t ht
    have hlen : (s :: l.take (runLen s.size l)).length = runLen s.size l + 1 := by
      rw [List.length_cons, List.length_take, Nat.min_eq_left (runLen_le _ _)]
    have hcon := content_const s.size _ hall
    rw [hlen] at hcon
    have htk := takeN_lies size d hd s.size hs.1 _ hall a hl1 out
    rw [hlen] at htk
    rw [hcon] at hl2
    have ih' := ih (fun t ht => hok t (List.mem_cons_of_mem _ (List.mem_of_mem_drop ht)))
    have hfin : ∀ (o : List ByteArray), (content (s :: l)).length = (runLen s.size l + 1) * s.size + (content (l.drop (runLen s.size l))).length := by
      intro _
      conv => lhs; rw [runs_split s l]
      rw [content_append, List.length_append, hcon]
    rw [runsOf] at hf ⊢
    unfold Flds at hf
    by_cases h1 : runLen s.size l + 1 = 1
    · dsimp only at hf
      rw [if_pos h1] at hf
      obtain ⟨⟨hf1, hf2⟩, hf3⟩ := hf
      rw [cnt, show min (runLen s.size l + 1) 2 = 1 by omega, Nat.add_comm 1, readP, stepP]
      dsimp only
      rw [if_neg (by omega), if_neg (by omega), if_pos hf1, hf2]
      rw [h1] at htk
      rw [htk]
      simp only [Option.map_some, Option.bind_some]
      rw [h1] at hl2
      rw [ih' _ _ _ hl2 hf3, hfin [], h1]
      rw [List.append_assoc, ← runs_split, Nat.add_assoc]
    · dsimp only at hf
      rw [if_neg h1] at hf
      obtain ⟨⟨hf1, hf2⟩, ⟨hf4, hf5⟩, hf3⟩ := hf
      rw [cnt, show min (runLen s.size l + 1) 2 = 2 by omega, show 2 + cnt (runsOf (l.drop (runLen s.size l))) = (cnt (runsOf (l.drop (runLen s.size l))) + 1) + 1 by omega, readP, stepP]
      dsimp only
      rw [if_neg (by omega), if_pos hf1, hf2]
      simp only [Option.bind_some]
      rw [readP, stepP]
      dsimp only
      rw [if_pos (by omega), if_pos hf4, hf5, htk]
      simp only [Option.map_some, Option.bind_some]
      rw [Nat.sub_sub, ih' _ _ _ hl2 hf3, hfin []]
      rw [List.append_assoc, ← runs_split, Nat.add_assoc]

end Go.Proofs.YtnkhifgppcnmkaaDoor.Iv

/- The plain mathematics of intervals, ended: an encoded text read gives its records; Decode's answer is the one list that is encoded so. -/
namespace Go.Proofs.YtnkhifgppcnmkaaDoor.Iv

theorem byteAt_drop (d : ByteArray) (p i : Nat) (x : List UInt8) (h : d.data.toList.drop p = x) : byteAt d (p + i) = (x.getD i 0).toNat := by
  subst h
  unfold byteAt
  simp [List.getD]

theorem two_ofNat (n : Nat) (h : n < 65536) : (UInt8.ofNat n).toNat + 256 * (UInt8.ofNat (n / 256)).toNat = n := by
  simp only [UInt8.toNat_ofNat']
  omega

theorem fld_at (d : ByteArray) (p c n : Nat) (x : List UInt8) (hc : c < 256) (hn : n < 65536) (h : d.data.toList.drop p = fld c n ++ x) : FldAt d p c n := by
  constructor
  · have := byteAt_drop d p 0 _ h
    rw [Nat.add_zero] at this
    rw [this]
    simp [fld]
    omega
  · have h1 := byteAt_drop d p 1 _ h
    have h2 := byteAt_drop d p 2 _ h
    unfold twoOf
    rw [h1, show p + 1 + 1 = p + 2 by omega, h2]
    show (UInt8.ofNat n).toNat + 256 * (UInt8.ofNat (n / 256)).toNat = n
    exact two_ofNat n hn

theorem addRun_append (out : List UInt8) (r : Nat × Nat) : addRun out r = addRun [] r ++ out := by
  unfold addRun
  split <;> simp

theorem foldl_addRun_append (rs : List (Nat × Nat)) (out : List UInt8) : rs.foldl addRun out = rs.foldl addRun [] ++ out := by
  induction rs generalizing out with
  | nil => rfl
  | cons r rs ih =>
    simp only [List.foldl_cons]
    rw [ih (addRun out r), ih (addRun [] r), addRun_append out r, List.append_assoc]

theorem cnt_length (rs : List (Nat × Nat)) (h : ∀ r ∈ rs, 1 ≤ r.1) : (rs.foldl addRun []).length = 3 * cnt rs := by
  induction rs with
  | nil => rfl
  | cons r rs ih =>
    simp only [List.foldl_cons]
    rw [foldl_addRun_append, List.length_append, ih (fun q hq => h q (List.mem_cons_of_mem _ hq)), addRun_length _ _ (h r List.mem_cons_self), cnt]
    simp
    omega

theorem flds_of (d : ByteArray) (rs : List (Nat × Nat)) (h : ∀ r ∈ rs, 1 ≤ r.1 ∧ r.1 < 65536 ∧ r.2 < 65536) :
    ∀ (q : Nat) (x : List UInt8), d.data.toList.drop q = rs.foldl addRun [] ++ x → Flds d (q + 3 * cnt rs - 3) rs := by
  induction rs with
  | nil => intro q x _; trivial
  | cons r rs ih =>
    intro q x hd
    have hr := h r List.mem_cons_self
    have hrs : ∀ q ∈ rs, 1 ≤ q.1 ∧ q.1 < 65536 ∧ q.2 < 65536 := fun q hq => h q (List.mem_cons_of_mem _ hq)
    simp only [List.foldl_cons] at hd
    rw [foldl_addRun_append, List.append_assoc] at hd
    have ih' := ih hrs q _ hd
    have hl := cnt_length rs (fun q hq => (hrs q hq).1)
    have hd2 : d.data.toList.drop (q + 3 * cnt rs) = addRun [] r ++ x := by
      rw [← List.drop_drop, hd, ← hl, List.drop_left]
    rw [cnt]
    unfold Flds
    by_cases h1 : r.1 = 1
    · rw [if_pos h1]
      have e : min r.1 2 = 1 := by omega
      rw [e]
      unfold addRun at hd2
      rw [if_pos h1, List.append_nil] at hd2
      refine ⟨?_, ?_⟩
      · rw [show q + 3 * (1 + cnt rs) - 3 = q + 3 * cnt rs by omega]
        exact fld_at d _ 0 r.2 x (by omega) hr.2.2 hd2
      · rw [show q + 3 * (1 + cnt rs) - 3 - 3 = q + 3 * cnt rs - 3 by omega]
        exact ih'
    · rw [if_neg h1]
      have e : min r.1 2 = 2 := by omega
      rw [e]
      unfold addRun at hd2
      rw [if_neg h1, List.append_nil, List.append_assoc] at hd2
      refine ⟨?_, ?_, ?_⟩
      · rw [show q + 3 * (2 + cnt rs) - 3 = q + 3 * cnt rs + 3 by omega]
        refine fld_at d _ 64 r.2 x (by omega) hr.2.2 ?_
        rw [← List.drop_drop, hd2]
        rfl
      · rw [show q + 3 * (2 + cnt rs) - 3 - 3 = q + 3 * cnt rs by omega]
        exact fld_at d _ 8 r.1 _ (by omega) hr.2.1 hd2
      · rw [show q + 3 * (2 + cnt rs) - 3 - 6 = q + 3 * cnt rs - 3 by omega]
        exact ih'

theorem run_le (l : List ByteArray) (h : ∀ s ∈ l, 1 ≤ s.size ∧ s.size ≤ 200) : ∀ r ∈ runsOf l, r.1 ≤ (content l).length ∧ r.2 ≤ 200 := by
  induction l using runsOf.induct with
  | case1 => rw [runsOf]; simp
  | case2 s l ih =>
    have hs := h s List.mem_cons_self
    have h1 := content_const s.size (l.take (runLen s.size l)) (runLen_all s.size l)
    rw [List.length_take, Nat.min_eq_left (runLen_le _ _)] at h1
    have h2 : content l = content (l.take (runLen s.size l)) ++ content (l.drop (runLen s.size l)) := by
      rw [← content_append, List.take_append_drop]
    have e : (content (s :: l)).length = s.size + runLen s.size l * s.size + (content (l.drop (runLen s.size l))).length := by
      rw [content_cons, List.length_append, h2, List.length_append, h1]
      simp; omega
    rw [runsOf]
    intro r hr
    rcases List.mem_cons.1 hr with rfl | hr
    · refine ⟨?_, hs.2⟩
      rw [e]
      have : runLen s.size l * 1 ≤ runLen s.size l * s.size := Nat.mul_le_mul_left _ hs.1
      dsimp only
      omega
    · have := ih (fun t ht => h t (List.mem_cons_of_mem _ (List.mem_of_mem_drop ht))) r hr
      exact ⟨by omega, this.2⟩

theorem whole_data (size : Nat) (c f : List UInt8) (h : 4 + c.length + f.length ≤ size) (d : ByteArray) (hd : d = ofL (whole size c f)) (hs : size ≤ 512) :
    d.size = size ∧ (c <+: d.data.toList) ∧ (∃ x, d.data.toList.drop (size - 4 - f.length) = f ++ x) ∧ endOf size d = size - 4 - f.length := by
  have hl := whole_length size c f h
  subst hd
  refine ⟨by rw [ofL_size, hl], ?_, ?_, ?_⟩
  · rw [ofL_data]; exact ⟨_, rfl⟩
  · rw [ofL_data]
    refine ⟨[UInt8.ofNat c.length, UInt8.ofNat (c.length / 256), UInt8.ofNat (size - 4 - c.length - f.length), UInt8.ofNat ((size - 4 - c.length - f.length) / 256)], ?_⟩
    unfold whole
    rw [show size - 4 - f.length = c.length + (size - 4 - c.length - f.length) by omega, ← List.drop_drop, List.drop_left]
    exact List.drop_left' (by simp)
  · have ht : (ofL (whole size c f)).data.toList.drop (size - 4) = [UInt8.ofNat c.length, UInt8.ofNat (c.length / 256), UInt8.ofNat (size - 4 - c.length - f.length), UInt8.ofNat ((size - 4 - c.length - f.length) / 256)] := by
      rw [ofL_data]
      unfold whole
      rw [← List.append_assoc, ← List.append_assoc]
      have : (c ++ List.replicate (size - 4 - c.length - f.length) 0 ++ f).length = size - 4 := by simp; omega
      exact List.drop_left' this
    have b0 := byteAt_drop _ _ 0 _ ht
    have b1 := byteAt_drop _ _ 1 _ ht
    have b2 := byteAt_drop _ _ 2 _ ht
    have b3 := byteAt_drop _ _ 3 _ ht
    unfold endOf twoOf
    rw [show size - 2 = size - 4 + 2 by omega, show size - 4 + 2 + 1 = size - 4 + 3 by omega, b1, b2, b3]
    rw [Nat.add_zero] at b0
    rw [b0]
    show (UInt8.ofNat c.length).toNat + 256 * (UInt8.ofNat (c.length / 256)).toNat + ((UInt8.ofNat (size - 4 - c.length - f.length)).toNat + 256 * (UInt8.ofNat ((size - 4 - c.length - f.length) / 256)).toNat) = size - 4 - f.length
    rw [two_ofNat _ (by omega), two_ofNat _ (by omega)]
    omega

/-- What an encoded text holds. -/
theorem encoded_holds {size : Int} {l : List ByteArray} {d : ByteArray} (h : encodeOf size l = (d, 0)) :
    ∃ n : Nat, size = n ∧ n ≤ 512 ∧ 128 ≤ n ∧ d.size = n ∧ (∀ s ∈ l, 1 ≤ s.size ∧ s.size ≤ 200) ∧ Lies d 0 l ∧ 4 + (content l).length + 3 * cnt (runsOf l) ≤ n ∧ endOf n d = n - 4 - 3 * cnt (runsOf l) ∧ Flds d (n - 7) (runsOf l) := by
  obtain ⟨h1, h2, h3, h4⟩ := encode_ok h
  have hok := (okRec_iff l).1 h2
  obtain ⟨n, rfl, hn, hn2⟩ : ∃ n : Nat, size = n ∧ n ≤ 512 ∧ 128 ≤ n := by
    rcases isSz_cases h1 with h | h | h <;> subst h
    · exact ⟨128, rfl, by omega, by omega⟩
    · exact ⟨256, rfl, by omega, by omega⟩
    · exact ⟨512, rfl, by omega, by omega⟩
  have hsz := sizes l
  have hfl := cnt_length (runsOf l) (runs_pos l)
  have hsum : 4 + (content l).length + (fieldsOf l).length ≤ n := by omega
  obtain ⟨w1, w2, ⟨x, w3⟩, w4⟩ := whole_data n (content l) (fieldsOf l) hsum d h4 hn
  unfold fieldsOf at w3 w4 hsum
  rw [hfl] at w3 w4 hsum
  refine ⟨n, rfl, hn, hn2, w1, hok, ?_, hsum, w4, ?_⟩
  · unfold Lies; simpa using w2
  · have hb : ∀ r ∈ runsOf l, 1 ≤ r.1 ∧ r.1 < 65536 ∧ r.2 < 65536 := fun r hr => by
      have := run_le l hok r hr
      have := runs_pos l r hr
      omega
    have := flds_of d (runsOf l) hb _ x w3
    rw [show n - 4 - 3 * cnt (runsOf l) + 3 * cnt (runsOf l) - 3 = n - 7 by omega] at this
    exact this

theorem parseP_encoded {size : Int} {l : List ByteArray} {d : ByteArray} (h : encodeOf size l = (d, 0)) : parseP size.toNat d = some l := by
  obtain ⟨n, rfl, hn, hn2, hd, hok, hl, hsum, he, hf⟩ := encoded_holds h
  unfold parseP
  rw [Int.toNat_natCast, he]
  have hr : rounds n (n - 4 - 3 * cnt (runsOf l)) = cnt (runsOf l) := by
    unfold rounds
    split <;> omega
  rw [hr, readP_runs n d hd l hok 0 (n - 7) [] hl hf]
  simp

/-- Only one list of records is encoded as a text. -/
theorem encode_inj {size : Int} {l m : List ByteArray} {d : ByteArray} (h : encodeOf size l = (d, 0)) (h' : encodeOf size m = (d, 0)) : l = m := by
  have := (parseP_encoded h).symm.trans (parseP_encoded h')
  injection this

/-- The reference's lengths; none: the form is wrong. -/
def lensR (size : Nat) (d : ByteArray) (e : Nat) : Nat → Int → List Nat → Option (List Nat)
  | 0, _, out => some out
  | k + 1, a, out =>
    if (e : Int) ≤ a ∧ 0 ≤ a then
      if byteAt d a.toNat = 0 then lensR size d e k (a - 3) (out ++ [twoOf d (a.toNat + 1)])
      else if byteAt d a.toNat = 64 ∧ (e : Int) ≤ a - 3 ∧ byteAt d (a - 3).toNat = 8 then
        lensR size d e k (a - 6) (out ++ List.replicate (min (twoOf d (a.toNat - 2)) size) (twoOf d (a.toNat + 1)))
      else none
    else some out

/-- The reference's cuts. -/
def cutR (size : Nat) (d : ByteArray) : List Nat → Nat → List ByteArray → Option (List ByteArray)
  | [], _, out => some out
  | n :: ns, a, out => if size < a + n then none else cutR size d ns (a + n) (out ++ [d.extract a (a + n)])

def parseR (size : Nat) (d : ByteArray) : Option (List ByteArray) :=
  (lensR size d (endOf size d) size ((size : Int) - 7) []).bind fun ns => cutR size d ns 0 []

theorem cutR_lies (size : Nat) (d : ByteArray) (hd : d.size = size) (l : List ByteArray) (hl : ∀ s ∈ l, 1 ≤ s.size ∧ s.size ≤ 200) (a : Nat) (h : Lies d a l) (out : List ByteArray) :
    cutR size d (l.map (·.size)) a out = some (out ++ l) := by
  induction l generalizing a out with
  | nil => simp [cutR]
  | cons s l ih =>
    obtain ⟨h1, h2, h3⟩ := h.head
    have h2 := h2 (hl s List.mem_cons_self).1
    rw [List.map_cons, cutR, if_neg (by omega), h1, ih (fun t ht => hl t (List.mem_cons_of_mem _ ht)) _ h3]
    simp

theorem map_size_const (m : Nat) (l : List ByteArray) (h : ∀ s ∈ l, s.size = m) : l.map (·.size) = List.replicate l.length m := by
  induction l with
  | nil => rfl
  | cons s l ih =>
    rw [List.map_cons, ih (fun t ht => h t (List.mem_cons_of_mem _ ht)), h s List.mem_cons_self]
    rfl

theorem lensR_runs (size : Nat) (d : ByteArray) (e : Nat) (l : List ByteArray) (hcap : ∀ r ∈ runsOf l, r.1 ≤ size) :
    ∀ (k : Nat) (a : Int) (out : List Nat), cnt (runsOf l) < k → a = (e : Int) + 3 * (cnt (runsOf l) : Nat) - 3 → Flds d a.toNat (runsOf l) →
      lensR size d e k a out = some (out ++ l.map (·.size)) := by
  induction l using runsOf.induct with
  | case1 =>
    intro k a out hk ha _
    rw [runsOf] at ha hk
    obtain ⟨k, rfl⟩ : ∃ m, k = m + 1 := ⟨k - 1, by omega⟩
    rw [lensR, if_neg]
    · simp
    · simp [cnt] at ha; omega
  | case2 s l ih =>
    intro k a out hk ha hf
    have hall : ∀ t ∈ s :: l.take (runLen s.size l), t.size = s.size := by
      intro t ht
      rcases List.mem_cons.1 ht with rfl | ht
      · rfl
      · exact runLen_all _ _ t ht
    have hlen : (s :: l.take (runLen s.size l)).length = runLen s.size l + 1 := by
      rw [List.length_cons, List.length_take, Nat.min_eq_left (runLen_le _ _)]
    have hm := map_size_const s.size _ hall
    rw [hlen] at hm
    have hfin : (s :: l).map (·.size) = List.replicate (runLen s.size l + 1) s.size ++ (l.drop (runLen s.size l)).map (·.size) := by
      conv => lhs; rw [runs_split s l]
      rw [List.map_append, hm]
    rw [runsOf] at hf ha hk hcap
    rw [cnt] at ha hk
    have hcap1 := hcap _ List.mem_cons_self
    have ih' := ih (fun r hr => hcap r (List.mem_cons_of_mem _ hr))
    obtain ⟨k, rfl⟩ : ∃ m, k = m + 1 := ⟨k - 1, by omega⟩
    unfold Flds at hf
    dsimp only at hf ha hk hcap1
    rw [lensR, if_pos (by omega)]
    by_cases h1 : runLen s.size l + 1 = 1
    · rw [if_pos h1] at hf
      obtain ⟨⟨hf1, hf2⟩, hf3⟩ := hf
      have e1 : min (runLen s.size l + 1) 2 = 1 := by omega
      rw [e1] at ha hk
      rw [if_pos hf1, hf2, ih' k (a - 3) _ (by omega) (by omega) (by rw [show (a - 3).toNat = a.toNat - 3 by omega]; exact hf3), hfin, h1]
      simp
    · rw [if_neg h1] at hf
      obtain ⟨⟨hf1, hf2⟩, ⟨hf4, hf5⟩, hf3⟩ := hf
      have e1 : min (runLen s.size l + 1) 2 = 2 := by omega
      rw [e1] at ha hk
      rw [if_neg (by omega), if_pos ⟨hf1, by omega, by rw [show (a - 3).toNat = a.toNat - 3 by omega]; exact hf4⟩, hf2]
      rw [show a.toNat - 2 = a.toNat - 3 + 1 by omega, hf5, Nat.min_eq_left hcap1]
      rw [ih' k (a - 6) _ (by omega) (by omega) (by rw [show (a - 6).toNat = a.toNat - 6 by omega]; exact hf3), hfin]
      simp

theorem parseR_encoded {size : Int} {l : List ByteArray} {d : ByteArray} (h : encodeOf size l = (d, 0)) : parseR size.toNat d = some l := by
  obtain ⟨n, rfl, hn, hn2, hd, hok, hl, hsum, he, hf⟩ := encoded_holds h
  unfold parseR
  rw [Int.toNat_natCast, he]
  have hcap : ∀ r ∈ runsOf l, r.1 ≤ n := fun r hr => by have := run_le l hok r hr; omega
  rw [lensR_runs n d (n - 4 - 3 * cnt (runsOf l)) l hcap n ((n : Int) - 7) [] (by omega) (by omega) (by rw [show ((n : Int) - 7).toNat = n - 7 by omega]; exact hf)]
  simp only [List.nil_append, Option.bind_some]
  rw [cutR_lies n d hd l hok 0 hl]
  rfl

def unusedOf (d : ByteArray) : Bool := d.data.toList.all (· == 0)

/-- What Decode answers: the records and the error; with what a reader found. -/
def decodeWith (size : Int) (d : ByteArray) (p : Option (List ByteArray)) : List ByteArray × Int :=
  if isSz size = false then ([], 1)
  else if (d.size : Int) ≠ size then ([], 11)
  else if unusedOf d = true then ([], 9)
  else match p with
    | none => ([], 11)
    | some l => if encodeOf size l = (d, 0) then (l, 0) else ([], 11)

def decodeOf (size : Int) (d : ByteArray) : List ByteArray × Int := decodeWith size d (parseP size.toNat d)

/-- Both readers come to the same answer. -/
theorem decode_readers (size : Int) (d : ByteArray) : decodeWith size d (parseR size.toNat d) = decodeOf size d := by
  unfold decodeOf decodeWith
  split
  · rfl
  · split
    · rfl
    · split
      · rfl
      · cases hp : parseP size.toNat d with
        | none =>
          cases hr : parseR size.toNat d with
          | none => rfl
          | some l =>
            dsimp only
            by_cases h : encodeOf size l = (d, 0)
            · have := parseP_encoded h; rw [hp] at this; cases this
            · rw [if_neg h]
        | some l =>
          dsimp only
          by_cases h : encodeOf size l = (d, 0)
          · rw [parseR_encoded h]
          · rw [if_neg h]
            cases hr : parseR size.toNat d with
            | none => rfl
            | some m =>
              dsimp only
              by_cases h' : encodeOf size m = (d, 0)
              · have := parseP_encoded h'; rw [hp] at this; injection this with this; subst this; exact absurd h' h
              · rw [if_neg h']

theorem decode_ok {size : Int} {d : ByteArray} {l : List ByteArray} (h : decodeOf size d = (l, 0)) : encodeOf size l = (d, 0) := by
  unfold decodeOf decodeWith at h
  split at h
  · injection h with _ h; cases h
  · split at h
    · injection h with _ h; cases h
    · split at h
      · injection h with _ h; cases h
      · cases hp : parseP size.toNat d with
        | none => rw [hp] at h; injection h with _ h; cases h
        | some m =>
          rw [hp] at h
          dsimp only at h
          by_cases he : encodeOf size m = (d, 0)
          · rw [if_pos he] at h; injection h with h _; subst h; exact he
          · rw [if_neg he] at h; injection h with _ h; cases h

/-- An encoded text has a byte that is not zero. -/
theorem encoded_used {size : Int} {l : List ByteArray} {d : ByteArray} (h : encodeOf size l = (d, 0)) : unusedOf d = false := by
  obtain ⟨n, rfl, hn, hn2, hd, hok, hl, hsum, he, hf⟩ := encoded_holds h
  cases hu : unusedOf d with
  | false => rfl
  | true =>
    exfalso
    have hz : ∀ i, byteAt d i = 0 := by
      intro i
      unfold byteAt
      unfold unusedOf at hu
      rw [List.all_eq_true] at hu
      rw [List.getD_eq_getElem?_getD]
      cases hx : d.data.toList[i]? with
      | none => rfl
      | some x =>
        have := hu x (List.mem_of_getElem? hx)
        simp only [beq_iff_eq] at this
        subst this
        rfl
    have : endOf n d = 0 := by unfold endOf twoOf; simp only [hz]
    rw [this] at he
    -- the records' bytes are none, so no field is there
    have hc : (content l).length = 0 := by omega
    have hnil : l = [] := by
      cases l with
      | nil => rfl
      | cons s l =>
        have := (hok s List.mem_cons_self).1
        rw [content_cons, List.length_append] at hc
        have e : s.data.toList.length = s.size := by simp
        omega
    subst hnil
    rw [runsOf] at he
    simp [cnt] at he
    omega

theorem decode_encoded {size : Int} {l : List ByteArray} {d : ByteArray} (h : encodeOf size l = (d, 0)) : decodeOf size d = (l, 0) := by
  unfold decodeOf decodeWith
  rw [parseP_encoded h, encoded_used h]
  have h1 := (encode_ok h).1
  have h2 := encode_size h
  rw [h1]
  simp [h2, h]

theorem decode_err {size : Int} {d : ByteArray} (h : (decodeOf size d).2 ≠ 0) : (decodeOf size d).1 = [] := by
  unfold decodeOf decodeWith at *
  split
  · rfl
  · split
    · rfl
    · split
      · rfl
      · rename_i h1 h2 h3
        rw [if_neg h1, if_neg h2, if_neg h3] at h
        cases hp : parseP size.toNat d with
        | none => rfl
        | some l =>
          rw [hp] at h
          dsimp only at h ⊢
          by_cases he : encodeOf size l = (d, 0)
          · rw [if_pos he] at h; exact absurd rfl h
          · rw [if_neg he]
end Go.Proofs.YtnkhifgppcnmkaaDoor.Iv

/- The plain definitions of clusters: descriptions, headers, pages, appending. No program in sight. -/
namespace Go.Proofs.YtnkhifgppcnmkaaDoor.Iv

/-- A description of a data set. -/
structure Ds where
  id : Int
  org : Int
  fmt : Int
  len : Int
  blk : Int
  kat : Int
  klen : Int
  itv : Int
  area : Int
  fint : Int
  farea : Int
  base : Int
  aat : Int
  alen : Int
  uniq : Bool
  cls : Int
  vol : ByteArray
  owner : ByteArray
  cre : Int
  expi : Int
  arch : Bool

/-- A header. -/
structure Hd where
  app : Int
  cnt : Int
  fin : Int
  root : Int
  ht : Int
  spl : Int
  areas : Int

def hd0 : Hd := ⟨0, 0, 0, 0, 0, 0, 0⟩

theorem Hd.ext' (a b : Hd) (h1 : a.app = b.app) (h2 : a.cnt = b.cnt) (h3 : a.fin = b.fin) (h4 : a.root = b.root) (h5 : a.ht = b.ht) (h6 : a.spl = b.spl) (h7 : a.areas = b.areas) : a = b := by
  cases a; cases b; simp_all

/-- Whether a description of a cluster is valid. -/
def validOf (d : Ds) : Bool :=
  decide ((d.itv = 128 ∨ d.itv = 256 ∨ d.itv = 512) ∧ (1 ≤ d.org ∧ d.org ≤ 3) ∧ (1 ≤ d.len ∧ d.len ≤ 200 ∧ d.len ≤ d.itv - 7) ∧ d.fmt = 0 ∧ d.blk = 0 ∧
    ((d.org ≠ 3 ∧ d.kat = 0 ∧ d.klen = 0 ∧ d.area = 0 ∧ d.fint = 0 ∧ d.farea = 0) ∨
     (d.org = 3 ∧ d.len ≤ d.itv / 2 - 8 ∧ (0 ≤ d.kat ∧ d.kat ≤ d.len) ∧ (1 ≤ d.klen ∧ d.klen ≤ d.itv / 16) ∧ d.kat + d.klen ≤ d.len ∧ (2 ≤ d.area ∧ d.area ≤ 8) ∧ (0 ≤ d.fint ∧ d.fint ≤ 90) ∧ (0 ≤ d.farea ∧ d.farea ≤ d.area - 1))))

def most : Int := 16777216
/-- Whether a header is plain. -/
def plainOf (h : Hd) : Bool := decide ((0 ≤ h.cnt ∧ h.cnt ≤ 16777216) ∧ (0 ≤ h.fin ∧ h.fin ≤ 16777216))

/-- The error of a description and a header. -/
def doorOf (h : Hd) (d : Ds) (org : Int) : Int := if validOf d = false ∨ plainOf h = false then 1 else if d.org ≠ org then 7 else 0

/-- A page. -/
def pageOf (m : List ByteArray) (n : Int) : ByteArray × Int := if n < 0 ∨ (m.length : Int) ≤ n then (ByteArray.empty, 2) else (m.getD n.toNat ByteArray.empty, 0)

/-- The records of a page. -/
def loadOf (m : List ByteArray) (d : Ds) (n : Int) : List ByteArray × Int :=
  if (pageOf m n).2 ≠ 0 then ([], (pageOf m n).2)
  else if (decodeOf d.itv (pageOf m n).1).2 ≠ 0 ∨ (decodeOf d.itv (pageOf m n).1).1 = [] then ([], 11)
  else ((decodeOf d.itv (pageOf m n).1).1, 0)

/-- Whether a record begins a new page. -/
def freshOf (fin itv : Int) (last : List ByteArray) (r : ByteArray) : Bool := decide (fin = 0) || !fitsOf itv (last ++ [r])
def finOf (fin itv : Int) (last : List ByteArray) (r : ByteArray) : Int := if freshOf fin itv last r = true then fin + 1 else fin
def lastOf (fin itv : Int) (last : List ByteArray) (r : ByteArray) : List ByteArray := if freshOf fin itv last r = true then [] else last
/-- The address that a record gets. -/
def atOf (fin itv : Int) (last : List ByteArray) (r : ByteArray) : Int := finOf fin itv last r * itv + ((content (lastOf fin itv last r)).length : Int)

/-- The records of the last page. -/
def endOfC (m : List ByteArray) (h : Hd) (d : Ds) : List ByteArray × Int := if h.fin = 0 then ([], 0) else loadOf m d h.fin

structure App where
  h : Hd
  ws : List (Int × ByteArray)
  at_ : Int
  e : Int

/-- What Append answers. -/
def appendOf (m : List ByteArray) (h : Hd) (d : Ds) (r : ByteArray) : App :=
  if doorOf h d 1 ≠ 0 then ⟨hd0, [], 0, doorOf h d 1⟩
  else if ¬ (1 ≤ (r.size : Int) ∧ (r.size : Int) ≤ d.len) then ⟨hd0, [], 0, 2⟩
  else if (endOfC m h d).2 ≠ 0 then ⟨hd0, [], 0, (endOfC m h d).2⟩
  else ⟨{ h with cnt := h.cnt + 1, fin := finOf h.fin d.itv (endOfC m h d).1 r },
    [(finOf h.fin d.itv (endOfC m h d).1 r, (encodeOf d.itv (lastOf h.fin d.itv (endOfC m h d).1 r ++ [r])).1)],
    atOf h.fin d.itv (endOfC m h d).1 r, 0⟩
end Go.Proofs.YtnkhifgppcnmkaaDoor.Iv

/- The plain mathematics of intervals, continued: the program's reading and the reference's reading give the encoded records back. -/
import Derived.Test.YtnkhifgppcnmkaaDoorIvA
namespace Go.Proofs.YtnkhifgppcnmkaaDoor.Iv

/-- The byte at a place (0 behind the end). -/
def byteAt (d : ByteArray) (i : Nat) : Nat := (d.data.toList.getD i 0).toNat
/-- The number in two bytes. -/
def twoOf (d : ByteArray) (i : Nat) : Nat := byteAt d i + 256 * byteAt d (i + 1)

theorem byteAt_lt (d : ByteArray) (i : Nat) : byteAt d i < 256 := (d.data.toList.getD i 0).toNat_lt
theorem twoOf_lt (d : ByteArray) (i : Nat) : twoOf d i < 65536 := by
  have := byteAt_lt d i; have := byteAt_lt d (i + 1); unfold twoOf; omega

/-- Taking n records of one length. -/
def takeN (size : Nat) (d : ByteArray) (m : Nat) : Nat → List ByteArray → Nat → Option (List ByteArray × Nat)
  | 0, out, a => some (out, a)
  | n + 1, out, a => if m < 1 ∨ size < a + m then none else takeN size d m n (out ++ [d.extract a (a + m)]) (a + m)

/-- One field read by the program: the records, where they end, and a common length that waits for its number. -/
def stepP (size : Nat) (d : ByteArray) (st : List ByteArray × Nat × Nat) (left : Nat) : Option (List ByteArray × Nat × Nat) :=
  if 0 < st.2.2 then
    if byteAt d left = 8 then (takeN size d st.2.2 (twoOf d (left + 1)) st.1 st.2.1).map fun r => (r.1, r.2, 0) else none
  else if byteAt d left = 64 then some (st.1, st.2.1, twoOf d (left + 1))
  else if byteAt d left = 0 then (takeN size d (twoOf d (left + 1)) 1 st.1 st.2.1).map fun r => (r.1, r.2, 0) else none

/-- The program's rounds: k fields, the first at `left`. -/
def readP (size : Nat) (d : ByteArray) : Nat → Nat → List ByteArray × Nat × Nat → Option (List ByteArray × Nat × Nat)
  | 0, _, st => some st
  | k + 1, left, st => (stepP size d st left).bind (readP size d k (left - 3))

/-- How many rounds there are. -/
def rounds (size e : Nat) : Nat := if e + 7 ≤ size then (size - 7 - e) / 3 + 1 else 0

def endOf (size : Nat) (d : ByteArray) : Nat := twoOf d (size - 4) + twoOf d (size - 2)

def parseP (size : Nat) (d : ByteArray) : Option (List ByteArray) :=
  (readP size d (rounds size (endOf size d)) (size - 7) ([], 0, 0)).map (·.1)

/-- The records l lie in the text from a on. -/
def Lies (d : ByteArray) (a : Nat) (l : List ByteArray) : Prop := content l <+: d.data.toList.drop a

theorem Lies.append {d : ByteArray} {a : Nat} {l m : List ByteArray} (h : Lies d a (l ++ m)) : Lies d a l ∧ Lies d (a + (content l).length) m := by
  unfold Lies at *
  rw [content_append] at h
  obtain ⟨t, ht⟩ := h
  refine ⟨⟨content m ++ t, by rw [← ht, List.append_assoc]⟩, ⟨t, ?_⟩⟩
  rw [← List.drop_drop, ← ht, List.append_assoc, List.drop_left]

theorem Lies.head {d : ByteArray} {a : Nat} {s : ByteArray} {l : List ByteArray} (h : Lies d a (s :: l)) : d.extract a (a + s.size) = s ∧ (1 ≤ s.size → a + s.size ≤ d.size) ∧ Lies d (a + s.size) l := by
  have h2 := Lies.append (l := [s]) (m := l) h
  have hc : content [s] = s.data.toList := by simp [content]
  have hs : s.data.toList.length = s.size := by simp
  rw [hc, hs] at h2
  refine ⟨?_, ?_, h2.2⟩
  · have h1 := h2.1
    unfold Lies at h1
    rw [hc] at h1
    obtain ⟨t, ht⟩ := h1
    apply ByteArray.ext
    apply Array.toList_inj.1
    simp only [ByteArray.data_extract, Array.toList_extract]
    rw [List.extract_eq_take_drop, show a + s.size - a = s.size by omega, ← ht, ← hs, List.take_left]
  · intro _
    have h1 := h2.1
    unfold Lies at h1
    rw [hc] at h1
    have := h1.length_le
    rw [List.length_drop, hs] at this
    have e : d.data.toList.length = d.size := by simp
    omega

theorem takeN_lies (size : Nat) (d : ByteArray) (hd : d.size = size) (m : Nat) (hm : 1 ≤ m) (l : List ByteArray) (hl : ∀ s ∈ l, s.size = m) (a : Nat) (h : Lies d a l) (out : List ByteArray) :
    takeN size d m l.length out a = some (out ++ l, a + l.length * m) := by
  induction l generalizing a out with
  | nil => simp [takeN]
  | cons s l ih =>
    obtain ⟨h1, h2, h3⟩ := h.head
    have hs := hl s List.mem_cons_self
    rw [hs] at h1 h2 h3
    have h2 := h2 hm
    rw [List.length_cons, takeN, if_neg (by omega), h1, ih (fun t ht => hl t (List.mem_cons_of_mem _ ht)) _ h3]
    simp only [List.append_assoc, List.singleton_append, Option.some.injEq, Prod.mk.injEq, true_and]
    rw [Nat.succ_mul]
    omega

/-- The three bytes of a field lie at a place. -/
def FldAt (d : ByteArray) (p c n : Nat) : Prop := byteAt d p = c ∧ twoOf d (p + 1) = n

/-- The fields of runs lie in the text, the first run's at the right: they end at p + 3. -/
def Flds (d : ByteArray) : Nat → List (Nat × Nat) → Prop
  | _, [] => True
  | p, r :: rs => if r.1 = 1 then FldAt d p 0 r.2 ∧ Flds d (p - 3) rs else FldAt d p 64 r.2 ∧ FldAt d (p - 3) 8 r.1 ∧ Flds d (p - 6) rs

/-- How many fields runs take. -/
def cnt : List (Nat × Nat) → Nat
  | [] => 0
  | r :: rs => min r.1 2 + cnt rs

theorem readP_add (size : Nat) (d : ByteArray) (j k left : Nat) (st : List ByteArray × Nat × Nat) :
    readP size d (j + k) left st = (readP size d j left st).bind (readP size d k (left - 3 * j)) := by
  induction j generalizing left st with
  | zero => simp [readP]
  | succ j ih =>
    rw [Nat.succ_add, readP, readP]
    cases stepP size d st left with
    | none => rfl
    | some st' =>
      simp only [Option.bind_some]
      rw [ih, Nat.sub_sub, show 3 + 3 * j = 3 * (j + 1) by omega]

theorem runs_split (s : ByteArray) (l : List ByteArray) : s :: l = (s :: l.take (runLen s.size l)) ++ l.drop (runLen s.size l) := by
  simp

/-- Reading the fields of the runs of l gives l. -/
theorem readP_runs (size : Nat) (d : ByteArray) (hd : d.size = size) (l : List ByteArray) (hok : ∀ s ∈ l, 1 ≤ s.size ∧ s.size ≤ 200) :
    ∀ (a p : Nat) (out : List ByteArray), Lies d a l → Flds d p (runsOf l) →
      readP size d (cnt (runsOf l)) p (out, a, 0) = some (out ++ l, a + (content l).length, 0) := by
  induction l using runsOf.induct with
  | case1 => intro a p out _ _; rw [runsOf]; simp [cnt, readP, content]
  | case2 s l ih =>
    intro a p out hl hf
    have hs := hok s List.mem_cons_self
    rw [runs_split s l] at hl
    obtain ⟨hl1, hl2⟩ := hl.append
    have hall : ∀ t ∈ s :: l.take (runLen s.size l), t.size = s.size := by
      intro t ht
      rcases List.mem_cons.1 ht with rfl | ht
      · rfl
      · exact runLen_all _ _ t ht
    have hlen : (s :: l.take (runLen s.size l)).length = runLen s.size l + 1 := by
      rw [List.length_cons, List.length_take, Nat.min_eq_left (runLen_le _ _)]
    have hcon := content_const s.size _ hall
    rw [hlen] at hcon
    have htk := takeN_lies size d hd s.size hs.1 _ hall a hl1 out
    rw [hlen] at htk
    rw [hcon] at hl2
    have ih' := ih (fun t ht => hok t (List.mem_cons_of_mem _ (List.mem_of_mem_drop ht)))
    have hfin : ∀ (o : List ByteArray), (content (s :: l)).length = (runLen s.size l + 1) * s.size + (content (l.drop (runLen s.size l))).length := by
      intro _
      conv => lhs; rw [runs_split s l]
      rw [content_append, List.length_append, hcon]
    rw [runsOf] at hf ⊢
    unfold Flds at hf
    by_cases h1 : runLen s.size l + 1 = 1
    · dsimp only at hf
      rw [if_pos h1] at hf
      obtain ⟨⟨hf1, hf2⟩, hf3⟩ := hf
      rw [cnt, show min (runLen s.size l + 1) 2 = 1 by omega, Nat.add_comm 1, readP, stepP]
      dsimp only
      rw [if_neg (by omega), if_neg (by omega), if_pos hf1, hf2]
      rw [h1] at htk
      rw [htk]
      simp only [Option.map_some, Option.bind_some]
      rw [h1] at hl2
      rw [ih' _ _ _ hl2 hf3, hfin [], h1]
      rw [List.append_assoc, ← runs_split, Nat.add_assoc]
    · dsimp only at hf
      rw [if_neg h1] at hf
      obtain ⟨⟨hf1, hf2⟩, ⟨hf4, hf5⟩, hf3⟩ := hf
      rw [cnt, show min (runLen s.size l + 1) 2 = 2 by omega, show 2 + cnt (runsOf (l.drop (runLen s.size l))) = (cnt (runsOf (l.drop (runLen s.size l))) + 1) + 1 by omega, readP, stepP]
      dsimp only
      rw [if_neg (by omega), if_pos hf1, hf2]
      simp only [Option.bind_some]
      rw [readP, stepP]
      dsimp only
      rw [if_pos (by omega), if_pos hf4, hf5, htk]
      simp only [Option.map_some, Option.bind_some]
      rw [Nat.sub_sub, ih' _ _ _ hl2 hf3, hfin []]
      rw [List.append_assoc, ← runs_split, Nat.add_assoc]

end Go.Proofs.YtnkhifgppcnmkaaDoor.Iv

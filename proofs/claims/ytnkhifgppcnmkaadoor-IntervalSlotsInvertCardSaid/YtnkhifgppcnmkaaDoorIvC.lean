/- The plain mathematics of intervals, ended: an encoded text read gives its records; Decode's answer is the one list that is encoded so. -/
import Derived.Test.YtnkhifgppcnmkaaDoorIvB
namespace Go.Proofs.YtnkhifgppcnmkaaDoor.Iv

theorem byteAt_drop (d : ByteArray) (p i : Nat) (x : List UInt8) (h : d.data.toList.drop p = x) : byteAt d (p + i) = (x.getD i 0).toNat := by
  subst h
  unfold byteAt
  simp [List.getD]

theorem two_ofNat (n : Nat) (h : n < 65536) : (UInt8.ofNat n).toNat + 256 * (UInt8.ofNat (n / 256)).toNat = n := by
  simp only [UInt8.toNat_ofNat']
  omega

theorem fld_at (d : ByteArray) (p c n : Nat) (x : List UInt8) (hc : c < 256) (hn : n < 65536) (h : d.data.toList.drop p = fld c n ++ x) : FldAt d p c n := by
  constructor
  · have := byteAt_drop d p 0 _ h
    rw [Nat.add_zero] at this
    rw [this]
    simp [fld]
    omega
  · have h1 := byteAt_drop d p 1 _ h
    have h2 := byteAt_drop d p 2 _ h
    unfold twoOf
    rw [h1, show p + 1 + 1 = p + 2 by omega, h2]
    show (UInt8.ofNat n).toNat + 256 * (UInt8.ofNat (n / 256)).toNat = n
    exact two_ofNat n hn

theorem addRun_append (out : List UInt8) (r : Nat × Nat) : addRun out r = addRun [] r ++ out := by
  unfold addRun
  split <;> simp

theorem foldl_addRun_append (rs : List (Nat × Nat)) (out : List UInt8) : rs.foldl addRun out = rs.foldl addRun [] ++ out := by
  induction rs generalizing out with
  | nil => rfl
  | cons r rs ih =>
    simp only [List.foldl_cons]
    rw [ih (addRun out r), ih (addRun [] r), addRun_append out r, List.append_assoc]

theorem cnt_length (rs : List (Nat × Nat)) (h : ∀ r ∈ rs, 1 ≤ r.1) : (rs.foldl addRun []).length = 3 * cnt rs := by
  induction rs with
  | nil => rfl
  | cons r rs ih =>
    simp only [List.foldl_cons]
    rw [foldl_addRun_append, List.length_append, ih (fun q hq => h q (List.mem_cons_of_mem _ hq)), addRun_length _ _ (h r List.mem_cons_self), cnt]
    simp
    omega

theorem flds_of (d : ByteArray) (rs : List (Nat × Nat)) (h : ∀ r ∈ rs, 1 ≤ r.1 ∧ r.1 < 65536 ∧ r.2 < 65536) :
    ∀ (q : Nat) (x : List UInt8), d.data.toList.drop q = rs.foldl addRun [] ++ x → Flds d (q + 3 * cnt rs - 3) rs := by
  induction rs with
  | nil => intro q x _; trivial
  | cons r rs ih =>
    intro q x hd
    have hr := h r List.mem_cons_self
    have hrs : ∀ q ∈ rs, 1 ≤ q.1 ∧ q.1 < 65536 ∧ q.2 < 65536 := fun q hq => h q (List.mem_cons_of_mem _ hq)
    simp only [List.foldl_cons] at hd
    rw [foldl_addRun_append, List.append_assoc] at hd
    have ih' := ih hrs q _ hd
    have hl := cnt_length rs (fun q hq => (hrs q hq).1)
    have hd2 : d.data.toList.drop (q + 3 * cnt rs) = addRun [] r ++ x := by
      rw [← List.drop_drop, hd, ← hl, List.drop_left]
    rw [cnt]
    unfold Flds
    by_cases h1 : r.1 = 1
    · rw [if_pos h1]
      have e : min r.1 2 = 1 := by omega
      rw [e]
      unfold addRun at hd2
      rw [if_pos h1, List.append_nil] at hd2
      refine ⟨?_, ?_⟩
      · rw [show q + 3 * (1 + cnt rs) - 3 = q + 3 * cnt rs by omega]
        exact fld_at d _ 0 r.2 x (by omega) hr.2.2 hd2
      · rw [show q + 3 * (1 + cnt rs) - 3 - 3 = q + 3 * cnt rs - 3 by omega]
        exact ih'
    · rw [if_neg h1]
      have e : min r.1 2 = 2 := by omega
      rw [e]
      unfold addRun at hd2
      rw [if_neg h1, List.append_nil, List.append_assoc] at hd2
      refine ⟨?_, ?_, ?_⟩
      · rw [show q + 3 * (2 + cnt rs) - 3 = q + 3 * cnt rs + 3 by omega]
        refine fld_at d _ 64 r.2 x (by omega) hr.2.2 ?_
        rw [← List.drop_drop, hd2]
        rfl
      · rw [show q + 3 * (2 + cnt rs) - 3 - 3 = q + 3 * cnt rs by omega]
        exact fld_at d _ 8 r.1 _ (by omega) hr.2.1 hd2
      · rw [show q + 3 * (2 + cnt rs) - 3 - 6 = q + 3 * cnt rs - 3 by omega]
        exact ih'

theorem run_le (l : List ByteArray) (h : ∀ s ∈ l, 1 ≤ s.size ∧ s.size ≤ 200) : ∀ r ∈ runsOf l, r.1 ≤ (content l).length ∧ r.2 ≤ 200 := by
  induction l using runsOf.induct with
  | case1 => rw [runsOf]; simp
  | case2 s l ih =>
    have hs := h s List.mem_cons_self
    have h1 := content_const s.size (l.take (runLen s.size l)) (runLen_all s.size l)
    rw [List.length_take, Nat.min_eq_left (runLen_le _ _)] at h1
    have h2 : content l = content (l.take (runLen s.size l)) ++ content (l.drop (runLen s.size l)) := by
      rw [← content_append, List.take_append_drop]
    have e : (content (s :: l)).length = s.size + runLen s.size l * s.size + (content (l.drop (runLen s.size l))).length := by
      rw [content_cons, List.length_append, h2, List.length_append, h1]
      simp; omega
    rw [runsOf]
    intro r hr
    rcases List.mem_cons.1 hr with rfl | hr
    · refine ⟨?_, hs.2⟩
      rw [e]
      have : runLen s.size l * 1 ≤ runLen s.size l * s.size := Nat.mul_le_mul_left _ hs.1
      dsimp only
      omega
    · have := ih (fun t ht => h t (List.mem_cons_of_mem _ (List.mem_of_mem_drop ht))) r hr
      exact ⟨by omega, this.2⟩

theorem whole_data (size : Nat) (c f : List UInt8) (h : 4 + c.length + f.length ≤ size) (d : ByteArray) (hd : d = ofL (whole size c f)) (hs : size ≤ 512) :
    d.size = size ∧ (c <+: d.data.toList) ∧ (∃ x, d.data.toList.drop (size - 4 - f.length) = f ++ x) ∧ endOf size d = size - 4 - f.length := by
  have hl := whole_length size c f h
  subst hd
  refine ⟨by rw [ofL_size, hl], ?_, ?_, ?_⟩
  · rw [ofL_data]; exact ⟨_, rfl⟩
  · rw [ofL_data]
    refine ⟨[UInt8.ofNat c.length, UInt8.ofNat (c.length / 256), UInt8.ofNat (size - 4 - c.length - f.length), UInt8.ofNat ((size - 4 - c.length - f.length) / 256)], ?_⟩
    unfold whole
    rw [show size - 4 - f.length = c.length + (size - 4 - c.length - f.length) by omega, ← List.drop_drop, List.drop_left]
    exact List.drop_left' (by simp)
  · have ht : (ofL (whole size c f)).data.toList.drop (size - 4) = [UInt8.ofNat c.length, UInt8.ofNat (c.length / 256), UInt8.ofNat (size - 4 - c.length - f.length), UInt8.ofNat ((size - 4 - c.length - f.length) / 256)] := by
      rw [ofL_data]
      unfold whole
      rw [← List.append_assoc, ← List.append_assoc]
      have : (c ++ List.replicate (size - 4 - c.length - f.length) 0 ++ f).length = size - 4 := by simp; omega
      exact List.drop_left' this
    have b0 := byteAt_drop _ _ 0 _ ht
    have b1 := byteAt_drop _ _ 1 _ ht
    have b2 := byteAt_drop _ _ 2 _ ht
    have b3 := byteAt_drop _ _ 3 _ ht
    unfold endOf twoOf
    rw [show size - 2 = size - 4 + 2 by omega, show size - 4 + 2 + 1 = size - 4 + 3 by omega, b1, b2, b3]
    rw [Nat.add_zero] at b0
    rw [b0]
    show (UInt8.ofNat c.length).toNat + 256 * (UInt8.ofNat (c.length / 256)).toNat + ((UInt8.ofNat (size - 4 - c.length - f.length)).toNat + 256 * (UInt8.ofNat ((size - 4 - c.length - f.length) / 256)).toNat) = size - 4 - f.length
    rw [two_ofNat _ (by omega), two_ofNat _ (by omega)]
    omega

/-- What an encoded text holds. -/
theorem encoded_holds {size : Int} {l : List ByteArray} {d : ByteArray} (h : encodeOf size l = (d, 0)) :
    ∃ n : Nat, size = n ∧ n ≤ 512 ∧ 128 ≤ n ∧ d.size = n ∧ (∀ s ∈ l, 1 ≤ s.size ∧ s.size ≤ 200) ∧ Lies d 0 l ∧ 4 + (content l).length + 3 * cnt (runsOf l) ≤ n ∧ endOf n d = n - 4 - 3 * cnt (runsOf l) ∧ Flds d (n - 7) (runsOf l) := by
  obtain ⟨h1, h2, h3, h4⟩ := encode_ok h
  have hok := (okRec_iff l).1 h2
  obtain ⟨n, rfl, hn, hn2⟩ : ∃ n : Nat, size = n ∧ n ≤ 512 ∧ 128 ≤ n := by
    rcases isSz_cases h1 with h | h | h <;> subst h
    · exact ⟨128, rfl, by omega, by omega⟩
    · exact ⟨256, rfl, by omega, by omega⟩
    · exact ⟨512, rfl, by omega, by omega⟩
  have hsz := sizes l
  have hfl := cnt_length (runsOf l) (runs_pos l)
  have hsum : 4 + (content l).length + (fieldsOf l).length ≤ n := by omega
  obtain ⟨w1, w2, ⟨x, w3⟩, w4⟩ := whole_data n (content l) (fieldsOf l) hsum d h4 hn
  unfold fieldsOf at w3 w4 hsum
  rw [hfl] at w3 w4 hsum
  refine ⟨n, rfl, hn, hn2, w1, hok, ?_, hsum, w4, ?_⟩
  · unfold Lies; simpa using w2
  · have hb : ∀ r ∈ runsOf l, 1 ≤ r.1 ∧ r.1 < 65536 ∧ r.2 < 65536 := fun r hr => by
      have := run_le l hok r hr
      have := runs_pos l r hr
      omega
    have := flds_of d (runsOf l) hb _ x w3
    rw [show n - 4 - 3 * cnt (runsOf l) + 3 * cnt (runsOf l) - 3 = n - 7 by omega] at this
    exact this

theorem parseP_encoded {size : Int} {l : List ByteArray} {d : ByteArray} (h : encodeOf size l = (d, 0)) : parseP size.toNat d = some l := by
  obtain ⟨n, rfl, hn, hn2, hd, hok, hl, hsum, he, hf⟩ := encoded_holds h
  unfold parseP
  rw [Int.toNat_natCast, he]
  have hr : rounds n (n - 4 - 3 * cnt (runsOf l)) = cnt (runsOf l) := by
    unfold rounds
    split <;> omega
  rw [hr, readP_runs n d hd l hok 0 (n - 7) [] hl hf]
  simp

/-- Only one list of records is encoded as a text. -/
theorem encode_inj {size : Int} {l m : List ByteArray} {d : ByteArray} (h : encodeOf size l = (d, 0)) (h' : encodeOf size m = (d, 0)) : l = m := by
  have := (parseP_encoded h).symm.trans (parseP_encoded h')
  injection this

/-- The reference's lengths; none: the form is wrong. -/
def lensR (size : Nat) (d : ByteArray) (e : Nat) : Nat → Int → List Nat → Option (List Nat)
  | 0, _, out => some out
  | k + 1, a, out =>
    if (e : Int) ≤ a ∧ 0 ≤ a then
      if byteAt d a.toNat = 0 then lensR size d e k (a - 3) (out ++ [twoOf d (a.toNat + 1)])
      else if byteAt d a.toNat = 64 ∧ (e : Int) ≤ a - 3 ∧ byteAt d (a - 3).toNat = 8 then
        lensR size d e k (a - 6) (out ++ List.replicate (min (twoOf d (a.toNat - 2)) size) (twoOf d (a.toNat + 1)))
      else none
    else some out

/-- The reference's cuts. -/
def cutR (size : Nat) (d : ByteArray) : List Nat → Nat → List ByteArray → Option (List ByteArray)
  | [], _, out => some out
  | n :: ns, a, out => if size < a + n then none else cutR size d ns (a + n) (out ++ [d.extract a (a + n)])

def parseR (size : Nat) (d : ByteArray) : Option (List ByteArray) :=
  (lensR size d (endOf size d) size ((size : Int) - 7) []).bind fun ns => cutR size d ns 0 []

theorem cutR_lies (size : Nat) (d : ByteArray) (hd : d.size = size) (l : List ByteArray) (hl : ∀ s ∈ l, 1 ≤ s.size ∧ s.size ≤ 200) (a : Nat) (h : Lies d a l) (out : List ByteArray) :
    cutR size d (l.map (·.size)) a out = some (out ++ l) := by
  induction l generalizing a out with
  | nil => simp [cutR]
  | cons s l ih =>
    obtain ⟨h1, h2, h3⟩ := h.head
    have h2 := h2 (hl s List.mem_cons_self).1
    rw [List.map_cons, cutR, if_neg (by omega), h1, ih (fun t ht => hl t (List.mem_cons_of_mem _ ht)) _ h3]
    simp

theorem map_size_const (m : Nat) (l : List ByteArray) (h : ∀ s ∈ l, s.size = m) : l.map (·.size) = List.replicate l.length m := by
  induction l with
  | nil => rfl
  | cons s l ih =>
    rw [List.map_cons, ih (fun t ht => h t (List.mem_cons_of_mem _ ht)), h s List.mem_cons_self]
    rfl

theorem lensR_runs (size : Nat) (d : ByteArray) (e : Nat) (l : List ByteArray) (hcap : ∀ r ∈ runsOf l, r.1 ≤ size) :
    ∀ (k : Nat) (a : Int) (out : List Nat), cnt (runsOf l) < k → a = (e : Int) + 3 * (cnt (runsOf l) : Nat) - 3 → Flds d a.toNat (runsOf l) →
      lensR size d e k a out = some (out ++ l.map (·.size)) := by
  induction l using runsOf.induct with
  | case1 =>
    intro k a out hk ha _
    rw [runsOf] at ha hk
    obtain ⟨k, rfl⟩ : ∃ m, k = m + 1 := ⟨k - 1, by omega⟩
    rw [lensR, if_neg]
    · simp
    · simp [cnt] at ha; omega
  | case2 s l ih =>
    intro k a out hk ha hf
    have hall : ∀ t ∈ s :: l.take (runLen s.size l), t.size = s.size := by
      intro t ht
      rcases List.mem_cons.1 ht with rfl | ht
      · rfl
      · exact runLen_all _ _ t ht
    have hlen : (s :: l.take (runLen s.size l)).length = runLen s.size l + 1 := by
      rw [List.length_cons, List.length_take, Nat.min_eq_left (runLen_le _ _)]
    have hm := map_size_const s.size _ hall
    rw [hlen] at hm
    have hfin : (s :: l).map (·.size) = List.replicate (runLen s.size l + 1) s.size ++ (l.drop (runLen s.size l)).map (·.size) := by
      conv => lhs; rw [runs_split s l]
      rw [List.map_append, hm]
    rw [runsOf] at hf ha hk hcap
    rw [cnt] at ha hk
    have hcap1 := hcap _ List.mem_cons_self
    have ih' := ih (fun r hr => hcap r (List.mem_cons_of_mem _ hr))
    obtain ⟨k, rfl⟩ : ∃ m, k = m + 1 := ⟨k - 1, by omega⟩
    unfold Flds at hf
    dsimp only at hf ha hk hcap1
    rw [lensR, if_pos (by omega)]
    by_cases h1 : runLen s.size l + 1 = 1
    · rw [if_pos h1] at hf
      obtain ⟨⟨hf1, hf2⟩, hf3⟩ := hf
      have e1 : min (runLen s.size l + 1) 2 = 1 := by omega
      rw [e1] at ha hk
      rw [if_pos hf1, hf2, ih' k (a - 3) _ (by omega) (by omega) (by rw [show (a - 3).toNat = a.toNat - 3 by omega]; exact hf3), hfin, h1]
      simp
    · rw [if_neg h1] at hf
      obtain ⟨⟨hf1, hf2⟩, ⟨hf4, hf5⟩, hf3⟩ := hf
      have e1 : min (runLen s.size l + 1) 2 = 2 := by omega
      rw [e1] at ha hk
      rw [if_neg (by omega), if_pos ⟨hf1, by omega, by rw [show (a - 3).toNat = a.toNat - 3 by omega]; exact hf4⟩, hf2]
      rw [show a.toNat - 2 = a.toNat - 3 + 1 by omega, hf5, Nat.min_eq_left hcap1]
      rw [ih' k (a - 6) _ (by omega) (by omega) (by rw [show (a - 6).toNat = a.toNat - 6 by omega]; exact hf3), hfin]
      simp

theorem parseR_encoded {size : Int} {l : List ByteArray} {d : ByteArray} (h : encodeOf size l = (d, 0)) : parseR size.toNat d = some l := by
  obtain ⟨n, rfl, hn, hn2, hd, hok, hl, hsum, he, hf⟩ := encoded_holds h
  unfold parseR
  rw [Int.toNat_natCast, he]
  have hcap : ∀ r ∈ runsOf l, r.1 ≤ n := fun r hr => by have := run_le l hok r hr; omega
  rw [lensR_runs n d (n - 4 - 3 * cnt (runsOf l)) l hcap n ((n : Int) - 7) [] (by omega) (by omega) (by rw [show ((n : Int) - 7).toNat = n - 7 by omega]; exact hf)]
  simp only [List.nil_append, Option.bind_some]
  rw [cutR_lies n d hd l hok 0 hl]
  rfl

def unusedOf (d : ByteArray) : Bool := d.data.toList.all (· == 0)

/-- What Decode answers: the records and the error; with what a reader found. -/
def decodeWith (size : Int) (d : ByteArray) (p : Option (List ByteArray)) : List ByteArray × Int :=
  if isSz size = false then ([], 1)
  else if (d.size : Int) ≠ size then ([], 11)
  else if unusedOf d = true then ([], 9)
  else match p with
    | none => ([], 11)
    | some l => if encodeOf size l = (d, 0) then (l, 0) else ([], 11)

def decodeOf (size : Int) (d : ByteArray) : List ByteArray × Int := decodeWith size d (parseP size.toNat d)

/-- Both readers come to the same answer. -/
theorem decode_readers (size : Int) (d : ByteArray) : decodeWith size d (parseR size.toNat d) = decodeOf size d := by
  unfold decodeOf decodeWith
  split
  · rfl
  · split
    · rfl
    · split
      · rfl
      · cases hp : parseP size.toNat d with
        | none =>
          cases hr : parseR size.toNat d with
          | none => rfl
          | some l =>
            dsimp only
            by_cases h : encodeOf size l = (d, 0)
            · have := parseP_encoded h; rw [hp] at this; cases this
            · rw [if_neg h]
        | some l =>
          dsimp only
          by_cases h : encodeOf size l = (d, 0)
          · rw [parseR_encoded h]
          · rw [if_neg h]
            cases hr : parseR size.toNat d with
            | none => rfl
            | some m =>
              dsimp only
              by_cases h' : encodeOf size m = (d, 0)
              · have := parseP_encoded h'; rw [hp] at this; injection this with this; subst this; exact absurd h' h
              · rw [if_neg h']

theorem decode_ok {size : Int} {d : ByteArray} {l : List ByteArray} (h : decodeOf size d = (l, 0)) : encodeOf size l = (d, 0) := by
  unfold decodeOf decodeWith at h
  split at h
  · injection h with _ h; cases h
  · split at h
    · injection h with _ h; cases h
    · split at h
      · injection h with _ h; cases h
      · cases hp : parseP size.toNat d with
        | none => rw [hp] at h; injection h with _ h; cases h
        | some m =>
          rw [hp] at h
          dsimp only at h
          by_cases he : encodeOf size m = (d, 0)
          · rw [if_pos he] at h; injection h with h _; subst h; exact he
          · rw [if_neg he] at h; injection h with _ h; cases h

/-- An encoded text has a byte that is not zero. -/
theorem encoded_used {size : Int} {l : List ByteArray} {d : ByteArray} (h : encodeOf size l = (d, 0)) : unusedOf d = false := by
  obtain ⟨n, rfl, hn, hn2, hd, hok, hl, hsum, he, hf⟩ := encoded_holds h
  cases hu : unusedOf d with
  | false => rfl
  | true =>
    exfalso
    have hz : ∀ i, byteAt d i = 0 := by
      intro i
      unfold byteAt
      unfold unusedOf at hu
      rw [List.all_eq_true] at hu
      rw [List.getD_eq_getElem?_getD]
      cases hx : d.data.toList[i]? with
      | none => rfl
      | some x =>
        have := hu x (List.mem_of_getElem? hx)
        simp only [beq_iff_eq] at this
        subst this
        rfl
    have : endOf n d = 0 := by unfold endOf twoOf; simp only [hz]
    rw [this] at he
    -- the records' bytes are none, so no field is there
    have hc : (content l).length = 0 := by omega
    have hnil : l = [] := by
      cases l with
      | nil => rfl
      | cons s l =>
        have := (hok s List.mem_cons_self).1
        rw [content_cons, List.length_append] at hc
        have e : s.data.toList.length = s.size := by simp
        omega
    subst hnil
    rw [runsOf] at he
    simp [cnt] at he
    omega

theorem decode_encoded {size : Int} {l : List ByteArray} {d : ByteArray} (h : encodeOf size l = (d, 0)) : decodeOf size d = (l, 0) := by
  unfold decodeOf decodeWith
  rw [parseP_encoded h, encoded_used h]
  have h1 := (encode_ok h).1
  have h2 := encode_size h
  rw [h1]
  simp [h2, h]

theorem decode_err {size : Int} {d : ByteArray} (h : (decodeOf size d).2 ≠ 0) : (decodeOf size d).1 = [] := by
  unfold decodeOf decodeWith at *
  split
  · rfl
  · split
    · rfl
    · split
      · rfl
      · rename_i h1 h2 h3
        rw [if_neg h1, if_neg h2, if_neg h3] at h
        cases hp : parseP size.toNat d with
        | none => rfl
        | some l =>
          rw [hp] at h
          dsimp only at h ⊢
          by_cases he : encodeOf size l = (d, 0)
          · rw [if_pos he] at h; exact absurd rfl h
          · rw [if_neg he]
end Go.Proofs.YtnkhifgppcnmkaaDoor.Iv

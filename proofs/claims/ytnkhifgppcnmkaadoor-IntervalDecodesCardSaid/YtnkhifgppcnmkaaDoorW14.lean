/- Walks: the reference's Decode. -/
import Derived.Test.YtnkhifgppcnmkaaDoorW13
import Derived.Test.YtnkhifgppcnmkaaDoorMemB
namespace Go.Proofs.YtnkhifgppcnmkaaDoor
open Go.RowKit Iv

/-- The cells of numbers. -/
def intsZ (zs : List Int) : List Value := zs.map (Value.int .i64)

/-- Cutting by numbers of which one may be negative. -/
def cutZ (size : Nat) (d : ByteArray) : List Int → Nat → List ByteArray → Option (List ByteArray)
  | [], _, out => some out
  | z :: zs, a, out => if z < 0 ∨ (size : Int) < (a : Int) + z then none else cutZ size d zs (a + z.toNat) (out ++ [d.extract a (a + z.toNat)])

theorem cutZ_nat (size : Nat) (d : ByteArray) (ns : List Nat) : ∀ a out, cutZ size d (ns.map Int.ofNat) a out = cutR size d ns a out := by
  induction ns with
  | nil => intro a out; rfl
  | cons n ns ih =>
    intro a out
    rw [List.map_cons, cutZ, cutR]
    simp only [Int.ofNat_eq_natCast, Int.toNat_natCast]
    by_cases h : size < a + n
    · rw [if_pos h, if_pos (by omega)]
    · rw [if_neg h, if_neg (by omega), ← ih]

theorem lensR_len (size : Nat) (d : ByteArray) (e : Nat) : ∀ (k : Nat) (a : Int) (out ns : List Nat), 1 ≤ size → lensR size d e k a out = some ns → ns.length ≤ out.length + k * size := by
  intro k
  induction k with
  | zero => intro a out ns _ h; rw [lensR] at h; injection h with h; subst h; omega
  | succ k ih =>
    intro a out ns hs h
    rw [lensR] at h
    rw [Nat.succ_mul]
    split at h
    · split at h
      · have := ih _ _ _ hs h
        rw [List.length_append, List.length_singleton] at this
        omega
      · split at h
        · have := ih _ _ _ hs h
          rw [List.length_append, List.length_replicate] at this
          omega
        · cases h
    · injection h with h
      subst h
      omega

theorem lensR_small (size : Nat) (d : ByteArray) (e : Nat) : ∀ (k : Nat) (a : Int) (out ns : List Nat), (∀ n ∈ out, n < 65536) → lensR size d e k a out = some ns → ∀ n ∈ ns, n < 65536 := by
  intro k
  induction k with
  | zero => intro a out ns ho h; rw [lensR] at h; injection h with h; subst h; exact ho
  | succ k ih =>
    intro a out ns ho h
    rw [lensR] at h
    split at h
    · split at h
      · refine ih _ _ _ ?_ h
        intro n hn
        rcases List.mem_append.1 hn with hn | hn
        · exact ho n hn
        · rw [List.mem_singleton.1 hn]; exact twoOf_lt _ _
      · split at h
        · refine ih _ _ _ ?_ h
          intro n hn
          rcases List.mem_append.1 hn with hn | hn
          · exact ho n hn
          · rw [(List.mem_replicate.1 hn).2]; exact twoOf_lt _ _
        · cases h
    · injection h with h
      subst h
      exact ho

/-- What lengths answers, as numbers of which one may be negative. -/
theorem lens_ints {w w' : World} {e : Ending} {r : Option (List Nat)} (h : LensTo w r e w') :
    Below w.heap.size w w' ∧ ∃ A c zs, e = .returned (.slice A zs.length c) ∧ RowA w' A (intsZ zs) ∧ ((∃ ns, r = some ns ∧ zs = ns.map Int.ofNat) ∨ (r = none ∧ zs = [-1])) := by
  unfold LensTo at h
  refine ⟨h.1, ?_⟩
  have h2 := h.2
  cases r with
  | some ns =>
    obtain ⟨v, rfl, hown⟩ := h2
    obtain ⟨A, c, rfl, hrow, hc⟩ := own_row hown
    refine ⟨A, c, ns.map Int.ofNat, by simp, ?_, .inl ⟨ns, rfl, rfl⟩⟩
    have : intsZ (ns.map Int.ofNat) = ints ns := by simp [intsZ, ints]
    rw [this]
    exact hrow
  | none =>
    obtain ⟨g, rfl, hg⟩ := h2
    refine ⟨some ⟨g, 0, none⟩, 1, [-1], rfl, fun _ => ⟨g, 0, rfl, blk_lt hg, fun i hi => ?_⟩, .inr ⟨rfl, rfl⟩⟩
    have hi : i < 1 := by simpa [intsZ] using hi
    obtain rfl : i = 0 := by omega
    rw [Nat.zero_add, cell_of_row _ _ 0 _ _ _ hg]
    rfl

set_option maxHeartbeats 800000 in
theorem refEncode_bad (size : Int) (A : Option Addr) (c : Nat) (l : List ByteArray) (w : World) (hl : l.length ≤ maxLen) (hs : StrsA w A l) (h1 : isSz size = true) (h2 : okRec l = false) :
    Calls Tryd.prog 38 #[.int .i64 size, .slice A l.length c] w fun e w' => e = .returned (.tuple #[.string ByteArray.empty, .int .i64 2]) ∧ Below w.heap.size w w' := by
  have HS := Lib.hid hs
  have HLM := Lib.hid hl
  clear hs hl
  go_enter Tryd.func38, Tryd.ntmps38
  go_wp2_with fail
  refine (refIsSize_any _ _).mono ?_
  rintro e w' ⟨rfl, rfl⟩
  go_wp2_with fail
  refine (refAllowed_any A c l _ HLM.out HS.out).mono ?_
  rintro e w' ⟨rfl, rfl⟩
  go_wp2
  go_ret2
  exact ⟨rfl, Below.refl _ _⟩

/-- Encode at records that were cut out of a text. -/
theorem refEncode_cut (size : Int) (A : Option Addr) (c : Nat) (l : List ByteArray) (w : World) (hl : l.length ≤ maxLen) (hs : StrsA w A l) (h1 : isSz size = true) (hk : okRec l = true → l.length ≤ 1000) :
    Calls Tryd.prog 38 #[.int .i64 size, .slice A l.length c] w fun e w' => e = .returned (.tuple #[.string (encodeOf size l).1, .int .i64 (encodeOf size l).2]) ∧ Below w.heap.size w w' := by
  cases h2 : okRec l with
  | false =>
    have he : encodeOf size l = (ByteArray.empty, 2) := by unfold encodeOf; rw [if_neg (by simp [h1]), if_pos h2]
    rw [he]
    exact refEncode_bad size A c l w hl hs h1 h2
  | true => exact refEncode_any size A c l w (hk h2) (fun s hs => by have := (okRec_iff l).1 h2 s hs; omega) hs

/-- What the reference's rounds keep of the records so far. -/
def CutOk (n : Nat) (l : List ByteArray) (a k : Nat) : Prop := a ≤ n ∧ l.length = k ∧ (okRec l = true → l.length ≤ a)

theorem CutOk.step {n : Nat} {l : List ByteArray} {a k m : Nat} {d : ByteArray} (h : CutOk n l a k) (hd : d.size = n) (hm : a + m ≤ n) : CutOk n (l ++ [d.extract a (a + m)]) (a + m) (k + 1) := by
  obtain ⟨h1, h2, h3⟩ := h
  refine ⟨hm, by simp [h2], fun hk => ?_⟩
  have hk1 := (okRec_iff _).1 hk
  have hk2 : okRec l = true := (okRec_iff l).2 fun s hs => hk1 s (List.mem_append_left _ hs)
  have hk3 := hk1 (d.extract a (a + m)) (by simp)
  rw [ByteArray.size_extract] at hk3
  have := h3 hk2
  rw [List.length_append, List.length_singleton]
  omega

set_option maxHeartbeats 6400000 in
set_option maxRecDepth 100000 in
theorem refDecode_any (size : Int) (d : ByteArray) (w : World) (hd : d.size ≤ 1000) :
    Calls Tryd.prog 32 #[.int .i64 size, .string d] w fun e w' => DecodedTo w (decodeOf size d) e w' := by
  have hdm : d.size ≤ maxLen := by unfold maxLen; omega
  have HDM := Lib.hid hdm
  clear hdm
  rw [← decode_readers]
  cases h1 : isSz size with
  | false =>
    have he : decodeWith size d (parseR size.toNat d) = ([], 1) := by unfold decodeWith; rw [if_pos h1]
    rw [he]
    go_enter Tryd.func32, Tryd.ntmps32
    go_wp2_with fail
    refine (refIsSize_any _ _).mono ?_
    rintro e w' ⟨rfl, rfl⟩
    go_wp2
    go_ret2
    exact decoded_err _ _ _ (Below.refl _ _)
  | true =>
    by_cases h2 : (d.size : Int) = size
    · obtain ⟨n, rfl, hn, hn2⟩ : ∃ n : Nat, size = n ∧ n ≤ 512 ∧ 128 ≤ n := by
        rcases isSz_cases h1 with h | h | h <;> subst h
        · exact ⟨128, rfl, by omega, by omega⟩
        · exact ⟨256, rfl, by omega, by omega⟩
        · exact ⟨512, rfl, by omega, by omega⟩
      have hdn : d.size = n := by omega
      have HDN := Lib.hid hdn
      have hneq : ((d.size : Int) != (n : Int)) = false := by simp [hdn]
      have HL1 : Hid (d.size ≤ 1000) := hd
      cases hu : unusedOf d with
      | true =>
        have he : decodeWith n d (parseR (n : Int).toNat d) = ([], 9) := by unfold decodeWith; rw [if_neg (by simp [h1]), if_neg (by omega), if_pos hu]
        rw [he]
        clear h2 hdn
        go_enter Tryd.func32, Tryd.ntmps32
        go_wp2_with fail
        refine (refIsSize_any _ _).mono ?_
        rintro e w' ⟨rfl, rfl⟩
        go_wp2_with fail
        refine (refUnused_any d _ HL1.out).mono ?_
        rintro e w1 ⟨rfl, hb1⟩
        go_wp2
        go_ret2
        exact decoded_err _ _ _ hb1
      | false =>
        obtain ⟨ans, hans⟩ : ∃ ans, ans = decodeWith n d (parseR (n : Int).toNat d) := ⟨_, rfl⟩
        rw [← hans]
        have he : ans = match parseR n d with | none => ([], 11) | some l => if encodeOf n l = (d, 0) then (l, 0) else ([], 11) := by
          rw [hans]
          unfold decodeWith
          rw [if_neg (by simp [h1]), if_neg (by omega), if_neg (by simp [hu]), Int.toNat_natCast]
          cases parseR n d <;> rfl
        have HA1 : Hid (parseR n d = none → ans = ([], 11)) := by
          show _ → _
          intro h; rw [he, h]
        have HA2 : Hid (∀ l, parseR n d = some l → ans = if encodeOf n l = (d, 0) then (l, 0) else ([], 11)) := by
          show ∀ _, _
          intro l h; rw [he, h]
        have HSZ := Lib.hid h1
        clear h2 hdn hans he
        go_enter Tryd.func32, Tryd.ntmps32
        go_wp2_with fail
        refine (refIsSize_any _ _).mono ?_
        rintro e w' ⟨rfl, rfl⟩
        go_wp2_with fail
        refine (refUnused_any d _ HL1.out).mono ?_
        rintro e w1 ⟨rfl, hb1⟩
        go_wp2_with fail
        refine (lengths_any n d _ hn hn2 HDN.out).mono ?_
        intro e w2 hlens
        obtain ⟨hb2, A, c, zs, rfl, hrow, hzs⟩ := lens_ints hlens
        have HZC : Hid (cutZ n d zs 0 [] = parseR n d) := by
          show _ = _
          unfold parseR
          rcases hzs with ⟨ns, hr, rfl⟩ | ⟨hr, rfl⟩
          · rw [hr, cutZ_nat]; rfl
          · rw [hr]; rfl
        have HZL : Hid (zs.length ≤ 300000) := by
          show _ ≤ _
          rcases hzs with ⟨ns, hr, rfl⟩ | ⟨hr, rfl⟩
          · have := lensR_len n d _ _ _ _ _ (by omega) hr
            have h3 : n * n ≤ 512 * 512 := Nat.mul_le_mul hn hn
            rw [List.length_map]; simp at this; omega
          · simp
        have HZB : Hid (∀ z ∈ zs, z < 65536) := by
          show ∀ _, _
          rcases hzs with ⟨ns, hr, rfl⟩ | ⟨hr, rfl⟩
          · intro z hz
            obtain ⟨n', hn', rfl⟩ := List.mem_map.1 hz
            have := lensR_small n d _ _ _ _ _ (by simp) hr n' hn'
            simp only [Int.ofNat_eq_natCast]; omega
          · intro z hz; rw [List.mem_singleton.1 hz]; omega
        have HB2 := Lib.hid (bstep hb1 hb2)
        have HROW := Lib.hid hrow
        clear hlens hzs hb1 hb2 hrow h1
        have hm : OwnS w2.heap.size (w2.alloc (.cells #[] 9)) (.slice (some ⟨w2.heap.size, 0, none⟩) 0 0) [] := World.ownsRow_made (e := 9) (size := 1) w2 #[] 0 (Nat.le_refl _) (by decide) rfl
        have HOW := Lib.hid hm
        have HBW := Lib.hid ((Below.refl w2.heap.size w2).alloc (Nat.le_refl _) (.cells #[] 9))
        clear hm
        go_wp2
        go_loopw [7, 8, 9] (fun x y z wr => ∃ (k a : Nat) (l : List ByteArray), y = .int .i64 a ∧ z = .int .i64 k ∧ k ≤ zs.length ∧ parseR n d = cutZ n d (zs.drop k) a l ∧ CutOk n l a k ∧ OwnS w2.heap.size wr x l ∧ Below w2.heap.size w2 wr) (fun _ _ z _ => zs.length - (intOf z).toNat)
        case atStart => exact ⟨0, 0, [], rfl, rfl, Nat.zero_le _, HZC.out.symm, ⟨by omega, rfl, fun _ => by simp⟩, HOW.out, HBW.out⟩
        case round =>
          obtain ⟨k, a, l, rfl, rfl, hk, hr, hcut, hown, hb2⟩ := hrel
          clear HOW HBW HZC
          have HB2W := Lib.hid hb2
          have hb := bstep HB2.out hb2
          have HO := Lib.hid hown
          have HB := Lib.hid hb
          have HROWW := Lib.hid (HROW.out.keep hb2)
          have HCUT := Lib.hid hcut
          have HERR : Hid (parseR n d = none → ∀ w', Below w.heap.size w w' → DecodedTo w ans (.returned (.tuple #[.slice none 0 0, .int .i64 11])) w') := by
            show _ → _
            intro hPn w' hw'
            rw [HA1.out hPn]
            exact decoded_err _ _ _ hw'
          clear hown hb hb2 hcut
          by_cases hlt : k < zs.length
          · obtain ⟨b, o, rfl, hbs, hcells⟩ := HROWW.out (by simp [intsZ]; omega)
            obtain ⟨z, hz⟩ : ∃ z, z = zs[k] := ⟨_, rfl⟩
            have hcell : wr.cell? ⟨b, o + k, none⟩ = some (.int .i64 z) := by rw [hcells k (by simpa [intsZ] using hlt), hz]; simp [intsZ, hlt]
            rw [List.drop_eq_getElem_cons hlt, ← hz, cutZ] at hr
            have HCELL : Hid (∀ w', RowA w' (some ⟨b, o, none⟩) (intsZ zs) → w'.cell? ⟨b, o + k, none⟩ = some (.int .i64 z)) := by
              show ∀ _, _
              intro w' hrw
              obtain ⟨b', o', e, _, hc'⟩ := hrw (by simp [intsZ]; omega)
              simp only [Option.some.injEq, Addr.mk.injEq, and_true] at e
              obtain ⟨rfl, rfl⟩ := e
              rw [hc' k (by simpa [intsZ] using hlt), hz]; simp [intsZ, hlt]
            have hzb : z < 65536 := by rw [hz]; exact HZB.out _ (List.getElem_mem hlt)
            clear hz hcells hbs
            by_cases hneg : z < 0
            · rw [if_pos (.inl hneg)] at hr
              have HR := Lib.hid hr
              clear hr
              go_wp2
              go_ret2
              exact HERR.out HR.out _ HB.out
            · obtain ⟨m, rfl⟩ : ∃ m : Nat, z = m := ⟨z.toNat, by omega⟩
              have ha : a ≤ n := HCUT.out.1
              have hZL : k < 300000 := by have := HZL.out; omega
              by_cases hbig : n < a + m
              · rw [if_pos (.inr (by omega))] at hr
                have HR := Lib.hid hr
                clear hr
                have hbi : (n : Int) < (a : Int) + (m : Int) := by omega
                go_wp2
                go_ret2
                exact HERR.out HR.out _ HB.out
              · rw [if_neg (by omega)] at hr
                simp only [Int.toNat_natCast] at hr
                have HR := Lib.hid hr
                have HLL : Hid (l.length ≤ 300000) := by show _ ≤ _; rw [HCUT.out.2.1]; omega
                have HC2 := Lib.hid (HCUT.out.step (m := m) HDN.out (by omega))
                clear hr hneg hzb
                have hmn : a + m ≤ n := by omega
                have q1 : (a : Int) ≤ (a : Int) + (m : Int) := by omega
                have q2 : (a : Int) + (m : Int) ≤ (d.size : Int) := by have := HDN.out; omega
                have q4 : ((a : Int) + (m : Int)).toNat = a + m := by omega
                obtain ⟨i9, hi9, hz9, hs9, hb9⟩ := info9
                have HI := Lib.hid HB.out.size
                go_wp2_with (first | (at_builtin; refine wpl_push elemStr rfl _ _ rfl u7 l.length (l.map Value.string) [.string (d.extract a (a + m))] rfl HO.out HB2W.out rfl rfl (by simp [Value.oneCell']) (by have := HLL.out; unfold maxLen; omega) (by have := HLL.out; omega) ?_; intro g cap w7 hown7 hb7; have HB7 := Lib.hid hb7; have hcell7 : w7.cell? ⟨b, o + k, none⟩ = some (.int .i64 m) := (HROW.out.keep hb7 |> fun h => (HCELL.out w7 h)); clear hb7))
                refine ⟨⟨k + 1, a + m, l ++ [d.extract a (a + m)], rfl, rfl, by omega, HR.out, HC2.out, ?_, HB7.out⟩, by simp [intOf]; omega⟩
                unfold OwnS
                rw [List.length_append, List.length_singleton, List.map_append]
                exact hown7
          · obtain rfl : k = zs.length := by omega
            rw [List.drop_length, cutZ] at hr
            obtain ⟨A, c, rfl, hstr, hlc⟩ := own_strs HO.out
            have HENC : Hid (∀ w', Below wr.heap.size wr w' → Calls Tryd.prog 38 #[.int .i64 n, .slice A l.length c] w' fun e w'' => e = .returned (.tuple #[.string (encodeOf n l).1, .int .i64 (encodeOf n l).2]) ∧ Below w'.heap.size w' w'') := by
              show ∀ _, _
              intro w' hw'
              have h1 := HCUT.out
              have h2 := HZL.out
              exact refEncode_cut n A c l w' (by unfold maxLen; rw [h1.2.1]; omega) (hstr.keep hw') HSZ.out (fun hk => by have := h1.2.2 hk; have := h1.1; omega)
            have HSTR := Lib.hid hstr
            have HLC := Lib.hid hlc
            have HRES := Lib.hid (HA2.out l hr)
            clear hr hstr hlc hk
            rcases hxe : encodeOf n l with ⟨x, e2⟩
            rw [hxe] at HENC HRES
            clear hxe
            go_wp2_with fail
            refine (HENC.out _ (Below.refl _ _)).mono ?_
            rintro e w6 ⟨rfl, hb6⟩
            have HB6 := Lib.hid (bstep HB.out hb6)
            have HSTR6 := Lib.hid (HSTR.out.keep hb6)
            clear hb6
            by_cases he : e2 = 0
            · subst he
              by_cases hx : x = d
              · subst hx
                go_wp2
                go_ret2
                rw [show ans = (l, 0) by rw [HRES.out]; simp]
                exact ⟨A, c, rfl, HSTR6.out, HLC.out, HB6.out⟩
              · have hxn := bytes_ne hx
                have HX := Lib.hid hx
                clear hx
                go_wp2
                go_ret2
                rw [HRES.out, if_neg (by intro h; injection h with h _; exact HX.out h)]
                exact decoded_err _ _ _ HB6.out
            · have hen : (e2 != 0) = true := by simp [he]
              have HEN := Lib.hid he
              clear he
              go_wp2
              go_ret2
              rw [HRES.out, if_neg (by intro h; injection h with _ h; exact HEN.out h)]
              exact decoded_err _ _ _ HB6.out
    · have he : decodeWith size d (parseR size.toNat d) = ([], 11) := by unfold decodeWith; rw [if_neg (by simp [h1]), if_pos h2]
      rw [he]
      have hne : ((d.size : Int) != size) = true := by simp [h2]
      clear h2
      go_enter Tryd.func32, Tryd.ntmps32
      go_wp2_with fail
      refine (refIsSize_any _ _).mono ?_
      rintro e w' ⟨rfl, rfl⟩
      go_wp2
      go_ret2
      exact decoded_err _ _ _ (Below.refl _ _)
end Go.Proofs.YtnkhifgppcnmkaaDoor

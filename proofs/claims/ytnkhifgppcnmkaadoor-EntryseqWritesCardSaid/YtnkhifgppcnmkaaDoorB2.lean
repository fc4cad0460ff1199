/- Walks of chapter 17: Encode, Decode. -/
import Derived.Test.YtnkhifgppcnmkaaDoorB1
import Derived.Deep.RegionLaw

/- Walks: Fits, and the reference's run, field, fields, join, whole, Size, Fits, Encode. -/
namespace Go.Proofs.YtnkhifgppcnmkaaDoor
open Go.RowKit Iv

set_option maxHeartbeats 1600000 in
theorem fits_any (size : Int) (A : Option Addr) (c : Nat) (l : List ByteArray) (w : World) (hl : l.length ≤ 1000) (hr : ∀ s ∈ l, s.size ≤ 1000) (hc : l.length ≤ c) (hs : StrsA w A l) :
    Calls Tryd.prog 41 #[.int .i64 size, .slice A l.length c] w fun e w' => e = .returned (.bool (fitsOf size l)) ∧ Below w.heap.size w w' := by
  have HS := Lib.hid hs
  have HR := Lib.hid hr
  have hlm : l.length ≤ maxLen := by unfold maxLen; omega
  have HLM := Lib.hid hlm
  clear hs hr hlm
  cases h1 : isSz size with
  | false =>
    have he : fitsOf size l = false := by unfold fitsOf; rw [h1]; rfl
    rw [he]
    go_enter Tryd.func41, Tryd.ntmps41
    go_wp2_with fail
    refine (isSize_any _ _).mono ?_
    rintro e w' ⟨rfl, rfl⟩
    go_wp2
    go_ret
    exact ⟨rfl, Below.refl _ _⟩
  | true =>
    cases h2 : okRec l with
    | false =>
      have he : fitsOf size l = false := by unfold fitsOf; rw [h1, h2]; rfl
      rw [he]
      go_enter Tryd.func41, Tryd.ntmps41
      go_wp2_with fail
      refine (isSize_any _ _).mono ?_
      rintro e w' ⟨rfl, rfl⟩
      go_wp2_with fail
      refine (allowed_any A c l _ HLM.out HS.out).mono ?_
      rintro e w' ⟨rfl, rfl⟩
      go_wp2
      go_ret
      exact ⟨rfl, Below.refl _ _⟩
    | true =>
      have he : fitsOf size l = decide ((szOf l : Int) ≤ size) := by unfold fitsOf; rw [h1, h2]; rfl
      rw [he]
      go_enter Tryd.func41, Tryd.ntmps41
      go_wp2_with fail
      refine (isSize_any _ _).mono ?_
      rintro e w' ⟨rfl, rfl⟩
      go_wp2_with fail
      refine (allowed_any A c l _ HLM.out HS.out).mono ?_
      rintro e w' ⟨rfl, rfl⟩
      go_wp2_with fail
      refine (size_any A c l _ hl HR.out hc HS.out).mono ?_
      rintro e w1 ⟨rfl, hb1⟩
      go_wp2
      go_ret
      exact ⟨rfl, hb1⟩

theorem ofL_append (a b : List UInt8) : ofL a ++ ofL b = ofL (a ++ b) := by
  apply ByteArray.ext
  apply Array.toList_inj.1
  simp [ofL]

set_option maxHeartbeats 1600000 in
set_option maxRecDepth 100000 in
theorem refRun_any (A : Option Addr) (c : Nat) (l : List ByteArray) (j : Nat) (w : World) (hl : l.length ≤ 1000) (hs : StrsA w A l) (hj : j < l.length) :
    Calls Tryd.prog 137 #[.slice A l.length c, .int .i64 j] w fun e w' => e = .returned (.int .i64 ((runLen (l.getD j ByteArray.empty).size (l.drop (j + 1)) + 1 : Nat))) ∧ Below w.heap.size w w' := by
  obtain ⟨b, o, rfl, hb, hcell⟩ := hs (by omega)
  have hc0 := hcell j hj
  obtain ⟨s, hs⟩ : ∃ s, s = l.getD j ByteArray.empty := ⟨_, rfl⟩
  rw [← hs] at hc0 ⊢
  clear hs
  obtain ⟨Q, hQ⟩ : ∃ Q, Q = runLen s.size (l.drop (j + 1)) + 1 := ⟨_, rfl⟩
  have hQn : j + Q ≤ l.length := by
    have := runLen_le s.size (l.drop (j + 1))
    rw [List.length_drop] at this
    omega
  have hQ1 : 1 ≤ Q := by omega
  have HIN : Hid (∀ q, 1 ≤ q → q < Q → (l.getD (j + q) ByteArray.empty).size = s.size) := by
    intro q h1 h2
    have := runLen_in s.size (l.drop (j + 1)) (q - 1) (by omega)
    rw [← this]
    simp [List.getD, show j + 1 + (q - 1) = j + q by omega]
  have HEND : Hid (j + Q < l.length → (l.getD (j + Q) ByteArray.empty).size ≠ s.size) := by
    intro h1 h2
    have := runLen_end s.size (l.drop (j + 1)) (by rw [List.length_drop]; omega)
    apply this
    refine (congrArg ByteArray.size ?_).trans h2
    rw [hQ]
    simp [List.getD, show j + (runLen s.size (l.drop (j + 1)) + 1) = j + 1 + runLen s.size (l.drop (j + 1)) by omega]
  rw [← hQ]
  clear hQ
  have HC := Lib.hid hcell
  clear hcell
  obtain ⟨n, hn⟩ : ∃ n, n = l.length := ⟨_, rfl⟩
  have HNL := Lib.hid hn
  rw [← hn] at hQn hl hj HEND ⊢
  clear hn
  go_enter Tryd.func137, Tryd.ntmps137
  go_wp2
  go_loopw [5] (fun i wq => ∃ q m : Nat, wq = w.drewN m ∧ i = .int .i64 q ∧ 1 ≤ q ∧ q ≤ Q) (fun i _ => n - (intOf i).toNat)
  case atStart => exact ⟨1, 0, rfl, rfl, by omega, by omega⟩
  case round =>
    obtain ⟨q, m, rfl, rfl, hq1, hq2⟩ := hrel
    by_cases hqe : q < Q
    · have hqn : (j : Int) + (q : Int) < (n : Int) := by omega
      have hcq : w.cell? ⟨b, o + (j + q), none⟩ = some (.string (l.getD (j + q) ByteArray.empty)) := HC.out (j + q) (by have := HNL.out; omega)
      have hsz := HIN.out q hq1 hqe
      obtain ⟨t, ht⟩ : ∃ t, t = l.getD (j + q) ByteArray.empty := ⟨_, rfl⟩
      rw [← ht] at hcq hsz
      clear ht
      have hsz' : (((t.size : Nat) : Int) == ((s.size : Nat) : Int)) = true := by simp [hsz]
      clear hsz
      obtain ⟨p, hp⟩ : ∃ p, p = j + q := ⟨_, rfl⟩
      have hjq : IntKind.i64.wrap ((j : Int) + (q : Int)) = (p : Int) := by rw [IntWalk.i64_in _ (by omega)]; omega
      rw [← hp] at hcq
      have hqn' : (p : Int) < (n : Int) := by omega
      clear hqn
      have HP := Lib.hid hp
      clear hp
      go_wp2
      go_quiet (fail)
      go_wp2
      exact ⟨⟨q + 1, m + nq, rfl, by go_num, by omega, by omega⟩, by simp [intOf]; omega⟩
    · obtain rfl : q = Q := by omega
      by_cases hqn : j + q < n
      · have hcq : w.cell? ⟨b, o + (j + q), none⟩ = some (.string (l.getD (j + q) ByteArray.empty)) := HC.out (j + q) (by have := HNL.out; omega)
        have hsz := HEND.out hqn
        obtain ⟨t, ht⟩ : ∃ t, t = l.getD (j + q) ByteArray.empty := ⟨_, rfl⟩
        rw [← ht] at hcq hsz
        clear ht
        have hsz' : (((t.size : Nat) : Int) == ((s.size : Nat) : Int)) = false := by simp only [beq_eq_false_iff_ne, ne_eq]; omega
        clear hsz
        obtain ⟨p, hp⟩ : ∃ p, p = j + q := ⟨_, rfl⟩
        have hjq : IntKind.i64.wrap ((j : Int) + (q : Int)) = (p : Int) := by rw [IntWalk.i64_in _ (by omega)]; omega
        rw [← hp] at hcq
        have hqn' : (p : Int) < (n : Int) := by omega
        clear hqn
        have HP := Lib.hid hp
        clear hp
        go_wp2
        go_quiet (fail)
        go_wp2
        go_ret
        exact ⟨rfl, below_drewN (below_drewN (Below.refl _ _) _) _⟩
      · have hjq : IntKind.i64.wrap ((j : Int) + (q : Int)) = (n : Int) := by rw [IntWalk.i64_in _ (by omega)]; omega
        have HQN := Lib.hid hqn
        clear hqn
        have hd : decide ((n : Int) < (n : Int)) = false := by simp
        go_wp2
        go_quiet (fail)
        go_wp2
        go_ret
        exact ⟨rfl, below_drewN (below_drewN (Below.refl _ _) _) _⟩

theorem conv_three (w : World) (a b c : UInt8) :
    (convert 57 9 (.slice (some ⟨w.heap.size, 0, none⟩) 3 3)).run Tryd.prog (w.alloc (.cells #[.int .u8 (a.toNat : Nat), .int .u8 (b.toNat : Nat), .int .u8 (c.toNat : Nat)] 5)) = .ok (.string (ofL [a, b, c])) (w.alloc (.cells #[.int .u8 (a.toNat : Nat), .int .u8 (b.toNat : Nat), .int .u8 (c.toNat : Nat)] 5)) := by
  have h := conv_bytes (w.alloc (.cells (u8s [a, b, c]) 5)) w.heap.size 0 3 [a, b, c] (fun i hi => by
    rw [Nat.zero_add, cell_of_row _ _ _ _ _ _ (heap_alloc_new w _), u8s_get _ _ hi])
  exact h

set_option maxHeartbeats 800000 in
set_option maxRecDepth 100000 in
theorem refField_any (c n : Nat) (w : World) (hc : c < 256) (hn : n ≤ 1000) :
    Calls Tryd.prog 103 #[.int .i64 c, .int .i64 n] w fun e w' => e = .returned (.string (ofL (fld c n))) ∧ Below w.heap.size w w' := by
  have hcv := conv_three w (UInt8.ofNat c) (UInt8.ofNat n) (UInt8.ofNat (n / 256))
  rw [ofNat_toNat, ofNat_toNat, ofNat_toNat, show ((n / 256 : Nat) : Int) = (n : Int) / 256 by omega, show (c : Int) % 256 = c by omega] at hcv
  go_enter Tryd.func103, Tryd.ntmps103
  go_wp2
  go_ret
  exact ⟨rfl, (Below.refl _ _).alloc (Nat.le_refl _) _⟩

theorem refField_at (c n : Nat) (ii : Int) (w : World) (hi : ii = n) (hc : c < 256) (hn : n ≤ 1000) :
    Calls Tryd.prog 103 #[.int .i64 c, .int .i64 ii] w fun e w' => e = .returned (.string (ofL (fld c n))) ∧ Below w.heap.size w w' := by
  subst hi
  exact refField_any c n w hc hn

theorem zeros_at (k : Nat) (ii : Int) (w : World) (hi : ii = k) (hk : k ≤ 1000) :
    Calls Tryd.prog 88 #[.int .i64 ii] w fun e w' => e = .returned (.string (ofL (List.replicate k 0))) ∧ Below w.heap.size w w' := by
  subst hi
  exact zeros_any k w hk

theorem conv_four (a b c d : Nat) (ia ib ic id : Int) (ha : ia = (a : Int) % 256) (hb : ib = (b : Int) % 256) (hc : ic = (c : Int) % 256) (hd : id = (d : Int) % 256) (w : World) (g : Nat)
    (h : w.heap[g]? = some (.cells #[.int .u8 ia, .int .u8 ib, .int .u8 ic, .int .u8 id] 5 (0, 0))) :
    (convert 57 9 (.slice (some ⟨g, 0, none⟩) 4 4)).run Tryd.prog w = .ok (.string (ofL [UInt8.ofNat a, UInt8.ofNat b, UInt8.ofNat c, UInt8.ofNat d])) w := by
  subst ha; subst hb; subst hc; subst hd
  rw [← ofNat_toNat, ← ofNat_toNat, ← ofNat_toNat, ← ofNat_toNat] at h
  exact conv_bytes w g 0 4 [UInt8.ofNat a, UInt8.ofNat b, UInt8.ofNat c, UInt8.ofNat d] (fun i hi => by
    rw [Nat.zero_add, cell_of_row _ _ _ _ _ _ h]; exact u8s_get _ _ hi)

set_option maxHeartbeats 1600000 in
set_option maxRecDepth 100000 in
theorem whole_any (size : Nat) (c f : List UInt8) (w : World) (hs : size ≤ 1000) (hfit : 4 + c.length + f.length ≤ size) :
    Calls Tryd.prog 97 #[.int .i64 size, .string (ofL c), .string (ofL f)] w fun e w' => e = .returned (.string (ofL (whole size c f))) ∧ Below w.heap.size w w' := by
  have hsc := ofL_size c
  have hsf := ofL_size f
  obtain ⟨cs, hcs⟩ : ∃ cs, cs = ofL c := ⟨_, rfl⟩
  obtain ⟨fs, hfs⟩ : ∃ fs, fs = ofL f := ⟨_, rfl⟩
  rw [← hcs] at hsc ⊢
  rw [← hfs] at hsf ⊢
  obtain ⟨free, hfree⟩ : ∃ k, k = size - 4 - c.length - f.length := ⟨_, rfl⟩
  have hwr : IntKind.i64.wrap ((size : Int) - 4 - (cs.size : Int) - (fs.size : Int)) = (free : Int) := by
    simp only [IntKind.wrap_i64]; omega
  have hwr0 : (size : Int) - 4 - (cs.size : Int) - (fs.size : Int) = (free : Int) := by omega
  have hu1 : IntKind.u8.wrap ((cs.size : Int) % 256) = (cs.size : Int) % 256 := by show ((cs.size : Int) % 256) % 256 = _; omega
  have hu2 : IntKind.u8.wrap ((cs.size : Int) / 256) = (cs.size : Int) / 256 % 256 := rfl
  have hu3 : IntKind.u8.wrap ((free : Int) % 256) = (free : Int) % 256 := by show ((free : Int) % 256) % 256 = _; omega
  have hu4 : IntKind.u8.wrap ((free : Int) / 256) = (free : Int) / 256 % 256 := rfl
  have hi1 : IntKind.i64.wrap ((cs.size : Int) / 256) = (cs.size : Int) / 256 := by rw [IntWalk.i64_in _ (by omega)]
  have hi2 : IntKind.i64.wrap ((free : Int) / 256) = (free : Int) / 256 := by rw [IntWalk.i64_in _ (by omega)]
  have HF : Hid (ofL (whole size c f) = ofL c ++ ofL (List.replicate free 0) ++ ofL f ++ ofL [UInt8.ofNat c.length, UInt8.ofNat (c.length / 256), UInt8.ofNat free, UInt8.ofNat (free / 256)]) := by
    show _ = _
    rw [ofL_append, ofL_append, ofL_append]
    unfold whole
    rw [← hfree]
    simp only [List.append_assoc]
  obtain ⟨res, hres⟩ : ∃ res, res = ofL (whole size c f) := ⟨_, rfl⟩
  rw [← hres] at HF ⊢
  have hcl : cs.size ≤ 1000 := by omega
  have hfl : free ≤ 1000 := by omega
  have HC4 := Lib.hid (conv_four c.length (c.length / 256) free (free / 256))
  have HSC := Lib.hid hsc
  clear hsc hsf hfree hfit hres
  have hm1 : ((cs.size : Nat) : Int).tmod 256 = (cs.size : Int) % 256 := Int.tmod_eq_emod_of_nonneg (by omega)
  have hd1 : ((cs.size : Nat) : Int).tdiv 256 = (cs.size : Int) / 256 := Int.tdiv_eq_ediv_of_nonneg (by omega)
  have hm2 : ((free : Nat) : Int).tmod 256 = (free : Int) % 256 := Int.tmod_eq_emod_of_nonneg (by omega)
  have hd2 : ((free : Nat) : Int).tdiv 256 = (free : Int) / 256 := Int.tdiv_eq_ediv_of_nonneg (by omega)
  have hcv : ∀ (w : World) (g : Nat), w.heap[g]? = some (.cells #[.int .u8 ((cs.size : Int) % 256), .int .u8 ((cs.size : Int) / 256 % 256), .int .u8 ((free : Int) % 256), .int .u8 ((free : Int) / 256 % 256)] 5 (0, 0)) →
      (convert 57 9 (.slice (some ⟨g, 0, none⟩) 4 4)).run Tryd.prog w = .ok (.string (ofL [UInt8.ofNat c.length, UInt8.ofNat (c.length / 256), UInt8.ofNat free, UInt8.ofNat (free / 256)])) w := by
    intro w g h
    exact HC4.out _ _ _ _ (by rw [← HSC.out]) (by rw [← HSC.out]; omega) rfl (by omega) w g h
  obtain ⟨four, hfour⟩ : ∃ x, x = ofL [UInt8.ofNat c.length, UInt8.ofNat (c.length / 256), UInt8.ofNat free, UInt8.ofNat (free / 256)] := ⟨_, rfl⟩
  rw [← hfour] at HF
  simp only [← hfour] at hcv
  have hcv1 : ∀ w : World, (convert 57 9 (.slice (some ⟨w.heap.size, 0, none⟩) 4 4)).run Tryd.prog (w.alloc (.cells #[.int .u8 ((cs.size : Int) % 256), .int .u8 ((cs.size : Int) / 256 % 256), .int .u8 ((free : Int) % 256), .int .u8 ((free : Int) / 256 % 256)] 5)) =
      .ok (.string four) (w.alloc (.cells #[.int .u8 ((cs.size : Int) % 256), .int .u8 ((cs.size : Int) / 256 % 256), .int .u8 ((free : Int) % 256), .int .u8 ((free : Int) / 256 % 256)] 5)) := fun w => hcv _ _ (heap_alloc_new w _)
  have hcv3 : ∀ w : World, (convert 57 9 (.slice (some ⟨w.heap.size, 0, none⟩) 4 4)).run Tryd.prog (w.alloc (.cells #[.int .u8 ((cs.size : Int) % 256), .int .u8 ((cs.size : Int) / 256 % 256), .int .u8 ((free : Int) % 256), .int .u8 ((free : Int) / 256 % 256)] 5)).drew =
      .ok (.string four) (w.alloc (.cells #[.int .u8 ((cs.size : Int) % 256), .int .u8 ((cs.size : Int) / 256 % 256), .int .u8 ((free : Int) % 256), .int .u8 ((free : Int) / 256 % 256)] 5)).drew := fun w => hcv _ _ (heap_alloc_new w _)
  obtain ⟨zs, hzs⟩ : ∃ x, x = ofL (List.replicate free 0) := ⟨_, rfl⟩
  rw [← hzs, ← hcs, ← hfs] at HF
  have HZ : Hid (∀ w', Calls Tryd.prog 88 #[.int .i64 free] w' fun e w'' => e = .returned (.string zs) ∧ Below w'.heap.size w' w'') := by
    show ∀ _, _
    intro w'
    rw [hzs]
    exact zeros_any free w' hfl
  have hz4 : four.size = 4 := by rw [hfour, ofL_size]; rfl
  have hzz : zs.size = free := by rw [hzs, ofL_size, List.length_replicate]
  obtain ⟨s1, hs1⟩ : ∃ x, x = cs ++ zs := ⟨_, rfl⟩
  obtain ⟨s2, hs2⟩ : ∃ x, x = s1 ++ fs := ⟨_, rfl⟩
  have hs1z : s1.size = cs.size + zs.size := by rw [hs1, ByteArray.size_append]
  have hs2z : s2.size = s1.size + fs.size := by rw [hs2, ByteArray.size_append]
  have hfz : fs.size ≤ 1000 := by omega
  have ha1 : ∀ w, (Op.stringOp .add cs zs).run Tryd.prog w = .ok (.string s1) w := fun w => by rw [hs1]; exact run_string_add_sum w _ _ (by omega)
  have ha2 : ∀ w, (Op.stringOp .add s1 fs).run Tryd.prog w = .ok (.string s2) w := fun w => by rw [hs2]; exact run_string_add_sum w _ _ (by omega)
  have ha3 : ∀ w, (Op.stringOp .add s2 four).run Tryd.prog w = .ok (.string res) w := fun w => by
    rw [show res = s2 ++ four by rw [hs2, hs1]; exact HF.out]; exact run_string_add_sum w _ _ (by omega)
  clear hfour hzs HC4 HSC hcs hfs hz4 hzz hs1 hs2 hs1z hs2z HF
  go_enter Tryd.func97, Tryd.ntmps97
  go_wp2
  go_region_held (fun _ => True) (trivial) (first | (go_at_call 88; refine (HZ.out _).mono ?_; rintro e w2 ⟨rfl, hb2⟩; have hcv2 := hcv w2 w.heap.size ((hb2.block _ (by simp)).trans (heap_alloc_new w _))) | (go_at_call 88; refine (HZ.out _).mono ?_; rintro e w2 ⟨rfl, hb2⟩))
  all_goals
    go_wp2
    go_ret
    first
    | exact ⟨rfl, ((Below.refl _ _).drew.trans hb2).alloc ((Below.refl _ _).drew.trans hb2).size _⟩
    | exact ⟨rfl, bstep (((Below.refl _ _).alloc (Nat.le_refl _) _).drew) hb2⟩
end Go.Proofs.YtnkhifgppcnmkaaDoor

/- Walks: the reference's fields, join, Size, Fits, Encode. -/
namespace Go.Proofs.YtnkhifgppcnmkaaDoor
open Go.RowKit Iv

theorem fieldsOf_snoc (l : List ByteArray) (k : Nat) (r : Nat × Nat) (h : (runsOf l)[k]? = some r) : ((runsOf l).take (k + 1)).foldl addRun [] = addRun (((runsOf l).take k).foldl addRun []) r := by
  obtain ⟨hlt, hrk⟩ := List.getElem?_eq_some_iff.1 h
  rw [List.take_succ_eq_append_getElem hlt, List.foldl_append, hrk]; rfl

theorem run_at (l : List ByteArray) (j k : Nat) (hj : j < l.length) (h : runsOf (l.drop j) = (runsOf l).drop k) :
    (runsOf l)[k]? = some (runLen (l.getD j ByteArray.empty).size (l.drop (j + 1)) + 1, (l.getD j ByteArray.empty).size) ∧
    runsOf (l.drop (j + (runLen (l.getD j ByteArray.empty).size (l.drop (j + 1)) + 1))) = (runsOf l).drop (k + 1) := by
  rw [drop_cons_getD l j hj, runsOf_cons, List.drop_drop] at h
  have h2 : (runsOf l).drop k = (runLen (l.getD j ByteArray.empty).size (l.drop (j + 1)) + 1, (l.getD j ByteArray.empty).size) :: (runsOf l).drop (k + 1) := by
    have hlt : k < (runsOf l).length := by
      rcases Nat.lt_or_ge k (runsOf l).length with h' | h'
      · exact h'
      · rw [List.drop_eq_nil_of_le h'] at h; cases h
    rw [List.drop_eq_getElem_cons hlt] at h ⊢
    injection h with h3 h4
    rw [← h3]
  rw [h2] at h
  injection h with h3 h4
  refine ⟨?_, by rw [← h4]; congr 2; omega⟩
  rw [← List.head?_drop, h2]
  rfl

set_option maxHeartbeats 6400000 in
set_option maxRecDepth 100000 in
theorem refFields_any (A : Option Addr) (c : Nat) (l : List ByteArray) (w : World) (hl : l.length ≤ 1000) (hr : ∀ s ∈ l, s.size ≤ 1000) (hs : StrsA w A l) :
    Calls Tryd.prog 99 #[.slice A l.length c] w fun e w' => e = .returned (.string (ofL (fieldsOf l))) ∧ Below w.heap.size w w' := by
  have HS := Lib.hid hs
  have HR := Lib.hid hr
  clear hs hr
  go_enter Tryd.func99, Tryd.ntmps99
  go_wp2
  go_loopw [3, 4] (fun x y wr => ∃ k j : Nat, x = .string (ofL (((runsOf l).take k).foldl addRun [])) ∧ y = .int .i64 j ∧ k ≤ (runsOf l).length ∧ j ≤ l.length ∧ runsOf (l.drop j) = (runsOf l).drop k ∧ Below w.heap.size w wr) (fun _ y _ => l.length - (intOf y).toNat)
  case atStart => exact ⟨0, 0, rfl, rfl, by omega, by omega, rfl, Below.refl _ _⟩
  case round =>
    obtain ⟨k, j, rfl, rfl, hk, hj, hrun, hb⟩ := hrel
    have HB := Lib.hid hb
    clear hb
    by_cases hlt : j < l.length
    · have HK := Lib.hid (run_at l j k hlt hrun)
      have HSK := Lib.hid (fieldsOf_snoc l k _ HK.out.1)
      have hS2 := HS.out.keep HB.out
      have HS2 := Lib.hid hS2
      obtain ⟨b, o, rfl, hbl, hcell⟩ := hS2 (by omega)
      have hcj := hcell j hlt
      have hQl := runLen_le (l.getD j ByteArray.empty).size (l.drop (j + 1))
      rw [List.length_drop] at hQl
      have HPF := Lib.hid (fields_prefix l k)
      have HPF2 := Lib.hid (fields_prefix l (k + 1))
      have HFB := Lib.hid (fields_bound l)
      obtain ⟨s, hs⟩ : ∃ s, s = l.getD j ByteArray.empty := ⟨_, rfl⟩
      have hsz : s.size ≤ 1000 := by
        rw [hs]
        have : l.getD j ByteArray.empty = l[j] := by simp [List.getD, hlt]
        rw [this]; exact HR.out _ (List.getElem_mem hlt)
      have HRUN := Lib.hid (refRun_any (some ⟨b, o, none⟩) c l j wr hl HS2.out hlt)
      rw [← hs] at hcj HK HSK hQl HRUN
      clear hs hcell hrun
      obtain ⟨Q, hQ⟩ : ∃ Q, Q = runLen s.size (l.drop (j + 1)) + 1 := ⟨_, rfl⟩
      rw [← hQ] at HK HSK HRUN
      have hQ1 : 1 ≤ Q := by omega
      have hQ2 : j + Q ≤ l.length := by omega
      clear hQ hQl
      obtain ⟨out, hout⟩ : ∃ out, out = ((runsOf l).take k).foldl addRun [] := ⟨_, rfl⟩
      rw [← hout] at HSK HPF ⊢
      clear hout
      have hol : (ofL out).size ≤ 6000 := by rw [ofL_size]; have := HPF.out; have := HFB.out; omega
      obtain ⟨os, hos⟩ : ∃ os, os = ofL out := ⟨_, rfl⟩
      rw [← hos] at hol ⊢
      have HOS := Lib.hid hos
      clear hos
      go_wp2_with fail
      refine HRUN.out.mono ?_
      rintro e w1 ⟨rfl, hb1⟩
      have hcj1 := (hb1.cell (p := ⟨b, o + j, none⟩) hbl).trans hcj
      have hbl1 : b < w1.heap.size := Nat.lt_of_lt_of_le hbl hb1.size
      clear hcj hbl
      have hkl : k + 1 ≤ (runsOf l).length := (List.getElem?_eq_some_iff.1 HK.out.1).1
      have HQ2 := Lib.hid hQ2
      have hjn : (j : Int) + (Q : Int) ≤ 1000 := by omega
      by_cases hQe : Q = 1
      · have hQd : decide ((1 : Int) < (Q : Int)) = false := by simp only [decide_eq_false_iff_not]; omega
        have hQd' : ¬ ((1 : Int) < (Q : Int)) := by omega
        have hf3 : (ofL (fld 0 s.size)).size = 3 := by rw [ofL_size]; rfl
        obtain ⟨fs, hfs⟩ : ∃ fs, fs = ofL (fld 0 s.size) := ⟨_, rfl⟩
        rw [← hfs] at hf3
        obtain ⟨s1, hs1⟩ : ∃ x, x = fs ++ os := ⟨_, rfl⟩
        have ha1 : ∀ w, (Op.stringOp .add fs os).run Tryd.prog w = .ok (.string s1) w := fun w => by
          rw [run_string_add_sum w _ _ (by omega), hs1]
        have HE : Hid (s1 = ofL (addRun out (Q, s.size))) := by
          show _ = _
          rw [hs1, hfs, HOS.out, ofL_append, hQe]; rfl
        have HF1 : Hid (∀ w', Calls Tryd.prog 103 #[.int .i64 0, .int .i64 s.size] w' fun e w'' => e = .returned (.string fs) ∧ Below w'.heap.size w' w'') := by
          show ∀ _, _
          intro w'; rw [hfs]; exact refField_any 0 s.size w' (by omega) hsz
        clear hfs hs1 hf3 hQe hQ2
        go_wp2_with fail
        refine (HF1.out _).mono ?_
        rintro e w2 ⟨rfl, hb2⟩
        go_wp2
        refine ⟨⟨k + 1, j + Q, by rw [HSK.out, HE.out], by go_num, hkl, HQ2.out, HK.out.2, bstep (bstep HB.out hb1) hb2⟩, by simp [intOf]; omega⟩
      · have hQg : 1 < (Q : Int) := by omega
        have hf3 : (ofL (fld 8 Q)).size = 3 := by rw [ofL_size]; rfl
        have hg3 : (ofL (fld 64 s.size)).size = 3 := by rw [ofL_size]; rfl
        obtain ⟨fs, hfs⟩ : ∃ fs, fs = ofL (fld 8 Q) := ⟨_, rfl⟩
        obtain ⟨gs, hgs⟩ : ∃ gs, gs = ofL (fld 64 s.size) := ⟨_, rfl⟩
        rw [← hfs] at hf3
        rw [← hgs] at hg3
        obtain ⟨s1, hs1⟩ : ∃ x, x = fs ++ gs := ⟨_, rfl⟩
        have hs1z : s1.size = fs.size + gs.size := by rw [hs1, ByteArray.size_append]
        obtain ⟨s2, hs2⟩ : ∃ x, x = s1 ++ os := ⟨_, rfl⟩
        have ha1 : ∀ w, (Op.stringOp .add fs gs).run Tryd.prog w = .ok (.string s1) w := fun w => by rw [hs1]; exact run_string_add_sum w _ _ (by omega)
        have ha2 : ∀ w, (Op.stringOp .add s1 os).run Tryd.prog w = .ok (.string s2) w := fun w => by
          rw [run_string_add_sum w _ _ (by omega), hs2]
        have HE : Hid (s2 = ofL (addRun out (Q, s.size))) := by
          show _ = _
          rw [hs2, hs1, hfs, hgs, HOS.out, ofL_append, ofL_append]
          unfold addRun
          rw [if_neg hQe, List.append_assoc]
        have HF1 : Hid (∀ w', Calls Tryd.prog 103 #[.int .i64 8, .int .i64 Q] w' fun e w'' => e = .returned (.string fs) ∧ Below w'.heap.size w' w'') := by
          show ∀ _, _
          intro w'; rw [hfs]; exact refField_any 8 Q w' (by omega) (by omega)
        have HF2 : Hid (∀ w', Calls Tryd.prog 103 #[.int .i64 64, .int .i64 s.size] w' fun e w'' => e = .returned (.string gs) ∧ Below w'.heap.size w' w'') := by
          show ∀ _, _
          intro w'; rw [hgs]; exact refField_any 64 s.size w' (by omega) hsz
        clear hs1 hs2 hfs hgs hs1z hf3 hg3 hQe hQ2
        have HB1 := Lib.hid (bstep HB.out hb1)
        clear hb1
        go_wp2
        go_region_held3 (fun w' => w'.cell? ⟨b, o + j, none⟩ = some (.string s)) (first | exact (hBB.cell (p := ⟨b, o + j, none⟩) hbl1).trans hcj1 | exact hcj1) (first | (go_at_call 103; with_reducible_and_instances refine (HF1.out _).mono ?_; rintro e w2 ⟨rfl, hbF⟩; first | have hBB := bstep hBB hbF | have hBB := bstep ((Below.refl _ w1).drew) hbF) | (go_at_call 103; with_reducible_and_instances refine (HF2.out _).mono ?_; rintro e w3 ⟨rfl, hbF⟩; first | have hBB := bstep hBB hbF | have hBB := bstep ((Below.refl _ w1).drew) hbF))
        all_goals
          go_wp2
          refine ⟨⟨k + 1, j + Q, by rw [HSK.out, HE.out], by go_num, hkl, HQ2.out, HK.out.2, bstep HB1.out hBB⟩, by simp [intOf]; omega⟩
    · have : j = l.length := by omega
      subst this
      have h := hrun
      rw [List.drop_length] at h
      rw [show runsOf [] = [] by rw [runsOf]] at h
      have hk' : (runsOf l).length ≤ k := List.drop_eq_nil_iff.1 h.symm
      obtain rfl : k = (runsOf l).length := by omega
      rw [List.take_length]
      go_wp2
      go_ret
      exact ⟨rfl, HB.out⟩
end Go.Proofs.YtnkhifgppcnmkaaDoor

/- Walks: the reference's join, Size, Fits, Encode. -/
namespace Go.Proofs.YtnkhifgppcnmkaaDoor
open Go.RowKit Iv

set_option maxHeartbeats 1600000 in
set_option maxRecDepth 100000 in
theorem join_any (A : Option Addr) (c : Nat) (l : List ByteArray) (w : World) (hl : l.length ≤ 1000) (hr : ∀ s ∈ l, s.size ≤ 1000) (hs : StrsA w A l) :
    Calls Tryd.prog 98 #[.slice A l.length c] w fun e w' => e = .returned (.string (ofL (content l))) ∧ w' = w := by
  have HS := Lib.hid hs
  have HR := Lib.hid hr
  have HCB := Lib.hid (content_bound l 1000 hr)
  clear hs hr
  go_enter Tryd.func98, Tryd.ntmps98
  go_wp2
  go_loop [3, 4] (fun x y => ∃ k : Nat, k ≤ l.length ∧ x = .string (ofL (content (l.take k))) ∧ y = .int .i64 k) (fun _ y => l.length - (intOf y).toNat)
  case atStart => exact ⟨0, by omega, rfl, rfl⟩
  case round =>
    obtain ⟨k, hk, rfl, rfl⟩ := hrel
    by_cases hlt : k < l.length
    · obtain ⟨b, o, rfl, hbl, hcell⟩ := HS.out (by omega)
      have hck := hcell k hlt
      have HT := Lib.hid (content_take l k hlt)
      have HPF := Lib.hid (content_prefix l k)
      have HPF2 := Lib.hid (content_prefix l (k + 1))
      obtain ⟨s, hs⟩ : ∃ s, s = l.getD k ByteArray.empty := ⟨_, rfl⟩
      rw [← hs] at hck HT
      obtain ⟨xs, hxs⟩ : ∃ x, x = ofL (content (l.take k)) := ⟨_, rfl⟩
      rw [← hxs]
      have ha1 : ∀ w, (Op.stringOp .add xs s).run Tryd.prog w = .ok (.string (ofL (content (l.take (k + 1))))) w := fun w => by
        rw [run_string_add_sum w _ _ ?_, HT.out, ← ofL_append, ofL_toList, hxs]
        have h1 := HPF2.out
        rw [HT.out, List.length_append] at h1
        have h2 := HCB.out
        have e : s.data.toList.length = s.size := by simp
        rw [hxs, ofL_size]
        omega
      have HA := Lib.hid ha1
      obtain ⟨ys, hys⟩ : ∃ x, x = ofL (content (l.take (k + 1))) := ⟨_, rfl⟩
      rw [← hys] at ha1
      have HY := Lib.hid hys
      clear hcell hs hxs hys
      go_wp2
      exact ⟨⟨k + 1, by omega, by rw [HY.out], by go_num⟩, by simp [intOf]; omega⟩
    · have hkl : k = l.length := by omega
      rw [List.take_of_length_le (by omega)]
      go_wp2
      go_ret
      exact ⟨rfl, rfl⟩

set_option maxHeartbeats 1600000 in
set_option maxRecDepth 100000 in
theorem refSize_any (A : Option Addr) (c : Nat) (l : List ByteArray) (w : World) (hl : l.length ≤ 1000) (hr : ∀ s ∈ l, s.size ≤ 1000) (hs : StrsA w A l) :
    Calls Tryd.prog 40 #[.slice A l.length c] w fun e w' => e = .returned (.int .i64 (szOf l)) ∧ Below w.heap.size w w' := by
  have HS := Lib.hid hs
  have HR := Lib.hid hr
  have HCB := Lib.hid (content_bound l 1000 hr)
  have HFB := Lib.hid (fields_bound l)
  have HSZ := Lib.hid (sizes l)
  have HFL := Lib.hid (ofL_size (fieldsOf l))
  clear hs hr
  obtain ⟨fs, hfs⟩ : ∃ fs, fs = ofL (fieldsOf l) := ⟨_, rfl⟩
  rw [← hfs] at HFL
  have HF : Hid (∀ w', StrsA w' A l → Calls Tryd.prog 99 #[.slice A l.length c] w' fun e w'' => e = .returned (.string fs) ∧ Below w'.heap.size w' w'') := by
    show ∀ _, _
    intro w' h
    rw [hfs]
    exact refFields_any A c l w' hl HR.out h
  clear hfs
  have hfb : fs.size ≤ 6000 := by have := HFL.out; have := HFB.out; omega
  go_enter Tryd.func40, Tryd.ntmps40
  go_wp2_with fail
  refine (HF.out _ HS.out).mono ?_
  rintro e w1 ⟨rfl, hb1⟩
  have HB1 := Lib.hid hb1
  clear hb1
  go_wp2
  go_loop [3, 4] (fun x y => ∃ k : Nat, k ≤ l.length ∧ x = .int .i64 ((4 + fs.size + (content (l.take k)).length : Nat)) ∧ y = .int .i64 k) (fun _ y => l.length - (intOf y).toNat)
  case atStart => exact ⟨0, by omega, by go_num, rfl⟩
  case round =>
    obtain ⟨k, hk, rfl, rfl⟩ := hrel
    obtain ⟨n, hn⟩ : ∃ n, n = 4 + fs.size + (content (l.take k)).length := ⟨_, rfl⟩
    rw [← hn]
    have HPF := Lib.hid (content_prefix l k)
    have hnb : n ≤ 10000000 := by have := HPF.out; have := HCB.out; omega
    by_cases hlt : k < l.length
    · obtain ⟨b, o, rfl, hbl, hcell⟩ := (HS.out.keep HB1.out) (by omega)
      have hck := hcell k hlt
      have HT := Lib.hid (content_take l k hlt)
      have HPF2 := Lib.hid (content_prefix l (k + 1))
      obtain ⟨s, hs⟩ : ∃ s, s = l.getD k ByteArray.empty := ⟨_, rfl⟩
      rw [← hs] at hck HT
      have HE : Hid (4 + fs.size + (content (l.take (k + 1))).length = n + s.size) := by
        show _ = _
        have e : s.data.toList.length = s.size := by simp
        rw [HT.out, List.length_append, hn]
        omega
      have hsb : s.size ≤ 10000000 := by have := HE.out; have := HPF2.out; have := HCB.out; omega
      have HN := Lib.hid hn
      clear hcell hs hn
      go_wp2
      exact ⟨⟨k + 1, by omega, by rw [HE.out]; go_num, by go_num⟩, by simp [intOf]; omega⟩
    · have hkl : k = l.length := by omega
      have HE : Hid (n = szOf l) := by
        show _ = _
        rw [hn, HSZ.out, List.take_of_length_le (by omega)]
        have := HFL.out
        omega
      clear hn
      go_wp2
      go_ret
      exact ⟨ret_int (by rw [HE.out]), HB1.out⟩

set_option maxHeartbeats 1600000 in
theorem refFits_any (size : Int) (A : Option Addr) (c : Nat) (l : List ByteArray) (w : World) (hl : l.length ≤ 1000) (hr : ∀ s ∈ l, s.size ≤ 1000) (hs : StrsA w A l) :
    Calls Tryd.prog 42 #[.int .i64 size, .slice A l.length c] w fun e w' => e = .returned (.bool (fitsOf size l)) ∧ Below w.heap.size w w' := by
  have HS := Lib.hid hs
  have HR := Lib.hid hr
  have hlm : l.length ≤ maxLen := by unfold maxLen; omega
  have HLM := Lib.hid hlm
  clear hs hr hlm
  cases h1 : isSz size with
  | false =>
    have he : fitsOf size l = false := by unfold fitsOf; rw [h1]; rfl
    rw [he]
    go_enter Tryd.func42, Tryd.ntmps42
    go_wp2_with fail
    refine (refIsSize_any _ _).mono ?_
    rintro e w' ⟨rfl, rfl⟩
    go_wp2
    go_ret
    exact ⟨rfl, Below.refl _ _⟩
  | true =>
    cases h2 : okRec l with
    | false =>
      have he : fitsOf size l = false := by unfold fitsOf; rw [h1, h2]; rfl
      rw [he]
      go_enter Tryd.func42, Tryd.ntmps42
      go_wp2_with fail
      refine (refIsSize_any _ _).mono ?_
      rintro e w' ⟨rfl, rfl⟩
      go_wp2_with fail
      refine (refAllowed_any A c l _ HLM.out HS.out).mono ?_
      rintro e w' ⟨rfl, rfl⟩
      go_wp2
      go_ret
      exact ⟨rfl, Below.refl _ _⟩
    | true =>
      have he : fitsOf size l = decide ((szOf l : Int) ≤ size) := by unfold fitsOf; rw [h1, h2]; rfl
      rw [he]
      go_enter Tryd.func42, Tryd.ntmps42
      go_wp2_with fail
      refine (refIsSize_any _ _).mono ?_
      rintro e w' ⟨rfl, rfl⟩
      go_wp2_with fail
      refine (refAllowed_any A c l _ HLM.out HS.out).mono ?_
      rintro e w' ⟨rfl, rfl⟩
      go_wp2_with fail
      refine (refSize_any A c l _ hl HR.out HS.out).mono ?_
      rintro e w1 ⟨rfl, hb1⟩
      go_wp2
      go_ret
      exact ⟨rfl, hb1⟩

theorem whole_at (size : Nat) (ii : Int) (c f : List UInt8) (w : World) (hi : ii = size) (hs : size ≤ 1000) (hfit : 4 + c.length + f.length ≤ size) :
    Calls Tryd.prog 97 #[.int .i64 ii, .string (ofL c), .string (ofL f)] w fun e w' => e = .returned (.string (ofL (whole size c f))) ∧ Below w.heap.size w w' := by
  subst hi
  exact whole_any size c f w hs hfit

set_option maxHeartbeats 3200000 in
theorem refEncode_any (size : Int) (A : Option Addr) (c : Nat) (l : List ByteArray) (w : World) (hl : l.length ≤ 1000) (hr : ∀ s ∈ l, s.size ≤ 1000) (hs : StrsA w A l) :
    Calls Tryd.prog 38 #[.int .i64 size, .slice A l.length c] w fun e w' => e = .returned (.tuple #[.string (encodeOf size l).1, .int .i64 (encodeOf size l).2]) ∧ Below w.heap.size w w' := by
  have HS := Lib.hid hs
  have HR := Lib.hid hr
  have hlm : l.length ≤ maxLen := by unfold maxLen; omega
  have HLM := Lib.hid hlm
  clear hs hr hlm
  cases h1 : isSz size with
  | false =>
    have he : encodeOf size l = (ByteArray.empty, 1) := by unfold encodeOf; rw [if_pos h1]
    rw [he]
    go_enter Tryd.func38, Tryd.ntmps38
    go_wp2_with fail
    refine (refIsSize_any _ _).mono ?_
    rintro e w' ⟨rfl, rfl⟩
    go_wp2
    go_ret2
    exact ⟨rfl, Below.refl _ _⟩
  | true =>
    cases h2 : okRec l with
    | false =>
      have he : encodeOf size l = (ByteArray.empty, 2) := by unfold encodeOf; rw [if_neg (by simp [h1]), if_pos h2]
      rw [he]
      go_enter Tryd.func38, Tryd.ntmps38
      go_wp2_with fail
      refine (refIsSize_any _ _).mono ?_
      rintro e w' ⟨rfl, rfl⟩
      go_wp2_with fail
      refine (refAllowed_any A c l _ HLM.out HS.out).mono ?_
      rintro e w' ⟨rfl, rfl⟩
      go_wp2
      go_ret2
      exact ⟨rfl, Below.refl _ _⟩
    | true =>
      by_cases h3 : size < (szOf l : Int)
      · have he : encodeOf size l = (ByteArray.empty, 8) := by unfold encodeOf; rw [if_neg (by simp [h1]), if_neg (by simp [h2]), if_pos h3]
        rw [he]
        go_enter Tryd.func38, Tryd.ntmps38
        go_wp2_with fail
        refine (refIsSize_any _ _).mono ?_
        rintro e w' ⟨rfl, rfl⟩
        go_wp2_with fail
        refine (refAllowed_any A c l _ HLM.out HS.out).mono ?_
        rintro e w' ⟨rfl, rfl⟩
        go_wp2_with fail
        refine (refSize_any A c l _ hl HR.out HS.out).mono ?_
        rintro e w1 ⟨rfl, hb1⟩
        go_wp2
        go_ret2
        exact ⟨rfl, hb1⟩
      · have he : encodeOf size l = (ofL (whole size.toNat (content l) (fieldsOf l)), 0) := by unfold encodeOf; rw [if_neg (by simp [h1]), if_neg (by simp [h2]), if_neg h3]
        rw [he]
        have hn : size = (size.toNat : Int) ∧ size.toNat ≤ 512 := by
          rcases isSz_cases h1 with h | h | h <;> subst h <;> exact ⟨rfl, by decide⟩
        have HN := Lib.hid hn
        have hsum : 4 + (content l).length + (fieldsOf l).length ≤ size.toNat := by have := sizes l; omega
        have HSUM := Lib.hid hsum
        clear hsum he hn
        have HF1 : Hid (∀ w', StrsA w' A l → Calls Tryd.prog 98 #[.slice A l.length c] w' fun e w'' => e = .returned (.string (ofL (content l))) ∧ w'' = w') := fun w' h => join_any A c l w' hl HR.out h
        have HF2 : Hid (∀ w', StrsA w' A l → Calls Tryd.prog 99 #[.slice A l.length c] w' fun e w'' => e = .returned (.string (ofL (fieldsOf l))) ∧ Below w'.heap.size w' w'') := fun w' h => refFields_any A c l w' hl HR.out h
        have HF3 : Hid (∀ w', Calls Tryd.prog 97 #[.int .i64 size, .string (ofL (content l)), .string (ofL (fieldsOf l))] w' fun e w'' => e = .returned (.string (ofL (whole size.toNat (content l) (fieldsOf l)))) ∧ Below w'.heap.size w' w'') := fun w' => whole_at size.toNat size _ _ w' HN.out.1 (by have := HN.out.2; omega) HSUM.out
        go_enter Tryd.func38, Tryd.ntmps38
        go_wp2_with fail
        refine (refIsSize_any _ _).mono ?_
        rintro e w' ⟨rfl, rfl⟩
        go_wp2_with fail
        refine (refAllowed_any A c l _ HLM.out HS.out).mono ?_
        rintro e w' ⟨rfl, rfl⟩
        go_wp2_with fail
        refine (refSize_any A c l _ hl HR.out HS.out).mono ?_
        rintro e w1 ⟨rfl, hb1⟩
        go_wp2_with fail
        refine (HF1.out _ (HS.out.keep hb1)).mono ?_
        rintro e w2 ⟨rfl, rfl⟩
        go_wp2_with fail
        refine (HF2.out _ (HS.out.keep hb1)).mono ?_
        rintro e w3 ⟨rfl, hb3⟩
        go_wp2_with fail
        refine (HF3.out _).mono ?_
        rintro e w4 ⟨rfl, hb4⟩
        go_wp2
        go_ret2
        exact ⟨rfl, bstep (bstep hb1 hb3) hb4⟩
end Go.Proofs.YtnkhifgppcnmkaaDoor

/- Walks: Decode's closure 'take'. -/
namespace Go.Proofs.YtnkhifgppcnmkaaDoor
open Go.RowKit Iv

/-- A slice of strings that the call owns. -/
def OwnS (B : Nat) (w : World) (v : Value) (l : List ByteArray) : Prop := w.ownsRow B 9 1 v l.length (l.map Value.string)

/-- Decode's boxes: where the records end (gA), the size (gS), the records (gO), the text (gD). -/
structure DS (w0 w : World) (gA gS gO gD : Nat) (size : Nat) (d : ByteArray) (v : Value) (l : List ByteArray) (a : Nat) : Prop where
  ca : w.heap[gA]? = some (.cells #[.int .i64 a] 3 (0, 0))
  cs : w.heap[gS]? = some (.cells #[.int .i64 size] 3 (0, 0))
  co : w.heap[gO]? = some (.cells #[v] 31 (0, 0))
  cd : w.heap[gD]? = some (.cells #[.string d] 9 (0, 0))
  own : OwnS w0.heap.size w v l
  nA : v.ownBlock ≠ some gA
  nS : v.ownBlock ≠ some gS
  nO : v.ownBlock ≠ some gO
  nD : v.ownBlock ≠ some gD
  lA : w0.heap.size ≤ gA
  lO : w0.heap.size ≤ gO
  nAS : gA ≠ gS
  nAO : gA ≠ gO
  nAD : gA ≠ gD
  nOS : gO ≠ gS
  nOD : gO ≠ gD
  bel : Below w0.heap.size w0 w

set_option maxRecDepth 100000 in
theorem info9 : ∃ i, Tryd.prog.info? 9 = some i ∧ i.zero = some (.string ByteArray.empty) ∧ i.size = 1 ∧ i.bytes = 16 := by
  refine ⟨_, rfl, ?_, ?_, ?_⟩ <;> kernel_rfl

section
variable {w0 w : World} {gA gS gO gD size a : Nat} {d : ByteArray} {v : Value} {l : List ByteArray}
theorem DS.drew (h : DS w0 w gA gS gO gD size d v l a) : DS w0 w.drew gA gS gO gD size d v l a :=
  ⟨h.ca, h.cs, h.co, h.cd, h.own, h.nA, h.nS, h.nO, h.nD, h.lA, h.lO, h.nAS, h.nAO, h.nAD, h.nOS, h.nOD, h.bel.drew⟩

theorem DS.keep (h : DS w0 w gA gS gO gD size d v l a) {w' : World} (hb : Below w.heap.size w w') : DS w0 w' gA gS gO gD size d v l a := by
  have hk : ∀ {g : Nat} {o : Obj}, w.heap[g]? = some o → w'.heap[g]? = some o := fun hg => (hb.block _ (blk_lt hg)).trans hg
  refine ⟨hk h.ca, hk h.cs, hk h.co, hk h.cd, ?_, h.nA, h.nS, h.nO, h.nD, h.lA, h.lO, h.nAS, h.nAO, h.nAD, h.nOS, h.nOD, bstep h.bel hb⟩
  refine World.ownsRow.kept h.own (row := none) ⟨hb.os, hb.tape, hb.output, hb.size, fun k hk _ => hb.block k hk⟩ ?_
  cases v.ownBlock <;> simp

theorem own_list (l : List ByteArray) (x : ByteArray) : l.map Value.string ++ [Value.string x] = (l ++ [x]).map Value.string := by simp

/-- Behind an append: the new slice is stored into its box. -/
theorem DS.appended (h : DS w0 w gA gS gO gD size d v l a) {w1 : World} {g cap : Nat} {x : ByteArray}
    (hown : w1.ownsRow w0.heap.size 9 1 (.slice (some ⟨g, 0, none⟩) (l.length + 1) cap) (l.length + 1) (l.map Value.string ++ [Value.string x]))
    (hgrow : w.grownBy w1 v.ownBlock) (hat : v.ownBlock = some g ∨ g = w.heap.size) :
    DS w0 (w1.setCell ⟨gO, 0, none⟩ (.slice (some ⟨g, 0, none⟩) (l.length + 1) cap)) gA gS gO gD size d (.slice (some ⟨g, 0, none⟩) (l.length + 1) cap) (l ++ [x]) a := by
  have far : ∀ {k : Nat} {o : Obj}, w.heap[k]? = some o → v.ownBlock ≠ some k → w1.heap[k]? = some o ∧ g ≠ k := fun hk hne => by
    refine ⟨(hgrow.block _ (blk_lt hk) (Ne.symm hne)).trans hk, ?_⟩
    rintro rfl
    rcases hat with h1 | h1
    · exact hne h1
    · have := blk_lt hk; omega
  obtain ⟨hA, nA⟩ := far h.ca h.nA
  obtain ⟨hS, nS⟩ := far h.cs h.nS
  obtain ⟨hO, nO⟩ := far h.co h.nO
  obtain ⟨hD, nD⟩ := far h.cd h.nD
  have hb1 : Below w0.heap.size w0 w1 := ⟨hgrow.os.trans h.bel.os, hgrow.tape.trans h.bel.tape, hgrow.output.trans h.bel.output, Nat.le_trans h.bel.size hgrow.size, fun k hk => by
    refine (hgrow.block k (Nat.lt_of_lt_of_le hk h.bel.size) ?_).trans (h.bel.block k hk)
    intro hv
    have := (World.ownsRow.lt h.own k hv.symm).1
    omega⟩
  refine ⟨?_, ?_, ?_, ?_, ?_, ?_, ?_, ?_, ?_, h.lA, h.lO, h.nAS, h.nAO, h.nAD, h.nOS, h.nOD, ?_⟩
  · rw [heap_setCell_other _ _ _ _ h.nAO]; exact hA
  · rw [heap_setCell_other _ _ _ _ (Ne.symm h.nOS)]; exact hS
  · rw [heap_setCell_same _ _ _ _ _ _ hO]; rfl
  · rw [heap_setCell_other _ _ _ _ (Ne.symm h.nOD)]; exact hD
  · have hg : w1.grownBy (w1.setCell ⟨gO, 0, none⟩ (.slice (some ⟨g, 0, none⟩) (l.length + 1) cap)) (some gO) :=
      ⟨rfl, rfl, rfl, by simp [World.setCell], fun k _ hn => Below.heap_setCell _ _ _ _ (fun e => hn (by rw [e]))⟩
    have := World.ownsRow.kept hown hg (.inr (by simpa [Value.ownBlock] using nO))
    rw [own_list] at this
    unfold OwnS
    rw [List.length_append]
    exact this
  · simpa [Value.ownBlock] using nA
  · simpa [Value.ownBlock] using nS
  · simpa [Value.ownBlock] using nO
  · simpa [Value.ownBlock] using nD
  · exact hb1.setCell h.lO _

/-- Where the records end is stored. -/
theorem DS.setA (h : DS w0 w gA gS gO gD size d v l a) (b : Nat) (z : Int) (hz : z = b) : DS w0 (w.setCell ⟨gA, 0, none⟩ (.int .i64 z)) gA gS gO gD size d v l b := by
  subst hz
  refine ⟨?_, ?_, ?_, ?_, ?_, h.nA, h.nS, h.nO, h.nD, h.lA, h.lO, h.nAS, h.nAO, h.nAD, h.nOS, h.nOD, h.bel.setCell h.lA _⟩
  · rw [heap_setCell_same _ _ _ _ _ _ h.ca]; rfl
  · rw [heap_setCell_other _ _ _ _ (Ne.symm h.nAS)]; exact h.cs
  · rw [heap_setCell_other _ _ _ _ (Ne.symm h.nAO)]; exact h.co
  · rw [heap_setCell_other _ _ _ _ (Ne.symm h.nAD)]; exact h.cd
  · have hg : w.grownBy (w.setCell ⟨gA, 0, none⟩ (.int .i64 b)) (some gA) :=
      ⟨rfl, rfl, rfl, by simp [World.setCell], fun k _ hn => Below.heap_setCell _ _ _ _ (fun e => hn (by rw [e]))⟩
    exact World.ownsRow.kept h.own hg (.inr h.nA)
end

set_option maxHeartbeats 3200000 in
set_option maxRecDepth 100000 in
theorem take_any (w0 w : World) (gA gS gO gD size : Nat) (d : ByteArray) (v : Value) (l : List ByteArray) (a n m : Nat) (h : DS w0 w gA gS gO gD size d v l a) (hd : d.size = size) (hs : size ≤ 512) (ha : a ≤ size) (hla : l.length ≤ a) (hn : n < 65536) (hm : m < 65536) :
    Calls Tryd.prog 84 #[.int .i64 n, .int .i64 m, .pointer (some ⟨gA, 0, none⟩), .pointer (some ⟨gS, 0, none⟩), .pointer (some ⟨gO, 0, none⟩), .pointer (some ⟨gD, 0, none⟩)] w fun e w' =>
      match takeN size d m n l a with
      | none => e = .returned (.bool false) ∧ Below w0.heap.size w0 w'
      | some (l', a') => e = .returned (.bool true) ∧ l'.length ≤ a' ∧ a' ≤ size ∧ ∃ v', DS w0 w' gA gS gO gD size d v' l' a' := by
  obtain ⟨R, hR⟩ : ∃ R, R = takeN size d m n l a := ⟨_, rfl⟩
  rw [← hR]
  go_enter Tryd.func84, Tryd.ntmps84
  go_wp2
  go_loopw [10] (fun x wr => ∃ (k a' : Nat) (l' : List ByteArray) (v' : Value), k ≤ n ∧ x = .int .i64 k ∧ R = takeN size d m (n - k) l' a' ∧ l'.length ≤ a' ∧ a' ≤ size ∧ DS w0 wr gA gS gO gD size d v' l' a') (fun x _ => n - (intOf x).toNat)
  case atStart => exact ⟨0, a, l, v, by omega, rfl, hR, hla, ha, h⟩
  case round =>
    obtain ⟨k, a', l', v', hk, rfl, hr, hla', ha', hds⟩ := hrel
    clear h hR
    by_cases hlt : k < n
    · have hstep : takeN size d m (n - k) l' a' = if m < 1 ∨ size < a' + m then none else takeN size d m (n - (k + 1)) (l' ++ [d.extract a' (a' + m)]) (a' + m) := by
        rw [show n - k = (n - (k + 1)) + 1 by omega, takeN]
      rw [hstep] at hr
      clear hstep
      have hca := cell_of_row _ _ 0 _ _ _ hds.ca
      have hcs := cell_of_row _ _ 0 _ _ _ hds.cs
      have hco := cell_of_row _ _ 0 _ _ _ hds.co
      have hcd := cell_of_row _ _ 0 _ _ _ hds.cd
      have HDS := Lib.hid hds
      clear hds
      by_cases hm1 : m < 1
      · rw [if_pos (.inl hm1)] at hr
        subst hr
        have hm0 : (m : Int) < 1 := by omega
        go_wp2
        go_ret
        exact ⟨rfl, HDS.out.bel⟩
      · by_cases hsz : size < a' + m
        · rw [if_pos (.inr hsz)] at hr
          subst hr
          go_wp2
          go_ret
          exact ⟨rfl, HDS.out.bel⟩
        · rw [if_neg (by omega)] at hr
          have HR := Lib.hid hr
          clear hr
          have hfa := frozen_of_row _ _ 0 _ _ HDS.out.ca
          have hfo := frozen_of_row _ _ 0 _ _ HDS.out.co
          have q1 : (a' : Int) ≤ (a' : Int) + (m : Int) := by omega
          have q2 : (a' : Int) + (m : Int) ≤ (d.size : Int) := by omega
          have q3 : IntKind.i64.wrap ((a' : Int) + (m : Int)) = (a' : Int) + (m : Int) := by rw [IntWalk.i64_in _ (by omega)]
          have q4 : ((a' : Int) + (m : Int)).toNat = a' + m := by omega
          have HAS := Lib.hid ha'
          have HD := Lib.hid hd
          clear hd ha'
          go_wp2
          obtain ⟨i9, hi9, hz9, hs9, hb9⟩ := info9
          have HI := Lib.hid hi9
          have HZ := Lib.hid hz9
          have HS9 := Lib.hid hs9
          have HB9 := Lib.hid hb9
          clear hi9 hz9 hs9 hb9
          have HLE : Hid (l'.length ≤ 512) := by show _ ≤ _; have := HAS.out; omega
          have HD1 : Hid (∀ o, DS w0 (wr.alloc o) gA gS gO gD size d v' l' a') := fun o => HDS.out.keep (Below.alloc (Below.refl _ _) (Nat.le_refl _) o)
          have hcoX : (wr.alloc (.cells #[.string (d.extract a' (a' + m))] 9)).cell? ⟨gO, 0, none⟩ = some v' := cell_of_row _ _ 0 _ _ _ (HD1.out (.cells #[.string (d.extract a' (a' + m))] 9)).co
          go_region_law
            (first
            | (refine step_append_lies _ rfl _ _ _ rfl w0.heap.size 9 i9 _ 1 16 Tryd.underlying31 HI.out HZ.out HS9.out HB9.out rfl (by decide) v' l'.length (l'.map Value.string) rfl (HD1.out _).own ⟨wr.heap.size, 0, none⟩ 1 1 [.string (d.extract a' (a' + m))] rfl rfl (cell_one_new wr _ 9) (by simp [Value.oneCell']) (by decide) (by have := HLE.out; unfold maxLen; omega) (by have := HLE.out; omega) (HD1.out (.cells #[.string (d.extract a' (a' + m))] 9)).bel.size _ rfl ?_
               intro g cap w1 hown hgrow hat hlt
               have hA1 := (hgrow.cell_far ⟨gA, 0, none⟩ (blk_lt (HD1.out _).ca) (Ne.symm (HD1.out (.cells #[.string (d.extract a' (a' + m))] 9)).nA)).trans (cell_of_row _ _ 0 _ _ _ (HD1.out (.cells #[.string (d.extract a' (a' + m))] 9)).ca)
               have hO1 := (hgrow.cell_far ⟨gO, 0, none⟩ (blk_lt (HD1.out _).co) (Ne.symm (HD1.out (.cells #[.string (d.extract a' (a' + m))] 9)).nO)).trans (cell_of_row _ _ 0 _ _ _ (HD1.out (.cells #[.string (d.extract a' (a' + m))] 9)).co)
               have hD1 := (hgrow.cell_far ⟨gD, 0, none⟩ (blk_lt (HD1.out _).cd) (Ne.symm (HD1.out (.cells #[.string (d.extract a' (a' + m))] 9)).nD)).trans (cell_of_row _ _ 0 _ _ _ (HD1.out (.cells #[.string (d.extract a' (a' + m))] 9)).cd)
               have hF1 := (hgrow.frozen_far ⟨gO, 0, none⟩ (blk_lt (HD1.out _).co) (Ne.symm (HD1.out (.cells #[.string (d.extract a' (a' + m))] 9)).nO)).trans (frozen_of_row _ _ 0 _ _ (HD1.out (.cells #[.string (d.extract a' (a' + m))] 9)).co)))
          all_goals
            have HDS2 := Lib.hid (DS.appended (HD1.out (.cells #[.string (d.extract a' (a' + m))] 9)).drew hown hgrow hat)
            clear hA1 hO1 hD1 hF1 hown hgrow hat hlt hca hcs hco hcd hcoX hfa hfo q2 q4
            obtain ⟨w2, hw2⟩ : ∃ w2, w2 = w1.setCell ⟨gO, 0, none⟩ (.slice (some ⟨g, 0, none⟩) (l'.length + 1) cap) := ⟨_, rfl⟩
            rw [← hw2] at HDS2 ⊢
            clear hw2
            have hca2 := cell_of_row _ _ 0 _ _ _ HDS2.out.ca
            have hfa2 := frozen_of_row _ _ 0 _ _ HDS2.out.ca
            go_wp2
            exact ⟨⟨k + 1, a' + m, l' ++ [d.extract a' (a' + m)], _, by omega, by go_num, HR.out, by rw [List.length_append, List.length_singleton]; omega, by omega, HDS2.out.setA (a' + m) _ (by omega)⟩, by simp [intOf]; omega⟩
    · have hkn : k = n := by omega
      rw [hkn, Nat.sub_self, takeN] at hr
      subst hr
      have HDS := Lib.hid hds
      have HL := Lib.hid hla'
      have HA := Lib.hid ha'
      clear hds hla' ha'
      go_wp2
      go_ret
      exact ⟨rfl, HL.out, HA.out, v', HDS.out⟩
end Go.Proofs.YtnkhifgppcnmkaaDoor

/- Walks: Decode. -/
namespace Go.Proofs.YtnkhifgppcnmkaaDoor
open Go.RowKit Iv

theorem own_strs {B : Nat} {w : World} {v : Value} {l : List ByteArray} (h : OwnS B w v l) : ∃ A c, v = .slice A l.length c ∧ StrsA w A l ∧ l.length ≤ c := by
  rcases h.2 with ⟨rfl, h0⟩ | ⟨g, cap, cur, rfl, hb, hg, hnc, hcm, hcs, htake⟩
  · exact ⟨none, 0, by rw [h0], fun hp => by omega, by omega⟩
  · refine ⟨some ⟨g, 0, none⟩, cap, rfl, fun hp => ⟨g, 0, rfl, blk_lt hg, fun i hi => ?_⟩, hnc⟩
    have := World.ownsRow.cells h (g := g) rfl i (.string (l.getD i ByteArray.empty)) (by simp [List.getD, hi])
    rw [Nat.zero_add]
    have hadd : (⟨g, 0, none⟩ : Addr).add i = ⟨g, i, none⟩ := by unfold Addr.add; split <;> simp_all
    rwa [hadd] at this

/-- What Decode's caller gets: an own slice of the records, and the error. -/
def DecodedTo (w : World) (r : List ByteArray × Int) (e : Ending) (w' : World) : Prop :=
  ∃ A c, e = .returned (.tuple #[.slice A r.1.length c, .int .i64 r.2]) ∧ StrsA w' A r.1 ∧ r.1.length ≤ c ∧ Below w.heap.size w w'

theorem decoded_err (w w' : World) (k : Int) (h : Below w.heap.size w w') : DecodedTo w ([], k) (.returned (.tuple #[.slice none 0 0, .int .i64 k])) w' :=
  ⟨none, 0, rfl, fun hp => by simp at hp, by simp, h⟩

/-- What Decode's caller gets, told as its own. -/
def DecodedO (w : World) (r : List ByteArray × Int) (e : Ending) (w' : World) : Prop :=
  ∃ v, e = .returned (.tuple #[v, .int .i64 r.2]) ∧ OwnS w.heap.size w' v r.1 ∧ Below w.heap.size w w'

theorem decodedO_err (w w' : World) (k : Int) (h : Below w.heap.size w w') : DecodedO w ([], k) (.returned (.tuple #[.slice none 0 0, .int .i64 k])) w' :=
  ⟨_, rfl, World.ownsRow_nil _ _ _ _, h⟩

theorem DecodedO.to {w : World} {r : List ByteArray × Int} {e : Ending} {w' : World} (h : DecodedO w r e w') : DecodedTo w r e w' := by
  obtain ⟨v, rfl, ho, hb⟩ := h
  obtain ⟨A, c, rfl, hs, hc⟩ := own_strs ho
  exact ⟨A, c, rfl, hs, hc, hb⟩

theorem takeN_sizes (size : Nat) (d : ByteArray) (m n : Nat) : ∀ (l : List ByteArray) (a : Nat) (l' : List ByteArray) (a' : Nat), takeN size d m n l a = some (l', a') → (∀ s ∈ l, s.size ≤ d.size) → ∀ s ∈ l', s.size ≤ d.size := by
  induction n with
  | zero => intro l a l' a' h hl; rw [takeN] at h; injection h with h; injection h with h1 h2; subst h1; exact hl
  | succ n ih =>
    intro l a l' a' h hl
    rw [takeN] at h
    split at h
    · cases h
    · refine ih _ _ _ _ h ?_
      intro s hs
      rcases List.mem_append.1 hs with hs | hs
      · exact hl s hs
      · rw [List.mem_singleton.1 hs, ByteArray.size_extract]
        omega

theorem bytes_ne {a b : ByteArray} (h : a ≠ b) : (a.toList == b.toList) = false := by
  rw [ByteArray.toList_eq, ByteArray.toList_eq, beq_eq_false_iff_ne]
  intro e
  exact h (ByteArray.ext (Array.toList_inj.1 e))

set_option maxHeartbeats 12800000 in
set_option maxRecDepth 100000 in
theorem decode_own (size : Int) (d : ByteArray) (w : World) (hd : d.size ≤ 1000) :
    Calls Tryd.prog 31 #[.int .i64 size, .string d] w fun e w' => DecodedO w (decodeOf size d) e w' := by
  have hdm : d.size ≤ maxLen := by unfold maxLen; omega
  have HDM := Lib.hid hdm
  clear hdm
  cases h1 : isSz size with
  | false =>
    have he : decodeOf size d = ([], 1) := by unfold decodeOf decodeWith; rw [if_pos h1]
    rw [he]
    go_enter Tryd.func31, Tryd.ntmps31
    go_wp2_with fail
    refine (isSize_any _ _).mono ?_
    rintro e w' ⟨rfl, rfl⟩
    go_wp2
    go_ret2
    exact decodedO_err _ _ _ (((Below.refl _ _).alloc (Nat.le_refl _) _).alloc (by simp) _)
  | true =>
    by_cases h2 : checkOf size d = 0
    · have h2a : (d.size : Int) = size := by
        unfold checkOf at h2
        split at h2
        · cases h2
        · omega
      have h2b : unusedOf d = false := by
        unfold checkOf at h2
        rw [if_neg (by omega)] at h2
        cases hu : unusedOf d with
        | false => rfl
        | true => rw [hu, if_pos rfl] at h2; cases h2
      obtain ⟨n, rfl, hn, hn2⟩ : ∃ n : Nat, size = n ∧ n ≤ 512 ∧ 128 ≤ n := by
        rcases isSz_cases h1 with h | h | h <;> subst h
        · exact ⟨128, rfl, by omega, by omega⟩
        · exact ⟨256, rfl, by omega, by omega⟩
        · exact ⟨512, rfl, by omega, by omega⟩
      have hdn : d.size = n := by omega
      have he : decodeOf n d = match parseP n d with | none => ([], 11) | some l => if encodeOf n l = (d, 0) then (l, 0) else ([], 11) := by
        unfold decodeOf decodeWith
        rw [if_neg (by simp [h1]), if_neg (by omega), if_neg (by simp [h2b]), Int.toNat_natCast]
        cases parseP n d <;> rfl
      obtain ⟨ans, hans⟩ : ∃ ans, ans = decodeOf n d := ⟨_, rfl⟩
      rw [← hans]
      have HA1 : Hid (parseP n d = none → ans = ([], 11)) := by
        show _ → _
        intro h; rw [hans, he, h]
      have HA2 : Hid (∀ l, parseP n d = some l → ans = if encodeOf n l = (d, 0) then (l, 0) else ([], 11)) := by
        show ∀ _, _
        intro l h; rw [hans, he, h]
      clear hans
      have HDN := Lib.hid hdn
      have HT1 : Hid (∀ w', Calls Tryd.prog 83 #[.string d, .int .i64 ((n : Int) - 4)] w' fun e w'' => e = .returned (.int .i64 (twoOf d (n - 4) : Nat)) ∧ Below w'.heap.size w' w'') := by
        show ∀ _, _
        intro w'
        have := twoAt_any d (n - 4) w' (by omega) HDM.out
        rwa [show ((n - 4 : Nat) : Int) = (n : Int) - 4 by omega] at this
      have HT2 : Hid (∀ w', Calls Tryd.prog 83 #[.string d, .int .i64 ((n : Int) - 2)] w' fun e w'' => e = .returned (.int .i64 (twoOf d (n - 2) : Nat)) ∧ Below w'.heap.size w' w'') := by
        show ∀ _, _
        intro w'
        have := twoAt_any d (n - 2) w' (by omega) HDM.out
        rwa [show ((n - 2 : Nat) : Int) = (n : Int) - 2 by omega] at this
      have HCK : Hid (∀ w', Calls Tryd.prog 82 #[.int .i64 n, .string d] w' fun e w'' => e = .returned (.int .i64 0) ∧ Below w'.heap.size w' w'') := by
        show ∀ _, _
        intro w'
        have := check_any n d w' HDM.out
        rwa [h2] at this
      have ht1 := twoOf_lt d (n - 4)
      have ht2 := twoOf_lt d (n - 2)
      clear he h2 h2a h2b hdn
      go_enter Tryd.func31, Tryd.ntmps31
      go_wp2_with fail
      refine (isSize_any _ _).mono ?_
      rintro e w' ⟨rfl, rfl⟩
      rw [h1]
      go_wp2_with fail
      refine (HCK.out _).mono ?_
      rintro e w1 ⟨rfl, hb1⟩
      have hS1 : w1.heap[w.heap.size]? = some (.cells #[.int .i64 n] 3 (0, 0)) := (hb1.block _ (by simp; omega)).trans (by rw [Below.heap_alloc _ _ _ (by simp)]; exact heap_alloc_new w _)
      have hD1 : w1.heap[w.heap.size + 1]? = some (.cells #[.string d] 9 (0, 0)) := (hb1.block _ (by simp)).trans (heap_at_alloc (by simp))
      have hbw1 : Below w.heap.size w w1 := bstep (((Below.refl _ _).alloc (Nat.le_refl _) _).alloc (by simp) _) hb1
      have HS1 := Lib.hid hS1
      have HD1 := Lib.hid hD1
      have HB1 := Lib.hid hbw1
      have hcS := cell_of_row _ _ 0 _ _ _ hS1
      have hcD := cell_of_row _ _ 0 _ _ _ hD1
      have hlS := blk_lt hS1
      have hlD := blk_lt hD1
      clear hS1 hD1 hb1 hbw1
      obtain ⟨gS, hgS⟩ : ∃ g, g = w.heap.size := ⟨_, rfl⟩
      obtain ⟨gD, hgD⟩ : ∃ g, g = w.heap.size + 1 := ⟨_, rfl⟩
      have HGS := Lib.hid hgS
      have HGD := Lib.hid hgD
      rw [← hgD] at hcD hlD HD1 ⊢
      rw [← hgS] at hcS hlS HS1 ⊢
      clear hgS hgD
      obtain ⟨t1, hst1⟩ : ∃ t, t = twoOf d (n - 4) := ⟨_, rfl⟩
      obtain ⟨t2, hst2⟩ : ∃ t, t = twoOf d (n - 2) := ⟨_, rfl⟩
      rw [← hst1] at HT1 ht1
      rw [← hst2] at HT2 ht2
      have HE : Hid (endOf n d = t1 + t2) := by show _ = _; rw [hst1, hst2]; rfl
      clear hst1 hst2
      have hw4 : IntKind.i64.wrap ((n : Int) - 4) = (n : Int) - 4 := by rw [IntWalk.i64_in _ (by omega)]
      have hw2 : IntKind.i64.wrap ((n : Int) - 2) = (n : Int) - 2 := by rw [IntWalk.i64_in _ (by omega)]
      have hwt : IntKind.i64.wrap ((t1 : Int) + (t2 : Int)) = (t1 : Int) + (t2 : Int) := by rw [IntWalk.i64_in _ (by omega)]
      go_wp2
      go_region_held3 (fun w' => w'.cell? ⟨gS, 0, none⟩ = some (.int .i64 n) ∧ w'.cell? ⟨gD, 0, none⟩ = some (.string d)) (first | exact ⟨(hBB.cell (p := ⟨gS, 0, none⟩) hlS).trans hcS, (hBB.cell (p := ⟨gD, 0, none⟩) hlD).trans hcD⟩ | exact ⟨hcS, hcD⟩) (first | (go_at_call 83; with_reducible_and_instances refine (HT1.out _).mono ?_; rintro e wz ⟨rfl, hbF⟩; first | have hBB := bstep hBB hbF | have hBB := bstep ((Below.refl _ w1).drew) hbF) | (go_at_call 83; with_reducible_and_instances refine (HT2.out _).mono ?_; rintro e wz ⟨rfl, hbF⟩; first | have hBB := bstep hBB hbF | have hBB := bstep ((Below.refl _ w1).drew) hbF))
      all_goals
        have hbz := bstep HB1.out hBB
        have hzS : wz.heap[gS]? = some (.cells #[.int .i64 n] 3 (0, 0)) := (hBB.block _ hlS).trans HS1.out
        have hzD : wz.heap[gD]? = some (.cells #[.string d] 9 (0, 0)) := (hBB.block _ hlD).trans HD1.out
        have hlS2 := blk_lt hzS
        have hlD2 := blk_lt hzD
        have hwz := hbz.size
        clear hBB hcS hcD hlS hlD hbF
        obtain ⟨W5, hW5⟩ : ∃ W5, W5 = ((wz.alloc (.cells #[] 9)).alloc (.cells #[.slice (some ⟨wz.heap.size, 0, none⟩) 0 0] 31)).alloc (.cells #[.int .i64 0] 3) := ⟨_, rfl⟩
        have hb5 : Below wz.heap.size wz W5 := by
          rw [hW5]
          exact (((Below.refl _ _).alloc (Nat.le_refl _) _).alloc (by simp) _).alloc (by simp; omega) _
        have HDS5 : Hid (DS w W5 (wz.heap.size + 1 + 1) gS (wz.heap.size + 1) gD n d (.slice (some ⟨wz.heap.size, 0, none⟩) 0 0) [] 0) := by
          show DS _ _ _ _ _ _ _ _ _ _ _
          refine ⟨?_, (hb5.block _ hlS2).trans hzS, ?_, (hb5.block _ hlD2).trans hzD, ?_, ?_, ?_, ?_, ?_, ?_, ?_, ?_, ?_, ?_, ?_, ?_, bstep hbz hb5⟩
          · rw [hW5]; exact heap_at_alloc (by simp)
          · rw [hW5, Below.heap_alloc _ _ _ (by simp)]; exact heap_at_alloc (by simp)
          · have hm := World.ownsRow_made (e := 9) (size := 1) wz #[] 0 (base := w.heap.size) hwz (by decide) rfl
            rw [hW5]
            exact (hm.alloc _).alloc _
          all_goals first | (simp [Value.ownBlock]; done) | (simp [Value.ownBlock]; omega) | omega
        have hcS5 := cell_of_row _ _ 0 _ _ _ HDS5.out.cs
        rw [hW5] at hcS5
        have hw44 : IntKind.i64.wrap ((n : Int) - 4 - 3) = (n : Int) - 4 - 3 := by rw [IntWalk.i64_in _ (by omega)]
        clear hb5 hzS hzD hlS2 hlD2 hbz
        go_wp2
        rw [← hW5]
        clear hcS5 hw44 hw4 hw2 hwt
        obtain ⟨R, hR⟩ : ∃ R, R = rounds n (t1 + t2) := ⟨_, rfl⟩
        obtain ⟨P, hP⟩ : ∃ P, P = readP n d R (n - 7) ([], 0, 0) := ⟨_, rfl⟩
        have HPP : Hid (parseP n d = P.map (·.1)) := by
          show _ = _
          unfold parseP
          rw [HE.out, ← hR, ← hP]
        have hRlo : ∀ k, k < R → (t1 : Int) + (t2 : Int) ≤ (n : Int) - 7 - 3 * (k : Int) := by
          intro k hk
          rw [hR] at hk
          unfold rounds at hk
          split at hk <;> omega
        have hRhi : ∀ k, k = R → ¬ ((t1 : Int) + (t2 : Int) ≤ (n : Int) - 7 - 3 * (k : Int)) := by
          intro k hk
          rw [hR] at hk
          unfold rounds at hk
          split at hk <;> omega
        have HRLO := Lib.hid hRlo
        have HRHI := Lib.hid hRhi
        have HP := Lib.hid hP
        clear hRlo hRhi hP hR
        go_loopw [10, 12] (fun x y wr => ∃ (k a m : Nat) (l : List ByteArray) (v : Value), k ≤ R ∧ x = .int .i64 m ∧ y = .int .i64 ((n : Int) - 7 - 3 * (k : Int)) ∧ P = readP n d (R - k) (n - 7 - 3 * k) (l, a, m) ∧ l.length ≤ a ∧ a ≤ n ∧ m < 65536 ∧ (∀ s ∈ l, s.size ≤ d.size) ∧ DS w wr (wz.heap.size + 1 + 1) gS (wz.heap.size + 1) gD n d v l a) (fun _ y _ => (intOf y + 10).toNat)
        case atStart => exact ⟨0, 0, 0, [], _, by omega, rfl, by go_num, HP.out, by simp, by omega, by omega, by simp, HDS5.out⟩
        case round =>
          obtain ⟨k, a, m, l, v, hk, rfl, rfl, hr, hla, ha, hm, hsz, hds⟩ := hrel
          have HDS := Lib.hid hds
          have HSZ := Lib.hid hsz
          clear hds hsz HDS5 HP
          have hcS := cell_of_row _ _ 0 _ _ _ HDS.out.cs
          have hcD := cell_of_row _ _ 0 _ _ _ HDS.out.cd
          have hcO := cell_of_row _ _ 0 _ _ _ HDS.out.co
          by_cases hkR : k < R
          · have hlo := HRLO.out k hkR
            obtain ⟨p, hp⟩ : ∃ p, p = n - 7 - 3 * k := ⟨_, rfl⟩
            have hpi : (n : Int) - 7 - 3 * (k : Int) = (p : Int) := by omega
            have hpn : p + 7 ≤ n := by omega
            have HPN : Hid (p + 2 < d.size) := by show _ < _; have := HDN.out; omega
            have HK3 : Hid ((p : Int) - 3 = (n : Int) - 7 - 3 * ((k + 1 : Nat) : Int) ∧ p - 3 = n - 7 - 3 * (k + 1)) := ⟨by omega, by omega⟩
            rw [hpi] at hlo ⊢
            rw [← hp, show R - k = (R - (k + 1)) + 1 by omega, readP] at hr
            have HKR : Hid (k + 1 ≤ R) := hkR
            have hpd : (p : Int) < (d.size : Int) := by have := HPN.out; omega
            have hpd' : p < d.size := by have := HPN.out; omega
            have hix := byteAt_get d p hpd'
            obtain ⟨y, hy⟩ : ∃ y, y = byteAt d p := ⟨_, rfl⟩
            obtain ⟨q, hq⟩ : ∃ q, q = twoOf d (p + 1) := ⟨_, rfl⟩
            have HQ : Hid (q < 65536) := by show _ < _; rw [hq]; exact twoOf_lt _ _
            have HST : Hid (stepP n d (l, a, m) p = if 0 < m then (if y = 8 then (takeN n d m q l a).map fun r => (r.1, r.2, 0) else none) else if y = 64 then some (l, a, q) else if y = 0 then (takeN n d q 1 l a).map fun r => (r.1, r.2, 0) else none) := by
              show _ = _
              rw [hy, hq]
              rfl
            have HT3 : Hid (∀ w', Calls Tryd.prog 83 #[.string d, .int .i64 ((p : Int) + 1)] w' fun e w'' => e = .returned (.int .i64 (q : Nat)) ∧ Below w'.heap.size w' w'') := by
              show ∀ _, _
              intro w'
              have := twoAt_any d (p + 1) w' (by have := HPN.out; omega) HDM.out
              rw [← hq] at this
              exact this
            rw [← hy] at hix
            clear hpi hp hy hq
            have HR := Lib.hid hr
            have HHP := Lib.hid HPP.out
            clear hr hcO hkR hk
            have hyb : y < 256 := by rw [← hix]; exact (d[p]).toNat_lt
            have q5 : IntKind.i64.wrap ((p : Int) + 1) = (p : Int) + 1 := by rw [IntWalk.i64_in _ (by omega)]
            go_wp2_with fail
            refine (HT3.out _).mono ?_
            rintro e w6 ⟨rfl, hb6⟩
            have HDS6 := Lib.hid (HDS.out.keep hb6)
            have hcD6 := cell_of_row _ _ 0 _ _ _ HDS6.out.cd
            clear hb6 hcS hcD
            have HERR : Hid (P = none → ∀ w', Below w.heap.size w w' → DecodedO w ans (.returned (.tuple #[.slice none 0 0, .int .i64 11])) w') := by
              show _ → _
              intro hPn w' hw'
              rw [HA1.out (by rw [HHP.out, hPn]; rfl)]
              exact decodedO_err _ _ _ hw'
            by_cases hm0 : 0 < m
            · have hm0' : (0 : Int) < (m : Int) := by omega
              by_cases hy8 : y = 8
              · subst hy8
                have hs := HST.out
                rw [if_pos hm0, if_pos rfl] at hs
                have HS3 := Lib.hid hs
                clear hs hm0
                go_wp2_with fail
                refine (take_any w _ (wz.heap.size + 1 + 1) gS (wz.heap.size + 1) gD n d v l a q m HDS6.out HDN.out (by omega) ha hla HQ.out hm).mono ?_
                rintro e w7 htk
                cases htn : takeN n d m q l a with
                | none =>
                  rw [htn] at htk
                  obtain ⟨rfl, hb7⟩ := htk
                  have hPn : P = none := by rw [HR.out, HS3.out, htn]; rfl
                  go_wp2
                  go_ret2
                  exact HERR.out hPn _ hb7
                | some r =>
                  obtain ⟨l', a'⟩ := r
                  rw [htn] at htk
                  obtain ⟨rfl, hla', ha', v', hds'⟩ := htk
                  have HN := Lib.hid hds'
                  have HSZ2 := Lib.hid (takeN_sizes _ _ _ _ _ _ _ _ htn HSZ.out)
                  have HR2 : Hid (P = readP n d (R - (k + 1)) (p - 3) (l', a', 0)) := by
                    show _ = _
                    rw [HR.out, HS3.out, htn]; rfl
                  clear hds' htn
                  go_wp2
                  exact ⟨⟨k + 1, a', 0, l', v', HKR.out, rfl, by rw [HK3.out.1], by rw [← HK3.out.2]; exact HR2.out, hla', ha', by omega, HSZ2.out, HN.out⟩, by simp [intOf]; omega⟩
              · have hy8' : ((y : Int) == 8) = false := by simp only [beq_eq_false_iff_ne, ne_eq]; omega
                have hPn : P = none := by rw [HR.out, HST.out, if_pos hm0, if_neg hy8]; rfl
                clear hy8 hm0
                go_wp2
                go_ret2
                exact HERR.out hPn _ HDS6.out.bel
            · obtain rfl : m = 0 := by omega
              clear hm0
              by_cases hy64 : y = 64
              · subst hy64
                have HR2 : Hid (P = readP n d (R - (k + 1)) (p - 3) (l, a, q)) := by
                  show _ = _
                  rw [HR.out, HST.out]; rfl
                go_wp2
                exact ⟨⟨k + 1, a, q, l, v, HKR.out, rfl, by rw [HK3.out.1], by rw [← HK3.out.2]; exact HR2.out, hla, ha, HQ.out, HSZ.out, HDS6.out⟩, by simp [intOf]; omega⟩
              · have hy64' : ((y : Int) == 64) = false := by simp only [beq_eq_false_iff_ne, ne_eq]; omega
                by_cases hy0 : y = 0
                · subst hy0
                  have hs := HST.out
                  rw [if_neg (by omega), if_neg (by omega), if_pos rfl] at hs
                  have HS3 := Lib.hid hs
                  clear hs hy64
                  go_wp2_with fail
                  refine (take_any w _ (wz.heap.size + 1 + 1) gS (wz.heap.size + 1) gD n d v l a 1 q HDS6.out HDN.out (by omega) ha hla (by omega) HQ.out).mono ?_
                  rintro e w7 htk
                  cases htn : takeN n d q 1 l a with
                  | none =>
                    rw [htn] at htk
                    obtain ⟨rfl, hb7⟩ := htk
                    have hPn : P = none := by rw [HR.out, HS3.out, htn]; rfl
                    go_wp2
                    go_ret2
                    exact HERR.out hPn _ hb7
                  | some r =>
                    obtain ⟨l', a'⟩ := r
                    rw [htn] at htk
                    obtain ⟨rfl, hla', ha', v', hds'⟩ := htk
                    have HN := Lib.hid hds'
                    have HSZ2 := Lib.hid (takeN_sizes _ _ _ _ _ _ _ _ htn HSZ.out)
                    have HR2 : Hid (P = readP n d (R - (k + 1)) (p - 3) (l', a', 0)) := by
                      show _ = _
                      rw [HR.out, HS3.out, htn]; rfl
                    clear hds' htn
                    go_wp2
                    exact ⟨⟨k + 1, a', 0, l', v', HKR.out, rfl, by rw [HK3.out.1], by rw [← HK3.out.2]; exact HR2.out, hla', ha', by omega, HSZ2.out, HN.out⟩, by simp [intOf]; omega⟩
                · have hy0' : ((y : Int) == 0) = false := by simp only [beq_eq_false_iff_ne, ne_eq]; omega
                  have hPn : P = none := by rw [HR.out, HST.out, if_neg (by omega), if_neg hy64, if_neg hy0]; rfl
                  clear hy0 hy64
                  go_wp2
                  go_ret2
                  exact HERR.out hPn _ HDS6.out.bel
          · have hkR' : k = R := by omega
            have hno := HRHI.out k hkR'
            rw [hkR', Nat.sub_self, readP] at hr
            obtain ⟨y, hy⟩ : ∃ y, y = (n : Int) - 7 - 3 * (k : Int) := ⟨_, rfl⟩
            rw [← hy] at hno ⊢
            have hdec : decide ((t1 : Int) + (t2 : Int) ≤ y) = false := by simpa using hno
            have HPL : Hid (parseP n d = some l) := by show _ = _; rw [HPP.out, hr]; rfl
            obtain ⟨A, c, rfl, hstr, hlc⟩ := own_strs HDS.out.own
            have HENC : Hid (∀ w', Below wr.heap.size wr w' → Calls Tryd.prog 36 #[.int .i64 n, .slice A l.length c] w' fun e w'' => e = .returned (.tuple #[.string (encodeOf n l).1, .int .i64 (encodeOf n l).2]) ∧ Below w'.heap.size w' w'') := by
              show ∀ _, _
              intro w' hw'
              exact encode_any n A c l w' (by omega) (fun s hs => by have := HSZ.out s hs; omega) hlc (hstr.keep hw')
            have HSTR := Lib.hid hstr
            have HLC := Lib.hid hlc
            have HRES := Lib.hid (HA2.out l HPL.out)
            clear hkR hkR' hno hr hk hy hstr hlc
            rcases hxe : encodeOf n l with ⟨x, e2⟩
            rw [hxe] at HENC HRES
            clear hxe
            go_wp2_with fail
            refine (HENC.out _ (Below.refl _ _)).mono ?_
            rintro e w6 ⟨rfl, hb6⟩
            have HDS6 := Lib.hid (HDS.out.keep hb6)
            have HSTR6 := Lib.hid (HSTR.out.keep hb6)
            have hcD6 := cell_of_row _ _ 0 _ _ _ HDS6.out.cd
            have hcO6 := cell_of_row _ _ 0 _ _ _ HDS6.out.co
            clear hb6 hcS hcD hcO
            by_cases he : e2 = 0
            · subst he
              by_cases hx : x = d
              · subst hx
                go_wp2
                go_ret2
                rw [show ans = (l, 0) by rw [HRES.out]; simp]
                exact ⟨_, rfl, HDS6.out.own, HDS6.out.bel⟩
              · have hxn := bytes_ne hx
                have HX := Lib.hid hx
                clear hx
                go_wp2
                go_ret2
                rw [HRES.out, if_neg (by intro h; injection h with h _; exact HX.out h)]
                exact decodedO_err _ _ _ HDS6.out.bel
            · have hen : (e2 != 0) = true := by simp [he]
              have HEN := Lib.hid he
              clear he
              go_wp2
              go_ret2
              rw [HRES.out, if_neg (by intro h; injection h with _ h; exact HEN.out h)]
              exact decodedO_err _ _ _ HDS6.out.bel
    · have hck : decodeOf size d = ([], checkOf size d) := by
        unfold decodeOf decodeWith
        rw [if_neg (by simp [h1])]
        unfold checkOf at h2 ⊢
        split at h2
        · rename_i hs; rw [if_pos hs, if_pos hs]
        · rename_i hs
          rw [if_neg hs, if_neg hs]
          split at h2
          · rename_i hu; rw [if_pos hu, if_pos hu]
          · exact absurd rfl h2
      rw [hck]
      obtain ⟨ck, hck2⟩ : ∃ ck, ck = checkOf size d := ⟨_, rfl⟩
      have HCK : Hid (∀ w', Calls Tryd.prog 82 #[.int .i64 size, .string d] w' fun e w'' => e = .returned (.int .i64 ck) ∧ Below w'.heap.size w' w'') := by
        show ∀ _, _
        intro w'
        rw [hck2]
        exact check_any size d w' HDM.out
      rw [← hck2] at h2 ⊢
      have hne : (ck != 0) = true := by simp [h2]
      clear hck hck2
      go_enter Tryd.func31, Tryd.ntmps31
      go_wp2_with fail
      refine (isSize_any _ _).mono ?_
      rintro e w' ⟨rfl, rfl⟩
      rw [h1]
      go_wp2_with fail
      refine (HCK.out _).mono ?_
      rintro e w1 ⟨rfl, hb1⟩
      go_wp2
      go_ret2
      exact decodedO_err _ _ _ (bstep (((Below.refl _ _).alloc (Nat.le_refl _) _).alloc (by simp) _) hb1)
theorem decode_any (size : Int) (d : ByteArray) (w : World) (hd : d.size ≤ 1000) :
    Calls Tryd.prog 31 #[.int .i64 size, .string d] w fun e w' => DecodedTo w (decodeOf size d) e w' :=
  (decode_own size d w hd).mono fun _ _ h => h.to
end Go.Proofs.YtnkhifgppcnmkaaDoor

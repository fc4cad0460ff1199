/- Walks: Fits, and the reference's run, field, fields, join, whole, Size, Fits, Encode. -/
import Derived.Test.YtnkhifgppcnmkaaDoorW5
namespace Go.Proofs.YtnkhifgppcnmkaaDoor
open Go.RowKit Iv

set_option maxHeartbeats 1600000 in
theorem fits_any (size : Int) (A : Option Addr) (c : Nat) (l : List ByteArray) (w : World) (hl : l.length ≤ 1000) (hr : ∀ s ∈ l, s.size ≤ 1000) (hc : l.length ≤ c) (hs : StrsA w A l) :
    Calls Tryd.prog 41 #[.int .i64 size, .slice A l.length c] w fun e w' => e = .returned (.bool (fitsOf size l)) ∧ Below w.heap.size w w' := by
  have HS := Lib.hid hs
  have HR := Lib.hid hr
  have hlm : l.length ≤ maxLen := by unfold maxLen; omega
  have HLM := Lib.hid hlm
  clear hs hr hlm
  cases h1 : isSz size with
  | false =>
    have he : fitsOf size l = false := by unfold fitsOf; rw [h1]; rfl
    rw [he]
    go_enter Tryd.func41, Tryd.ntmps41
    go_wp2_with fail
    refine (isSize_any _ _).mono ?_
    rintro e w' ⟨rfl, rfl⟩
    go_wp2
    go_ret
    exact ⟨rfl, Below.refl _ _⟩
  | true =>
    cases h2 : okRec l with
    | false =>
      have he : fitsOf size l = false := by unfold fitsOf; rw [h1, h2]; rfl
      rw [he]
      go_enter Tryd.func41, Tryd.ntmps41
      go_wp2_with fail
      refine (isSize_any _ _).mono ?_
      rintro e w' ⟨rfl, rfl⟩
      go_wp2_with fail
      refine (allowed_any A c l _ HLM.out HS.out).mono ?_
      rintro e w' ⟨rfl, rfl⟩
      go_wp2
      go_ret
      exact ⟨rfl, Below.refl _ _⟩
    | true =>
      have he : fitsOf size l = decide ((szOf l : Int) ≤ size) := by unfold fitsOf; rw [h1, h2]; rfl
      rw [he]
      go_enter Tryd.func41, Tryd.ntmps41
      go_wp2_with fail
      refine (isSize_any _ _).mono ?_
      rintro e w' ⟨rfl, rfl⟩
      go_wp2_with fail
      refine (allowed_any A c l _ HLM.out HS.out).mono ?_
      rintro e w' ⟨rfl, rfl⟩
      go_wp2_with fail
      refine (size_any A c l _ hl HR.out hc HS.out).mono ?_
      rintro e w1 ⟨rfl, hb1⟩
      go_wp2
      go_ret
      exact ⟨rfl, hb1⟩

theorem ofL_append (a b : List UInt8) : ofL a ++ ofL b = ofL (a ++ b) := by
  apply ByteArray.ext
  apply Array.toList_inj.1
  simp [ofL]

set_option maxHeartbeats 1600000 in
set_option maxRecDepth 100000 in
theorem refRun_any (A : Option Addr) (c : Nat) (l : List ByteArray) (j : Nat) (w : World) (hl : l.length ≤ 1000) (hs : StrsA w A l) (hj : j < l.length) :
    Calls Tryd.prog 137 #[.slice A l.length c, .int .i64 j] w fun e w' => e = .returned (.int .i64 ((runLen (l.getD j ByteArray.empty).size (l.drop (j + 1)) + 1 : Nat))) ∧ Below w.heap.size w w' := by
  obtain ⟨b, o, rfl, hb, hcell⟩ := hs (by omega)
  have hc0 := hcell j hj
  obtain ⟨s, hs⟩ : ∃ s, s = l.getD j ByteArray.empty := ⟨_, rfl⟩
  rw [← hs] at hc0 ⊢
  clear hs
  obtain ⟨Q, hQ⟩ : ∃ Q, Q = runLen s.size (l.drop (j + 1)) + 1 := ⟨_, rfl⟩
  have hQn : j + Q ≤ l.length := by
    have := runLen_le s.size (l.drop (j + 1))
    rw [List.length_drop] at this
    omega
  have hQ1 : 1 ≤ Q := by omega
  have HIN : Hid (∀ q, 1 ≤ q → q < Q → (l.getD (j + q) ByteArray.empty).size = s.size) := by
    intro q h1 h2
    have := runLen_in s.size (l.drop (j + 1)) (q - 1) (by omega)
    rw [← this]
    simp [List.getD, show j + 1 + (q - 1) = j + q by omega]
  have HEND : Hid (j + Q < l.length → (l.getD (j + Q) ByteArray.empty).size ≠ s.size) := by
    intro h1 h2
    have := runLen_end s.size (l.drop (j + 1)) (by rw [List.length_drop]; omega)
    apply this
    refine (congrArg ByteArray.size ?_).trans h2
    rw [hQ]
    simp [List.getD, show j + (runLen s.size (l.drop (j + 1)) + 1) = j + 1 + runLen s.size (l.drop (j + 1)) by omega]
  rw [← hQ]
  clear hQ
  have HC := Lib.hid hcell
  clear hcell
  obtain ⟨n, hn⟩ : ∃ n, n = l.length := ⟨_, rfl⟩
  have HNL := Lib.hid hn
  rw [← hn] at hQn hl hj HEND ⊢
  clear hn
  go_enter Tryd.func137, Tryd.ntmps137
  go_wp2
  go_loopw [5] (fun i wq => ∃ q m : Nat, wq = w.drewN m ∧ i = .int .i64 q ∧ 1 ≤ q ∧ q ≤ Q) (fun i _ => n - (intOf i).toNat)
  case atStart => exact ⟨1, 0, rfl, rfl, by omega, by omega⟩
  case round =>
    obtain ⟨q, m, rfl, rfl, hq1, hq2⟩ := hrel
    by_cases hqe : q < Q
    · have hqn : (j : Int) + (q : Int) < (n : Int) := by omega
      have hcq : w.cell? ⟨b, o + (j + q), none⟩ = some (.string (l.getD (j + q) ByteArray.empty)) := HC.out (j + q) (by have := HNL.out; omega)
      have hsz := HIN.out q hq1 hqe
      obtain ⟨t, ht⟩ : ∃ t, t = l.getD (j + q) ByteArray.empty := ⟨_, rfl⟩
      rw [← ht] at hcq hsz
      clear ht
      have hsz' : (((t.size : Nat) : Int) == ((s.size : Nat) : Int)) = true := by simp [hsz]
      clear hsz
      obtain ⟨p, hp⟩ : ∃ p, p = j + q := ⟨_, rfl⟩
      have hjq : IntKind.i64.wrap ((j : Int) + (q : Int)) = (p : Int) := by rw [IntWalk.i64_in _ (by omega)]; omega
      rw [← hp] at hcq
      have hqn' : (p : Int) < (n : Int) := by omega
      clear hqn
      have HP := Lib.hid hp
      clear hp
      go_wp2
      go_quiet (fail)
      go_wp2
      exact ⟨⟨q + 1, m + nq, rfl, by go_num, by omega, by omega⟩, by simp [intOf]; omega⟩
    · obtain rfl : q = Q := by omega
      by_cases hqn : j + q < n
      · have hcq : w.cell? ⟨b, o + (j + q), none⟩ = some (.string (l.getD (j + q) ByteArray.empty)) := HC.out (j + q) (by have := HNL.out; omega)
        have hsz := HEND.out hqn
        obtain ⟨t, ht⟩ : ∃ t, t = l.getD (j + q) ByteArray.empty := ⟨_, rfl⟩
        rw [← ht] at hcq hsz
        clear ht
        have hsz' : (((t.size : Nat) : Int) == ((s.size : Nat) : Int)) = false := by simp only [beq_eq_false_iff_ne, ne_eq]; omega
        clear hsz
        obtain ⟨p, hp⟩ : ∃ p, p = j + q := ⟨_, rfl⟩
        have hjq : IntKind.i64.wrap ((j : Int) + (q : Int)) = (p : Int) := by rw [IntWalk.i64_in _ (by omega)]; omega
        rw [← hp] at hcq
        have hqn' : (p : Int) < (n : Int) := by omega
        clear hqn
        have HP := Lib.hid hp
        clear hp
        go_wp2
        go_quiet (fail)
        go_wp2
        go_ret
        exact ⟨rfl, below_drewN (below_drewN (Below.refl _ _) _) _⟩
      · have hjq : IntKind.i64.wrap ((j : Int) + (q : Int)) = (n : Int) := by rw [IntWalk.i64_in _ (by omega)]; omega
        have HQN := Lib.hid hqn
        clear hqn
        have hd : decide ((n : Int) < (n : Int)) = false := by simp
        go_wp2
        go_quiet (fail)
        go_wp2
        go_ret
        exact ⟨rfl, below_drewN (below_drewN (Below.refl _ _) _) _⟩

theorem conv_three (w : World) (a b c : UInt8) :
    (convert 57 9 (.slice (some ⟨w.heap.size, 0, none⟩) 3 3)).run Tryd.prog (w.alloc (.cells #[.int .u8 (a.toNat : Nat), .int .u8 (b.toNat : Nat), .int .u8 (c.toNat : Nat)] 5)) = .ok (.string (ofL [a, b, c])) (w.alloc (.cells #[.int .u8 (a.toNat : Nat), .int .u8 (b.toNat : Nat), .int .u8 (c.toNat : Nat)] 5)) := by
  have h := conv_bytes (w.alloc (.cells (u8s [a, b, c]) 5)) w.heap.size 0 3 [a, b, c] (fun i hi => by
    rw [Nat.zero_add, cell_of_row _ _ _ _ _ _ (heap_alloc_new w _), u8s_get _ _ hi])
  exact h

set_option maxHeartbeats 800000 in
set_option maxRecDepth 100000 in
theorem refField_any (c n : Nat) (w : World) (hc : c < 256) (hn : n ≤ 1000) :
    Calls Tryd.prog 103 #[.int .i64 c, .int .i64 n] w fun e w' => e = .returned (.string (ofL (fld c n))) ∧ Below w.heap.size w w' := by
  have hcv := conv_three w (UInt8.ofNat c) (UInt8.ofNat n) (UInt8.ofNat (n / 256))
  rw [ofNat_toNat, ofNat_toNat, ofNat_toNat, show ((n / 256 : Nat) : Int) = (n : Int) / 256 by omega, show (c : Int) % 256 = c by omega] at hcv
  go_enter Tryd.func103, Tryd.ntmps103
  go_wp2
  go_ret
  exact ⟨rfl, (Below.refl _ _).alloc (Nat.le_refl _) _⟩

theorem refField_at (c n : Nat) (ii : Int) (w : World) (hi : ii = n) (hc : c < 256) (hn : n ≤ 1000) :
    Calls Tryd.prog 103 #[.int .i64 c, .int .i64 ii] w fun e w' => e = .returned (.string (ofL (fld c n))) ∧ Below w.heap.size w w' := by
  subst hi
  exact refField_any c n w hc hn

theorem zeros_at (k : Nat) (ii : Int) (w : World) (hi : ii = k) (hk : k ≤ 1000) :
    Calls Tryd.prog 88 #[.int .i64 ii] w fun e w' => e = .returned (.string (ofL (List.replicate k 0))) ∧ Below w.heap.size w w' := by
  subst hi
  exact zeros_any k w hk

theorem conv_four (a b c d : Nat) (ia ib ic id : Int) (ha : ia = (a : Int) % 256) (hb : ib = (b : Int) % 256) (hc : ic = (c : Int) % 256) (hd : id = (d : Int) % 256) (w : World) (g : Nat)
    (h : w.heap[g]? = some (.cells #[.int .u8 ia, .int .u8 ib, .int .u8 ic, .int .u8 id] 5 (0, 0))) :
    (convert 57 9 (.slice (some ⟨g, 0, none⟩) 4 4)).run Tryd.prog w = .ok (.string (ofL [UInt8.ofNat a, UInt8.ofNat b, UInt8.ofNat c, UInt8.ofNat d])) w := by
  subst ha; subst hb; subst hc; subst hd
  rw [← ofNat_toNat, ← ofNat_toNat, ← ofNat_toNat, ← ofNat_toNat] at h
  exact conv_bytes w g 0 4 [UInt8.ofNat a, UInt8.ofNat b, UInt8.ofNat c, UInt8.ofNat d] (fun i hi => by
    rw [Nat.zero_add, cell_of_row _ _ _ _ _ _ h]; exact u8s_get _ _ hi)

set_option maxHeartbeats 1600000 in
set_option maxRecDepth 100000 in
theorem whole_any (size : Nat) (c f : List UInt8) (w : World) (hs : size ≤ 1000) (hfit : 4 + c.length + f.length ≤ size) :
    Calls Tryd.prog 97 #[.int .i64 size, .string (ofL c), .string (ofL f)] w fun e w' => e = .returned (.string (ofL (whole size c f))) ∧ Below w.heap.size w w' := by
  have hsc := ofL_size c
  have hsf := ofL_size f
  obtain ⟨cs, hcs⟩ : ∃ cs, cs = ofL c := ⟨_, rfl⟩
  obtain ⟨fs, hfs⟩ : ∃ fs, fs = ofL f := ⟨_, rfl⟩
  rw [← hcs] at hsc ⊢
  rw [← hfs] at hsf ⊢
  obtain ⟨free, hfree⟩ : ∃ k, k = size - 4 - c.length - f.length := ⟨_, rfl⟩
  have hwr : IntKind.i64.wrap ((size : Int) - 4 - (cs.size : Int) - (fs.size : Int)) = (free : Int) := by
    simp only [IntKind.wrap_i64]; omega
  have hwr0 : (size : Int) - 4 - (cs.size : Int) - (fs.size : Int) = (free : Int) := by omega
  have hu1 : IntKind.u8.wrap ((cs.size : Int) % 256) = (cs.size : Int) % 256 := by show ((cs.size : Int) % 256) % 256 = _; omega
  have hu2 : IntKind.u8.wrap ((cs.size : Int) / 256) = (cs.size : Int) / 256 % 256 := rfl
  have hu3 : IntKind.u8.wrap ((free : Int) % 256) = (free : Int) % 256 := by show ((free : Int) % 256) % 256 = _; omega
  have hu4 : IntKind.u8.wrap ((free : Int) / 256) = (free : Int) / 256 % 256 := rfl
  have hi1 : IntKind.i64.wrap ((cs.size : Int) / 256) = (cs.size : Int) / 256 := by rw [IntWalk.i64_in _ (by omega)]
  have hi2 : IntKind.i64.wrap ((free : Int) / 256) = (free : Int) / 256 := by rw [IntWalk.i64_in _ (by omega)]
  have HF : Hid (ofL (whole size c f) = ofL c ++ ofL (List.replicate free 0) ++ ofL f ++ ofL [UInt8.ofNat c.length, UInt8.ofNat (c.length / 256), UInt8.ofNat free, UInt8.ofNat (free / 256)]) := by
    show _ = _
    rw [ofL_append, ofL_append, ofL_append]
    unfold whole
    rw [← hfree]
    simp only [List.append_assoc]
  obtain ⟨res, hres⟩ : ∃ res, res = ofL (whole size c f) := ⟨_, rfl⟩
  rw [← hres] at HF ⊢
  have hcl : cs.size ≤ 1000 := by omega
  have hfl : free ≤ 1000 := by omega
  have HC4 := Lib.hid (conv_four c.length (c.length / 256) free (free / 256))
  have HSC := Lib.hid hsc
  clear hsc hsf hfree hfit hres
  have hm1 : ((cs.size : Nat) : Int).tmod 256 = (cs.size : Int) % 256 := Int.tmod_eq_emod_of_nonneg (by omega)
  have hd1 : ((cs.size : Nat) : Int).tdiv 256 = (cs.size : Int) / 256 := Int.tdiv_eq_ediv_of_nonneg (by omega)
  have hm2 : ((free : Nat) : Int).tmod 256 = (free : Int) % 256 := Int.tmod_eq_emod_of_nonneg (by omega)
  have hd2 : ((free : Nat) : Int).tdiv 256 = (free : Int) / 256 := Int.tdiv_eq_ediv_of_nonneg (by omega)
  have hcv : ∀ (w : World) (g : Nat), w.heap[g]? = some (.cells #[.int .u8 ((cs.size : Int) % 256), .int .u8 ((cs.size : Int) / 256 % 256), .int .u8 ((free : Int) % 256), .int .u8 ((free : Int) / 256 % 256)] 5 (0, 0)) →
      (convert 57 9 (.slice (some ⟨g, 0, none⟩) 4 4)).run Tryd.prog w = .ok (.string (ofL [UInt8.ofNat c.length, UInt8.ofNat (c.length / 256), UInt8.ofNat free, UInt8.ofNat (free / 256)])) w := by
    intro w g h
    exact HC4.out _ _ _ _ (by rw [← HSC.out]) (by rw [← HSC.out]; omega) rfl (by omega) w g h
  obtain ⟨four, hfour⟩ : ∃ x, x = ofL [UInt8.ofNat c.length, UInt8.ofNat (c.length / 256), UInt8.ofNat free, UInt8.ofNat (free / 256)] := ⟨_, rfl⟩
  rw [← hfour] at HF
  simp only [← hfour] at hcv
  have hcv1 : ∀ w : World, (convert 57 9 (.slice (some ⟨w.heap.size, 0, none⟩) 4 4)).run Tryd.prog (w.alloc (.cells #[.int .u8 ((cs.size : Int) % 256), .int .u8 ((cs.size : Int) / 256 % 256), .int .u8 ((free : Int) % 256), .int .u8 ((free : Int) / 256 % 256)] 5)) =
      .ok (.string four) (w.alloc (.cells #[.int .u8 ((cs.size : Int) % 256), .int .u8 ((cs.size : Int) / 256 % 256), .int .u8 ((free : Int) % 256), .int .u8 ((free : Int) / 256 % 256)] 5)) := fun w => hcv _ _ (heap_alloc_new w _)
  have hcv3 : ∀ w : World, (convert 57 9 (.slice (some ⟨w.heap.size, 0, none⟩) 4 4)).run Tryd.prog (w.alloc (.cells #[.int .u8 ((cs.size : Int) % 256), .int .u8 ((cs.size : Int) / 256 % 256), .int .u8 ((free : Int) % 256), .int .u8 ((free : Int) / 256 % 256)] 5)).drew =
      .ok (.string four) (w.alloc (.cells #[.int .u8 ((cs.size : Int) % 256), .int .u8 ((cs.size : Int) / 256 % 256), .int .u8 ((free : Int) % 256), .int .u8 ((free : Int) / 256 % 256)] 5)).drew := fun w => hcv _ _ (heap_alloc_new w _)
  obtain ⟨zs, hzs⟩ : ∃ x, x = ofL (List.replicate free 0) := ⟨_, rfl⟩
  rw [← hzs, ← hcs, ← hfs] at HF
  have HZ : Hid (∀ w', Calls Tryd.prog 88 #[.int .i64 free] w' fun e w'' => e = .returned (.string zs) ∧ Below w'.heap.size w' w'') := by
    show ∀ _, _
    intro w'
    rw [hzs]
    exact zeros_any free w' hfl
  have hz4 : four.size = 4 := by rw [hfour, ofL_size]; rfl
  have hzz : zs.size = free := by rw [hzs, ofL_size, List.length_replicate]
  obtain ⟨s1, hs1⟩ : ∃ x, x = cs ++ zs := ⟨_, rfl⟩
  obtain ⟨s2, hs2⟩ : ∃ x, x = s1 ++ fs := ⟨_, rfl⟩
  have hs1z : s1.size = cs.size + zs.size := by rw [hs1, ByteArray.size_append]
  have hs2z : s2.size = s1.size + fs.size := by rw [hs2, ByteArray.size_append]
  have hfz : fs.size ≤ 1000 := by omega
  have ha1 : ∀ w, (Op.stringOp .add cs zs).run Tryd.prog w = .ok (.string s1) w := fun w => by rw [hs1]; exact run_string_add_sum w _ _ (by omega)
  have ha2 : ∀ w, (Op.stringOp .add s1 fs).run Tryd.prog w = .ok (.string s2) w := fun w => by rw [hs2]; exact run_string_add_sum w _ _ (by omega)
  have ha3 : ∀ w, (Op.stringOp .add s2 four).run Tryd.prog w = .ok (.string res) w := fun w => by
    rw [show res = s2 ++ four by rw [hs2, hs1]; exact HF.out]; exact run_string_add_sum w _ _ (by omega)
  clear hfour hzs HC4 HSC hcs hfs hz4 hzz hs1 hs2 hs1z hs2z HF
  go_enter Tryd.func97, Tryd.ntmps97
  go_wp2
  go_region_held (fun _ => True) (trivial) (first | (go_at_call 88; refine (HZ.out _).mono ?_; rintro e w2 ⟨rfl, hb2⟩; have hcv2 := hcv w2 w.heap.size ((hb2.block _ (by simp)).trans (heap_alloc_new w _))) | (go_at_call 88; refine (HZ.out _).mono ?_; rintro e w2 ⟨rfl, hb2⟩))
  all_goals
    go_wp2
    go_ret
    first
    | exact ⟨rfl, ((Below.refl _ _).drew.trans hb2).alloc ((Below.refl _ _).drew.trans hb2).size _⟩
    | exact ⟨rfl, bstep (((Below.refl _ _).alloc (Nat.le_refl _) _).drew) hb2⟩
end Go.Proofs.YtnkhifgppcnmkaaDoor

/- The reference of Decode. -/
import Derived.Test.YtnkhifgppcnmkaaDoorB3

/- Walks: the reference's lengths (draft). -/
namespace Go.Proofs.YtnkhifgppcnmkaaDoor
open Go.RowKit Iv

/-- What lengths answers. -/
def LensTo (w : World) (r : Option (List Nat)) (e : Ending) (w' : World) : Prop :=
  Below w.heap.size w w' ∧ match r with
    | some ns => ∃ v, e = .returned v ∧ OwnI w.heap.size w' v ns
    | none => ∃ g, e = .returned (.slice (some ⟨g, 0, none⟩) 1 1) ∧ w'.heap[g]? = some (.cells #[.int .i64 (-1)] 3 (0, 0))

set_option maxHeartbeats 6400000 in
set_option maxRecDepth 100000 in
theorem lengths_any (n : Nat) (d : ByteArray) (w : World) (hn : n ≤ 512) (hn2 : 128 ≤ n) (hd : d.size = n) :
    Calls Tryd.prog 86 #[.int .i64 n, .string d] w fun e w' => LensTo w (lensR n d (endOf n d) n ((n : Int) - 7) []) e w' := by
  have HDM : Hid (d.size ≤ maxLen) := by show _ ≤ _; unfold maxLen; omega
  have HDN := Lib.hid hd
  have HT1 : Hid (∀ w', Calls Tryd.prog 128 #[.string d, .int .i64 ((n : Int) - 4)] w' fun e w'' => e = .returned (.int .i64 (twoOf d (n - 4) : Nat)) ∧ Below w'.heap.size w' w'') := by
    show ∀ _, _
    intro w'
    have := number_any d (n - 4) w' (by omega) HDM.out
    rwa [show ((n - 4 : Nat) : Int) = (n : Int) - 4 by omega] at this
  have HT2 : Hid (∀ w', Calls Tryd.prog 128 #[.string d, .int .i64 ((n : Int) - 2)] w' fun e w'' => e = .returned (.int .i64 (twoOf d (n - 2) : Nat)) ∧ Below w'.heap.size w' w'') := by
    show ∀ _, _
    intro w'
    have := number_any d (n - 2) w' (by omega) HDM.out
    rwa [show ((n - 2 : Nat) : Int) = (n : Int) - 2 by omega] at this
  obtain ⟨P, hP⟩ : ∃ P, P = lensR n d (endOf n d) n ((n : Int) - 7) [] := ⟨_, rfl⟩
  rw [← hP]
  obtain ⟨E, hE⟩ : ∃ E, E = endOf n d := ⟨_, rfl⟩
  have hsum : twoOf d (n - 4) + twoOf d (n - 2) = E := hE.symm
  rw [← hE] at hP
  have ht1 := twoOf_lt d (n - 4)
  have ht2 := twoOf_lt d (n - 2)
  obtain ⟨t1, hst1⟩ : ∃ t, t = twoOf d (n - 4) := ⟨_, rfl⟩
  obtain ⟨t2, hst2⟩ : ∃ t, t = twoOf d (n - 2) := ⟨_, rfl⟩
  rw [← hst1] at HT1 ht1 hsum
  rw [← hst2] at HT2 ht2 hsum
  have HP := Lib.hid hP
  have HE := Lib.hid hE
  clear hst1 hst2 hd hP hE
  have hwt : IntKind.i64.wrap ((t1 : Int) + (t2 : Int)) = (E : Int) := by rw [IntWalk.i64_in _ (by omega)]; omega
  have hwt2 : (t1 : Int) + (t2 : Int) = (E : Int) := by omega
  go_enter Tryd.func86, Tryd.ntmps86
  go_wp2_with fail
  refine (HT1.out _).mono ?_
  rintro e w1 ⟨rfl, hb1⟩
  go_wp2_with fail
  refine (HT2.out _).mono ?_
  rintro e w2 ⟨rfl, hb2⟩
  have HB2 := Lib.hid (bstep hb1 hb2)
  clear hb1 hb2
  have hm : OwnI w.heap.size (w.alloc (.cells #[] 3)) (.slice (some ⟨w.heap.size, 0, none⟩) 0 0) [] := World.ownsRow_made (e := 3) (size := 1) w #[] 0 (base := w.heap.size) (Nat.le_refl _) (by decide) rfl
  have HOW := Lib.hid (hm.keep HB2.out)
  have HBW := Lib.hid (((Below.refl w.heap.size w).alloc (Nat.le_refl _) (.cells #[] 3)).trans (HB2.out.mono (by simp)))
  clear hm
  go_wp2
  go_loopw [5, 7] (fun x y wr => ∃ (k : Nat) (a : Int) (ns : List Nat) (v : Value), v = x ∧ y = .int .i64 a ∧ P = lensR n d E k a ns ∧ a + 4 ≤ 3 * k ∧ k ≤ n ∧ -7 ≤ a ∧ a + 7 ≤ n ∧ ns.length ≤ (n - k) * 512 ∧ OwnI w.heap.size wr v ns ∧ Below w.heap.size w wr) (fun _ y _ => (intOf y + 10).toNat)
  case atStart =>
    exact ⟨n, (n : Int) - 7, [], _, rfl, rfl, HP.out, by omega, by omega, by omega, by omega, by simp, HOW.out, HBW.out⟩
  case round =>
    obtain ⟨k, a, ns, v, rfl, rfl, hr, hak, hkn, ha7, han, hlen, hown, hb⟩ := hrel
    have HO := Lib.hid hown
    have HB := Lib.hid hb
    clear hown hb HOW HBW HP
    by_cases hgo : (E : Int) ≤ a ∧ 0 ≤ a
    · obtain ⟨k, rfl⟩ : ∃ j, k = j + 1 := ⟨k - 1, by omega⟩
      obtain ⟨p, rfl⟩ : ∃ p : Nat, a = p := ⟨a.toNat, by omega⟩
      rw [lensR, if_pos hgo] at hr
      simp only [Int.toNat_natCast] at hr
      obtain ⟨hgo1, hgo2⟩ := hgo
      have HR := Lib.hid hr
      have HK : Hid (k + 1 ≤ n ∧ ns.length ≤ (n - (k + 1)) * 512 ∧ ns.length ≤ 262144) := ⟨hkn, hlen, by
        have : (n - (k + 1)) * 512 ≤ 512 * 512 := Nat.mul_le_mul_right _ (by omega)
        omega⟩
      clear hr hlen
      have hpn : p + 7 ≤ n := by omega
      have HPD : Hid (p + 2 < d.size) := by show _ < _; have := HDN.out; omega
      have hpd : (p : Int) < (d.size : Int) := by have := HPD.out; omega
      have hix := byteAt_get d p (by have := HPD.out; omega)
      obtain ⟨y, hy⟩ : ∃ y, y = byteAt d p := ⟨_, rfl⟩
      obtain ⟨q, hq⟩ : ∃ q, q = twoOf d (p + 1) := ⟨_, rfl⟩
      rw [← hy] at hix HR
      rw [← hq] at HR
      have HT3 : Hid (∀ w', Calls Tryd.prog 128 #[.string d, .int .i64 ((p : Int) + 1)] w' fun e w'' => e = .returned (.int .i64 (q : Nat)) ∧ Below w'.heap.size w' w'') := by
        show ∀ _, _
        intro w'
        rw [hq]
        exact number_any d (p + 1) w' (by have := HPD.out; omega) HDM.out
      clear hy hq
      go_wp2_with fail
      refine (HT3.out _).mono ?_
      rintro e w6 ⟨rfl, hb6⟩
      have HO6 := Lib.hid (HO.out.keep hb6)
      have HB6 := Lib.hid (bstep HB.out hb6)
      clear hb6
      by_cases hy0 : y = 0
      · subst hy0
        obtain ⟨i3, hi3, hz3, hs3, hb3⟩ := info_parts info3
        have HO7 : Hid (OwnI w.heap.size (w6.alloc (.cells #[.int .i64 q] 3)) v ns) := World.ownsRow.alloc HO6.out _
        go_wp2_with (first | (at_builtin; refine wpList_append_lies _ rfl _ _ 85 rfl w.heap.size 3 i3 _ 1 8 Tryd.underlying85 hi3 hz3 hs3 hb3 rfl (by decide) v ns.length (ints ns) rfl HO7.out ⟨w6.heap.size, 0, none⟩ 1 1 [.int .i64 q] rfl rfl (cell_one_new w6 _ 3) (by simp [Value.oneCell']) (by decide) (by have := HK.out; unfold maxLen; omega) (by have := HK.out; omega) (Nat.le_trans HB6.out.size (by simp)) _ rfl ?_; intro g cap w7 hown7 hgrow7 hat7 hlt7))
        have HW7 := Lib.hid (below_grown (HB6.out.alloc HB6.out.size _) hgrow7 HO7.out)
        rw [ints_snoc] at hown7
        refine ⟨⟨k, (p : Int) - 3, ns ++ [q], _, rfl, rfl, by rw [HR.out, if_pos trivial], by omega, by omega, by omega, by omega, ?_, ?_, HW7.out⟩, by simp [intOf]; omega⟩
        · have := HK.out
          have e : (n - k) * 512 = (n - (k + 1)) * 512 + 512 := by rw [show n - k = (n - (k + 1)) + 1 by omega, Nat.succ_mul]
          rw [List.length_append, e]; simp; omega
        · unfold OwnI; rw [List.length_append]; exact hown7
      · have hyz : ((y : Int) == 0) = false := by simpa using hy0
        rw [if_neg hy0] at HR
        by_cases hfit : y = 64 ∧ (E : Int) ≤ (p : Int) - 3 ∧ byteAt d (((p : Int) - 3).toNat) = 8
        · rw [if_pos hfit] at HR
          obtain ⟨hy64, hE3, h8⟩ := hfit
          subst hy64
          have hp3 : 3 ≤ p := by omega
          obtain ⟨p3, rfl⟩ : ∃ p3, p = p3 + 3 := ⟨p - 3, by omega⟩
          rw [show (((p3 + 3 : Nat) : Int) - 3).toNat = p3 by omega] at h8
          have hix3 := byteAt_get d p3 (by have := HPD.out; omega)
          rw [h8] at hix3
          have hp3d : (p3 : Int) < (d.size : Int) := by omega
          have e3 : ((p3 + 3 : Nat) : Int) - 3 = (p3 : Int) := by omega
          obtain ⟨m, hm⟩ : ∃ m, m = twoOf d (p3 + 1) := ⟨_, rfl⟩
          rw [show p3 + 3 - 2 = p3 + 1 by omega, ← hm] at HR
          have HT4 : Hid (∀ w', Calls Tryd.prog 128 #[.string d, .int .i64 ((p3 : Int) + 3 - 2)] w' fun e w'' => e = .returned (.int .i64 (m : Nat)) ∧ Below w'.heap.size w' w'') := by
            show ∀ _, _
            intro w'
            rw [hm, show ((p3 : Int) + 3 - 2) = ((p3 + 1 : Nat) : Int) by omega]
            exact number_any d (p3 + 1) w' (by have := HPD.out; omega) HDM.out
          clear hm
          go_wp2_with fail
          refine (HT4.out _).mono ?_
          rintro e w7 ⟨rfl, hb7⟩
          have HO7 := Lib.hid (HO6.out.keep hb7)
          have HB7 := Lib.hid (bstep HB6.out hb7)
          clear hb7
          go_wp2
          obtain ⟨M, hM⟩ : ∃ M, M = min m n := ⟨_, rfl⟩
          rw [← hM] at HR
          have HM := Lib.hid hM
          clear hM
          go_loopw [5, 10] (fun x i wq => ∃ j : Nat, i = .int .i64 j ∧ j ≤ M ∧ OwnI w.heap.size wq x (ns ++ List.replicate j q) ∧ Below w.heap.size w wq) (fun _ i _ => M - (intOf i).toNat)
          case atStart => exact ⟨0, rfl, Nat.zero_le _, by simpa using HO7.out, HB7.out⟩
          case round =>
            obtain ⟨j, rfl, hj, hoq, hbq⟩ := hrel
            have HOQ := Lib.hid hoq
            have HBQ := Lib.hid hbq
            clear hoq hbq HO7 HB7 HO6 HB6 HT3 HT4 HO HB
            have HKL : Hid ((ns ++ List.replicate j q).length ≤ 300000 ∧ (ns ++ List.replicate j q).length ≤ (n - (k + 1)) * 512 + j) := by
              have := HK.out
              have := HM.out
              constructor <;> rw [List.length_append, List.length_replicate] <;> omega
            by_cases hjM : j < M
            · have hjm : j < m := by have := HM.out; omega
              have hjn : j < n := by have := HM.out; omega
              obtain ⟨i3, hi3, hz3, hs3, hb3⟩ := info_parts info3
              have HO8 : Hid (OwnI w.heap.size (wr.alloc (.cells #[.int .i64 q] 3)) u5 (ns ++ List.replicate j q)) := World.ownsRow.alloc HOQ.out _
              go_wp2_with (first | (at_builtin; refine wpList_append_lies _ rfl _ _ 85 rfl w.heap.size 3 i3 _ 1 8 Tryd.underlying85 hi3 hz3 hs3 hb3 rfl (by decide) u5 (ns ++ List.replicate j q).length (ints (ns ++ List.replicate j q)) rfl HO8.out ⟨wr.heap.size, 0, none⟩ 1 1 [.int .i64 q] rfl rfl (cell_one_new wr _ 3) (by simp [Value.oneCell']) (by decide) (by have := HKL.out; unfold maxLen; omega) (by have := HKL.out; omega) (Nat.le_trans HBQ.out.size (by simp)) _ rfl ?_; intro g cap w7 hown7 hgrow7 hat7 hlt7))
              have HW7 := Lib.hid (below_grown (HBQ.out.alloc HBQ.out.size _) hgrow7 HO8.out)
              rw [ints_snoc] at hown7
              have hlen : (ns ++ List.replicate j q).length + 1 = ns.length + j + 1 := by simp
              have hown8 : OwnI w.heap.size w7 (.slice (some ⟨g, 0, none⟩) (ns.length + j + 1) cap) (ns ++ List.replicate (j + 1) q) := by
                unfold OwnI
                rw [hlen, List.append_assoc, ← List.replicate_succ'] at hown7
                rw [List.length_append, List.length_replicate]
                exact hown7
              exact ⟨⟨j + 1, by go_num, by omega, hown8, HW7.out⟩, by simp [intOf]; omega⟩
            · have e : j = M := by omega
              subst e
              have hfin : (∃ (k' : Nat) (a : Int) (ns' : List Nat) (v : Value), v = u5 ∧ Value.int .i64 ((p3 : Int) - 3) = .int .i64 a ∧ P = lensR n d E k' a ns' ∧ a + 4 ≤ 3 * (k' : Int) ∧ k' ≤ n ∧ -7 ≤ a ∧ a + 7 ≤ (n : Int) ∧ ns'.length ≤ (n - k') * 512 ∧ OwnI w.heap.size wr v ns' ∧ Below w.heap.size w wr) ∧
                  (intOf (Value.int .i64 ((p3 : Int) - 3)) + 10).toNat < (intOf (Value.int .i64 ((p3 + 3 : Nat) : Int)) + 10).toNat := by
                refine ⟨⟨k, (p3 : Int) - 3, ns ++ List.replicate j q, _, rfl, rfl, ?_, by omega, by omega, by omega, by omega, ?_, HOQ.out, HBQ.out⟩, by simp [intOf]; omega⟩
                · rw [HR.out]; congr 1; omega
                · have h1 := HKL.out.2
                  have h2 := HM.out
                  have e : (n - k) * 512 = (n - (k + 1)) * 512 + 512 := by rw [show n - k = (n - (k + 1)) + 1 by omega, Nat.succ_mul]
                  omega
              have HF := Lib.hid hfin
              clear hfin
              by_cases hjm : j < m
              · have hjn : n ≤ j := by have := HM.out; omega
                go_wp2
                exact HF.out
              · have hjn : m ≤ j := by omega
                go_wp2
                exact HF.out
        · have HPN : Hid (P = none) := by show _ = _; rw [HR.out, if_neg hfit]
          have hend : LensTo w P (.returned (.slice (some ⟨w6.heap.size, 0, none⟩) 1 1)) (w6.alloc (.cells #[.int .i64 (-1)] 3)) := by
            refine ⟨HB6.out.alloc HB6.out.size _, ?_⟩
            rw [HPN.out]
            exact ⟨_, rfl, heap_alloc_new w6 _⟩
          have HE2 := Lib.hid hend
          clear hend
          by_cases hy64 : y = 64
          · subst hy64
            by_cases hE3 : (E : Int) ≤ (p : Int) - 3
            · have hp3 : 3 ≤ p := by omega
              obtain ⟨p3, rfl⟩ : ∃ p3, p = p3 + 3 := ⟨p - 3, by omega⟩
              rw [show (((p3 + 3 : Nat) : Int) - 3).toNat = p3 by omega] at hfit
              have h8 : byteAt d p3 ≠ 8 := fun h => hfit ⟨rfl, hE3, h⟩
              have hix3 := byteAt_get d p3 (by have := HPD.out; omega)
              obtain ⟨z, hz⟩ : ∃ z, z = byteAt d p3 := ⟨_, rfl⟩
              rw [← hz] at hix3 h8
              clear hz hfit
              have h8' : ((z : Int) == 8) = false := by simpa using (by omega : ¬ (z : Int) = 8)
              have hp3d : (p3 : Int) < (d.size : Int) := by have := HPD.out; omega
              have e3 : ((p3 + 3 : Nat) : Int) - 3 = (p3 : Int) := by omega
              go_wp2
              go_ret
              exact HE2.out
            · have hE4 : (p : Int) - 3 < (E : Int) := by omega
              clear hfit
              go_wp2
              go_ret
              exact HE2.out
          · have hy4 : ((y : Int) == 64) = false := by simpa using (by omega : ¬ (y : Int) = 64)
            clear hfit
            go_wp2
            go_ret
            exact HE2.out
    · have HPV : Hid (P = some ns) := by
        show _ = _
        rw [hr]
        cases k with
        | zero => rfl
        | succ k => rw [lensR, if_neg hgo]
      clear hr
      have hneg : a < (E : Int) := by omega
      have hend : LensTo w P (.returned v) wr := ⟨HB.out, by rw [HPV.out]; exact ⟨_, rfl, HO.out⟩⟩
      have HE2 := Lib.hid hend
      clear hend
      go_wp2
      go_ret
      exact HE2.out
end Go.Proofs.YtnkhifgppcnmkaaDoor

/- Walks: the reference's Decode. -/
namespace Go.Proofs.YtnkhifgppcnmkaaDoor
open Go.RowKit Iv

/-- The cells of numbers. -/
def intsZ (zs : List Int) : List Value := zs.map (Value.int .i64)

/-- Cutting by numbers of which one may be negative. -/
def cutZ (size : Nat) (d : ByteArray) : List Int → Nat → List ByteArray → Option (List ByteArray)
  | [], _, out => some out
  | z :: zs, a, out => if z < 0 ∨ (size : Int) < (a : Int) + z then none else cutZ size d zs (a + z.toNat) (out ++ [d.extract a (a + z.toNat)])

theorem cutZ_nat (size : Nat) (d : ByteArray) (ns : List Nat) : ∀ a out, cutZ size d (ns.map Int.ofNat) a out = cutR size d ns a out := by
  induction ns with
  | nil => intro a out; rfl
  | cons n ns ih =>
    intro a out
    rw [List.map_cons, cutZ, cutR]
    simp only [Int.ofNat_eq_natCast, Int.toNat_natCast]
    by_cases h : size < a + n
    · rw [if_pos h, if_pos (by omega)]
    · rw [if_neg h, if_neg (by omega), ← ih]

theorem lensR_len (size : Nat) (d : ByteArray) (e : Nat) : ∀ (k : Nat) (a : Int) (out ns : List Nat), 1 ≤ size → lensR size d e k a out = some ns → ns.length ≤ out.length + k * size := by
  intro k
  induction k with
  | zero => intro a out ns _ h; rw [lensR] at h; injection h with h; subst h; omega
  | succ k ih =>
    intro a out ns hs h
    rw [lensR] at h
    rw [Nat.succ_mul]
    split at h
    · split at h
      · have := ih _ _ _ hs h
        rw [List.length_append, List.length_singleton] at this
        omega
      · split at h
        · have := ih _ _ _ hs h
          rw [List.length_append, List.length_replicate] at this
          omega
        · cases h
    · injection h with h
      subst h
      omega

theorem lensR_small (size : Nat) (d : ByteArray) (e : Nat) : ∀ (k : Nat) (a : Int) (out ns : List Nat), (∀ n ∈ out, n < 65536) → lensR size d e k a out = some ns → ∀ n ∈ ns, n < 65536 := by
  intro k
  induction k with
  | zero => intro a out ns ho h; rw [lensR] at h; injection h with h; subst h; exact ho
  | succ k ih =>
    intro a out ns ho h
    rw [lensR] at h
    split at h
    · split at h
      · refine ih _ _ _ ?_ h
        intro n hn
        rcases List.mem_append.1 hn with hn | hn
        · exact ho n hn
        · rw [List.mem_singleton.1 hn]; exact twoOf_lt _ _
      · split at h
        · refine ih _ _ _ ?_ h
          intro n hn
          rcases List.mem_append.1 hn with hn | hn
          · exact ho n hn
          · rw [(List.mem_replicate.1 hn).2]; exact twoOf_lt _ _
        · cases h
    · injection h with h
      subst h
      exact ho

/-- What lengths answers, as numbers of which one may be negative. -/
theorem lens_ints {w w' : World} {e : Ending} {r : Option (List Nat)} (h : LensTo w r e w') :
    Below w.heap.size w w' ∧ ∃ A c zs, e = .returned (.slice A zs.length c) ∧ RowA w' A (intsZ zs) ∧ ((∃ ns, r = some ns ∧ zs = ns.map Int.ofNat) ∨ (r = none ∧ zs = [-1])) := by
  unfold LensTo at h
  refine ⟨h.1, ?_⟩
  have h2 := h.2
  cases r with
  | some ns =>
    obtain ⟨v, rfl, hown⟩ := h2
    obtain ⟨A, c, rfl, hrow, hc⟩ := own_row hown
    refine ⟨A, c, ns.map Int.ofNat, by simp, ?_, .inl ⟨ns, rfl, rfl⟩⟩
    have : intsZ (ns.map Int.ofNat) = ints ns := by simp [intsZ, ints]
    rw [this]
    exact hrow
  | none =>
    obtain ⟨g, rfl, hg⟩ := h2
    refine ⟨some ⟨g, 0, none⟩, 1, [-1], rfl, fun _ => ⟨g, 0, rfl, blk_lt hg, fun i hi => ?_⟩, .inr ⟨rfl, rfl⟩⟩
    have hi : i < 1 := by simpa [intsZ] using hi
    obtain rfl : i = 0 := by omega
    rw [Nat.zero_add, cell_of_row _ _ 0 _ _ _ hg]
    rfl

set_option maxHeartbeats 800000 in
theorem refEncode_bad (size : Int) (A : Option Addr) (c : Nat) (l : List ByteArray) (w : World) (hl : l.length ≤ maxLen) (hs : StrsA w A l) (h1 : isSz size = true) (h2 : okRec l = false) :
    Calls Tryd.prog 38 #[.int .i64 size, .slice A l.length c] w fun e w' => e = .returned (.tuple #[.string ByteArray.empty, .int .i64 2]) ∧ Below w.heap.size w w' := by
  have HS := Lib.hid hs
  have HLM := Lib.hid hl
  clear hs hl
  go_enter Tryd.func38, Tryd.ntmps38
  go_wp2_with fail
  refine (refIsSize_any _ _).mono ?_
  rintro e w' ⟨rfl, rfl⟩
  go_wp2_with fail
  refine (refAllowed_any A c l _ HLM.out HS.out).mono ?_
  rintro e w' ⟨rfl, rfl⟩
  go_wp2
  go_ret2
  exact ⟨rfl, Below.refl _ _⟩

/-- Encode at records that were cut out of a text. -/
theorem refEncode_cut (size : Int) (A : Option Addr) (c : Nat) (l : List ByteArray) (w : World) (hl : l.length ≤ maxLen) (hs : StrsA w A l) (h1 : isSz size = true) (hk : okRec l = true → l.length ≤ 1000) :
    Calls Tryd.prog 38 #[.int .i64 size, .slice A l.length c] w fun e w' => e = .returned (.tuple #[.string (encodeOf size l).1, .int .i64 (encodeOf size l).2]) ∧ Below w.heap.size w w' := by
  cases h2 : okRec l with
  | false =>
    have he : encodeOf size l = (ByteArray.empty, 2) := by unfold encodeOf; rw [if_neg (by simp [h1]), if_pos h2]
    rw [he]
    exact refEncode_bad size A c l w hl hs h1 h2
  | true => exact refEncode_any size A c l w (hk h2) (fun s hs => by have := (okRec_iff l).1 h2 s hs; omega) hs

/-- An own row lies above every lower bound. -/
theorem own_mono {B B' : Nat} {w : World} {e : TypeId} {size n : Nat} {v : Value} {xs : List Value} (h : w.ownsRow B e size v n xs) (hb : B' ≤ B) : w.ownsRow B' e size v n xs := by
  refine ⟨h.1, ?_⟩
  rcases h.2 with h0 | ⟨g, cap, cur, h1, h2, h3⟩
  · exact .inl h0
  · exact .inr ⟨g, cap, cur, h1, Nat.le_trans hb h2, h3⟩

/-- What the reference's rounds keep of the records so far. -/
def CutOk (n : Nat) (l : List ByteArray) (a k : Nat) : Prop := a ≤ n ∧ l.length = k ∧ (okRec l = true → l.length ≤ a)

theorem CutOk.step {n : Nat} {l : List ByteArray} {a k m : Nat} {d : ByteArray} (h : CutOk n l a k) (hd : d.size = n) (hm : a + m ≤ n) : CutOk n (l ++ [d.extract a (a + m)]) (a + m) (k + 1) := by
  obtain ⟨h1, h2, h3⟩ := h
  refine ⟨hm, by simp [h2], fun hk => ?_⟩
  have hk1 := (okRec_iff _).1 hk
  have hk2 : okRec l = true := (okRec_iff l).2 fun s hs => hk1 s (List.mem_append_left _ hs)
  have hk3 := hk1 (d.extract a (a + m)) (by simp)
  rw [ByteArray.size_extract] at hk3
  have := h3 hk2
  rw [List.length_append, List.length_singleton]
  omega

set_option maxHeartbeats 6400000 in
set_option maxRecDepth 100000 in
theorem refDecode_own (size : Int) (d : ByteArray) (w : World) (hd : d.size ≤ 1000) :
    Calls Tryd.prog 32 #[.int .i64 size, .string d] w fun e w' => DecodedO w (decodeOf size d) e w' := by
  have hdm : d.size ≤ maxLen := by unfold maxLen; omega
  have HDM := Lib.hid hdm
  clear hdm
  rw [← decode_readers]
  cases h1 : isSz size with
  | false =>
    have he : decodeWith size d (parseR size.toNat d) = ([], 1) := by unfold decodeWith; rw [if_pos h1]
    rw [he]
    go_enter Tryd.func32, Tryd.ntmps32
    go_wp2_with fail
    refine (refIsSize_any _ _).mono ?_
    rintro e w' ⟨rfl, rfl⟩
    go_wp2
    go_ret2
    exact decodedO_err _ _ _ (Below.refl _ _)
  | true =>
    by_cases h2 : (d.size : Int) = size
    · obtain ⟨n, rfl, hn, hn2⟩ : ∃ n : Nat, size = n ∧ n ≤ 512 ∧ 128 ≤ n := by
        rcases isSz_cases h1 with h | h | h <;> subst h
        · exact ⟨128, rfl, by omega, by omega⟩
        · exact ⟨256, rfl, by omega, by omega⟩
        · exact ⟨512, rfl, by omega, by omega⟩
      have hdn : d.size = n := by omega
      have HDN := Lib.hid hdn
      have hneq : ((d.size : Int) != (n : Int)) = false := by simp [hdn]
      have HL1 : Hid (d.size ≤ 1000) := hd
      cases hu : unusedOf d with
      | true =>
        have he : decodeWith n d (parseR (n : Int).toNat d) = ([], 9) := by unfold decodeWith; rw [if_neg (by simp [h1]), if_neg (by omega), if_pos hu]
        rw [he]
        clear h2 hdn
        go_enter Tryd.func32, Tryd.ntmps32
        go_wp2_with fail
        refine (refIsSize_any _ _).mono ?_
        rintro e w' ⟨rfl, rfl⟩
        go_wp2_with fail
        refine (refUnused_any d _ HL1.out).mono ?_
        rintro e w1 ⟨rfl, hb1⟩
        go_wp2
        go_ret2
        exact decodedO_err _ _ _ hb1
      | false =>
        obtain ⟨ans, hans⟩ : ∃ ans, ans = decodeWith n d (parseR (n : Int).toNat d) := ⟨_, rfl⟩
        rw [← hans]
        have he : ans = match parseR n d with | none => ([], 11) | some l => if encodeOf n l = (d, 0) then (l, 0) else ([], 11) := by
          rw [hans]
          unfold decodeWith
          rw [if_neg (by simp [h1]), if_neg (by omega), if_neg (by simp [hu]), Int.toNat_natCast]
          cases parseR n d <;> rfl
        have HA1 : Hid (parseR n d = none → ans = ([], 11)) := by
          show _ → _
          intro h; rw [he, h]
        have HA2 : Hid (∀ l, parseR n d = some l → ans = if encodeOf n l = (d, 0) then (l, 0) else ([], 11)) := by
          show ∀ _, _
          intro l h; rw [he, h]
        have HSZ := Lib.hid h1
        clear h2 hdn hans he
        go_enter Tryd.func32, Tryd.ntmps32
        go_wp2_with fail
        refine (refIsSize_any _ _).mono ?_
        rintro e w' ⟨rfl, rfl⟩
        go_wp2_with fail
        refine (refUnused_any d _ HL1.out).mono ?_
        rintro e w1 ⟨rfl, hb1⟩
        go_wp2_with fail
        refine (lengths_any n d _ hn hn2 HDN.out).mono ?_
        intro e w2 hlens
        obtain ⟨hb2, A, c, zs, rfl, hrow, hzs⟩ := lens_ints hlens
        have HZC : Hid (cutZ n d zs 0 [] = parseR n d) := by
          show _ = _
          unfold parseR
          rcases hzs with ⟨ns, hr, rfl⟩ | ⟨hr, rfl⟩
          · rw [hr, cutZ_nat]; rfl
          · rw [hr]; rfl
        have HZL : Hid (zs.length ≤ 300000) := by
          show _ ≤ _
          rcases hzs with ⟨ns, hr, rfl⟩ | ⟨hr, rfl⟩
          · have := lensR_len n d _ _ _ _ _ (by omega) hr
            have h3 : n * n ≤ 512 * 512 := Nat.mul_le_mul hn hn
            rw [List.length_map]; simp at this; omega
          · simp
        have HZB : Hid (∀ z ∈ zs, z < 65536) := by
          show ∀ _, _
          rcases hzs with ⟨ns, hr, rfl⟩ | ⟨hr, rfl⟩
          · intro z hz
            obtain ⟨n', hn', rfl⟩ := List.mem_map.1 hz
            have := lensR_small n d _ _ _ _ _ (by simp) hr n' hn'
            simp only [Int.ofNat_eq_natCast]; omega
          · intro z hz; rw [List.mem_singleton.1 hz]; omega
        have HB2 := Lib.hid (bstep hb1 hb2)
        have HROW := Lib.hid hrow
        clear hlens hzs hb1 hb2 hrow h1
        have hm : OwnS w2.heap.size (w2.alloc (.cells #[] 9)) (.slice (some ⟨w2.heap.size, 0, none⟩) 0 0) [] := World.ownsRow_made (e := 9) (size := 1) w2 #[] 0 (Nat.le_refl _) (by decide) rfl
        have HOW := Lib.hid hm
        have HBW := Lib.hid ((Below.refl w2.heap.size w2).alloc (Nat.le_refl _) (.cells #[] 9))
        clear hm
        go_wp2
        go_loopw [7, 8, 9] (fun x y z wr => ∃ (k a : Nat) (l : List ByteArray), y = .int .i64 a ∧ z = .int .i64 k ∧ k ≤ zs.length ∧ parseR n d = cutZ n d (zs.drop k) a l ∧ CutOk n l a k ∧ OwnS w2.heap.size wr x l ∧ Below w2.heap.size w2 wr) (fun _ _ z _ => zs.length - (intOf z).toNat)
        case atStart => exact ⟨0, 0, [], rfl, rfl, Nat.zero_le _, HZC.out.symm, ⟨by omega, rfl, fun _ => by simp⟩, HOW.out, HBW.out⟩
        case round =>
          obtain ⟨k, a, l, rfl, rfl, hk, hr, hcut, hown, hb2⟩ := hrel
          clear HOW HBW HZC
          have HB2W := Lib.hid hb2
          have hb := bstep HB2.out hb2
          have HO := Lib.hid hown
          have HB := Lib.hid hb
          have HROWW := Lib.hid (HROW.out.keep hb2)
          have HCUT := Lib.hid hcut
          have HERR : Hid (parseR n d = none → ∀ w', Below w.heap.size w w' → DecodedO w ans (.returned (.tuple #[.slice none 0 0, .int .i64 11])) w') := by
            show _ → _
            intro hPn w' hw'
            rw [HA1.out hPn]
            exact decodedO_err _ _ _ hw'
          clear hown hb hb2 hcut
          by_cases hlt : k < zs.length
          · obtain ⟨b, o, rfl, hbs, hcells⟩ := HROWW.out (by simp [intsZ]; omega)
            obtain ⟨z, hz⟩ : ∃ z, z = zs[k] := ⟨_, rfl⟩
            have hcell : wr.cell? ⟨b, o + k, none⟩ = some (.int .i64 z) := by rw [hcells k (by simpa [intsZ] using hlt), hz]; simp [intsZ, hlt]
            rw [List.drop_eq_getElem_cons hlt, ← hz, cutZ] at hr
            have HCELL : Hid (∀ w', RowA w' (some ⟨b, o, none⟩) (intsZ zs) → w'.cell? ⟨b, o + k, none⟩ = some (.int .i64 z)) := by
              show ∀ _, _
              intro w' hrw
              obtain ⟨b', o', e, _, hc'⟩ := hrw (by simp [intsZ]; omega)
              simp only [Option.some.injEq, Addr.mk.injEq, and_true] at e
              obtain ⟨rfl, rfl⟩ := e
              rw [hc' k (by simpa [intsZ] using hlt), hz]; simp [intsZ, hlt]
            have hzb : z < 65536 := by rw [hz]; exact HZB.out _ (List.getElem_mem hlt)
            clear hz hcells hbs
            by_cases hneg : z < 0
            · rw [if_pos (.inl hneg)] at hr
              have HR := Lib.hid hr
              clear hr
              go_wp2
              go_ret2
              exact HERR.out HR.out _ HB.out
            · obtain ⟨m, rfl⟩ : ∃ m : Nat, z = m := ⟨z.toNat, by omega⟩
              have ha : a ≤ n := HCUT.out.1
              have hZL : k < 300000 := by have := HZL.out; omega
              by_cases hbig : n < a + m
              · rw [if_pos (.inr (by omega))] at hr
                have HR := Lib.hid hr
                clear hr
                have hbi : (n : Int) < (a : Int) + (m : Int) := by omega
                go_wp2
                go_ret2
                exact HERR.out HR.out _ HB.out
              · rw [if_neg (by omega)] at hr
                simp only [Int.toNat_natCast] at hr
                have HR := Lib.hid hr
                have HLL : Hid (l.length ≤ 300000) := by show _ ≤ _; rw [HCUT.out.2.1]; omega
                have HC2 := Lib.hid (HCUT.out.step (m := m) HDN.out (by omega))
                clear hr hneg hzb
                have hmn : a + m ≤ n := by omega
                have q1 : (a : Int) ≤ (a : Int) + (m : Int) := by omega
                have q2 : (a : Int) + (m : Int) ≤ (d.size : Int) := by have := HDN.out; omega
                have q4 : ((a : Int) + (m : Int)).toNat = a + m := by omega
                obtain ⟨i9, hi9, hz9, hs9, hb9⟩ := info9
                have HI := Lib.hid HB.out.size
                go_wp2_with (first | (at_builtin; refine wpl_push elemStr rfl _ _ rfl u7 l.length (l.map Value.string) [.string (d.extract a (a + m))] rfl HO.out HB2W.out rfl rfl (by simp [Value.oneCell']) (by have := HLL.out; unfold maxLen; omega) (by have := HLL.out; omega) ?_; intro g cap w7 hown7 hb7; have HB7 := Lib.hid hb7; have hcell7 : w7.cell? ⟨b, o + k, none⟩ = some (.int .i64 m) := (HROW.out.keep hb7 |> fun h => (HCELL.out w7 h)); clear hb7))
                refine ⟨⟨k + 1, a + m, l ++ [d.extract a (a + m)], rfl, rfl, by omega, HR.out, HC2.out, ?_, HB7.out⟩, by simp [intOf]; omega⟩
                unfold OwnS
                rw [List.length_append, List.length_singleton, List.map_append]
                exact hown7
          · obtain rfl : k = zs.length := by omega
            rw [List.drop_length, cutZ] at hr
            obtain ⟨A, c, rfl, hstr, hlc⟩ := own_strs HO.out
            have HENC : Hid (∀ w', Below wr.heap.size wr w' → Calls Tryd.prog 38 #[.int .i64 n, .slice A l.length c] w' fun e w'' => e = .returned (.tuple #[.string (encodeOf n l).1, .int .i64 (encodeOf n l).2]) ∧ Below w'.heap.size w' w'') := by
              show ∀ _, _
              intro w' hw'
              have h1 := HCUT.out
              have h2 := HZL.out
              exact refEncode_cut n A c l w' (by unfold maxLen; rw [h1.2.1]; omega) (hstr.keep hw') HSZ.out (fun hk => by have := h1.2.2 hk; have := h1.1; omega)
            have HSTR := Lib.hid hstr
            have HLC := Lib.hid hlc
            have HRES := Lib.hid (HA2.out l hr)
            clear hr hstr hlc hk
            rcases hxe : encodeOf n l with ⟨x, e2⟩
            rw [hxe] at HENC HRES
            clear hxe
            go_wp2_with fail
            refine (HENC.out _ (Below.refl _ _)).mono ?_
            rintro e w6 ⟨rfl, hb6⟩
            have HB6 := Lib.hid (bstep HB.out hb6)
            have HOWN6 : Hid (OwnS w.heap.size w6 (.slice A l.length c) l) := own_mono (own_keep HO.out hb6) HB2.out.size
            clear hb6
            by_cases he : e2 = 0
            · subst he
              by_cases hx : x = d
              · subst hx
                go_wp2
                go_ret2
                rw [show ans = (l, 0) by rw [HRES.out]; simp]
                exact ⟨_, rfl, HOWN6.out, HB6.out⟩
              · have hxn := bytes_ne hx
                have HX := Lib.hid hx
                clear hx
                go_wp2
                go_ret2
                rw [HRES.out, if_neg (by intro h; injection h with h _; exact HX.out h)]
                exact decodedO_err _ _ _ HB6.out
            · have hen : (e2 != 0) = true := by simp [he]
              have HEN := Lib.hid he
              clear he
              go_wp2
              go_ret2
              rw [HRES.out, if_neg (by intro h; injection h with _ h; exact HEN.out h)]
              exact decodedO_err _ _ _ HB6.out
    · have he : decodeWith size d (parseR size.toNat d) = ([], 11) := by unfold decodeWith; rw [if_neg (by simp [h1]), if_pos h2]
      rw [he]
      have hne : ((d.size : Int) != size) = true := by simp [h2]
      clear h2
      go_enter Tryd.func32, Tryd.ntmps32
      go_wp2_with fail
      refine (refIsSize_any _ _).mono ?_
      rintro e w' ⟨rfl, rfl⟩
      go_wp2
      go_ret2
      exact decodedO_err _ _ _ (Below.refl _ _)
theorem refDecode_any (size : Int) (d : ByteArray) (w : World) (hd : d.size ≤ 1000) :
    Calls Tryd.prog 32 #[.int .i64 size, .string d] w fun e w' => DecodedTo w (decodeOf size d) e w' :=
  (refDecode_own size d w hd).mono fun _ _ h => h.to
end Go.Proofs.YtnkhifgppcnmkaaDoor

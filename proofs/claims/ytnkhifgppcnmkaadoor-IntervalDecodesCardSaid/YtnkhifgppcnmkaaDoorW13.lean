/- Walks: the reference's lengths (draft). -/
import Derived.Test.YtnkhifgppcnmkaaDoorW12
namespace Go.Proofs.YtnkhifgppcnmkaaDoor
open Go.RowKit Iv

/-- What lengths answers. -/
def LensTo (w : World) (r : Option (List Nat)) (e : Ending) (w' : World) : Prop :=
  Below w.heap.size w w' ∧ match r with
    | some ns => ∃ v, e = .returned v ∧ OwnI w.heap.size w' v ns
    | none => ∃ g, e = .returned (.slice (some ⟨g, 0, none⟩) 1 1) ∧ w'.heap[g]? = some (.cells #[.int .i64 (-1)] 3 (0, 0))

set_option maxHeartbeats 6400000 in
set_option maxRecDepth 100000 in
theorem lengths_any (n : Nat) (d : ByteArray) (w : World) (hn : n ≤ 512) (hn2 : 128 ≤ n) (hd : d.size = n) :
    Calls Tryd.prog 86 #[.int .i64 n, .string d] w fun e w' => LensTo w (lensR n d (endOf n d) n ((n : Int) - 7) []) e w' := by
  have HDM : Hid (d.size ≤ maxLen) := by show _ ≤ _; unfold maxLen; omega
  have HDN := Lib.hid hd
  have HT1 : Hid (∀ w', Calls Tryd.prog 128 #[.string d, .int .i64 ((n : Int) - 4)] w' fun e w'' => e = .returned (.int .i64 (twoOf d (n - 4) : Nat)) ∧ Below w'.heap.size w' w'') := by
    show ∀ _, _
    intro w'
    have := number_any d (n - 4) w' (by omega) HDM.out
    rwa [show ((n - 4 : Nat) : Int) = (n : Int) - 4 by omega] at this
  have HT2 : Hid (∀ w', Calls Tryd.prog 128 #[.string d, .int .i64 ((n : Int) - 2)] w' fun e w'' => e = .returned (.int .i64 (twoOf d (n - 2) : Nat)) ∧ Below w'.heap.size w' w'') := by
    show ∀ _, _
    intro w'
    have := number_any d (n - 2) w' (by omega) HDM.out
    rwa [show ((n - 2 : Nat) : Int) = (n : Int) - 2 by omega] at this
  obtain ⟨P, hP⟩ : ∃ P, P = lensR n d (endOf n d) n ((n : Int) - 7) [] := ⟨_, rfl⟩
  rw [← hP]
  obtain ⟨E, hE⟩ : ∃ E, E = endOf n d := ⟨_, rfl⟩
  have hsum : twoOf d (n - 4) + twoOf d (n - 2) = E := hE.symm
  rw [← hE] at hP
  have ht1 := twoOf_lt d (n - 4)
  have ht2 := twoOf_lt d (n - 2)
  obtain ⟨t1, hst1⟩ : ∃ t, t = twoOf d (n - 4) := ⟨_, rfl⟩
  obtain ⟨t2, hst2⟩ : ∃ t, t = twoOf d (n - 2) := ⟨_, rfl⟩
  rw [← hst1] at HT1 ht1 hsum
  rw [← hst2] at HT2 ht2 hsum
  have HP := Lib.hid hP
  have HE := Lib.hid hE
  clear hst1 hst2 hd hP hE
  have hwt : IntKind.i64.wrap ((t1 : Int) + (t2 : Int)) = (E : Int) := by rw [IntWalk.i64_in _ (by omega)]; omega
  have hwt2 : (t1 : Int) + (t2 : Int) = (E : Int) := by omega
  go_enter Tryd.func86, Tryd.ntmps86
  go_wp2_with fail
  refine (HT1.out _).mono ?_
  rintro e w1 ⟨rfl, hb1⟩
  go_wp2_with fail
  refine (HT2.out _).mono ?_
  rintro e w2 ⟨rfl, hb2⟩
  have HB2 := Lib.hid (bstep hb1 hb2)
  clear hb1 hb2
  have hm : OwnI w.heap.size (w.alloc (.cells #[] 3)) (.slice (some ⟨w.heap.size, 0, none⟩) 0 0) [] := World.ownsRow_made (e := 3) (size := 1) w #[] 0 (base := w.heap.size) (Nat.le_refl _) (by decide) rfl
  have HOW := Lib.hid (hm.keep HB2.out)
  have HBW := Lib.hid (((Below.refl w.heap.size w).alloc (Nat.le_refl _) (.cells #[] 3)).trans (HB2.out.mono (by simp)))
  clear hm
  go_wp2
  go_loopw [5, 7] (fun x y wr => ∃ (k : Nat) (a : Int) (ns : List Nat) (v : Value), v = x ∧ y = .int .i64 a ∧ P = lensR n d E k a ns ∧ a + 4 ≤ 3 * k ∧ k ≤ n ∧ -7 ≤ a ∧ a + 7 ≤ n ∧ ns.length ≤ (n - k) * 512 ∧ OwnI w.heap.size wr v ns ∧ Below w.heap.size w wr) (fun _ y _ => (intOf y + 10).toNat)
  case atStart =>
    exact ⟨n, (n : Int) - 7, [], _, rfl, rfl, HP.out, by omega, by omega, by omega, by omega, by simp, HOW.out, HBW.out⟩
  case round =>
    obtain ⟨k, a, ns, v, rfl, rfl, hr, hak, hkn, ha7, han, hlen, hown, hb⟩ := hrel
    have HO := Lib.hid hown
    have HB := Lib.hid hb
    clear hown hb HOW HBW HP
    by_cases hgo : (E : Int) ≤ a ∧ 0 ≤ a
    · obtain ⟨k, rfl⟩ : ∃ j, k = j + 1 := ⟨k - 1, by omega⟩
      obtain ⟨p, rfl⟩ : ∃ p : Nat, a = p := ⟨a.toNat, by omega⟩
      rw [lensR, if_pos hgo] at hr
      simp only [Int.toNat_natCast] at hr
      obtain ⟨hgo1, hgo2⟩ := hgo
      have HR := Lib.hid hr
      have HK : Hid (k + 1 ≤ n ∧ ns.length ≤ (n - (k + 1)) * 512 ∧ ns.length ≤ 262144) := ⟨hkn, hlen, by
        have : (n - (k + 1)) * 512 ≤ 512 * 512 := Nat.mul_le_mul_right _ (by omega)
        omega⟩
      clear hr hlen
      have hpn : p + 7 ≤ n := by omega
      have HPD : Hid (p + 2 < d.size) := by show _ < _; have := HDN.out; omega
      have hpd : (p : Int) < (d.size : Int) := by have := HPD.out; omega
      have hix := byteAt_get d p (by have := HPD.out; omega)
      obtain ⟨y, hy⟩ : ∃ y, y = byteAt d p := ⟨_, rfl⟩
      obtain ⟨q, hq⟩ : ∃ q, q = twoOf d (p + 1) := ⟨_, rfl⟩
      rw [← hy] at hix HR
      rw [← hq] at HR
      have HT3 : Hid (∀ w', Calls Tryd.prog 128 #[.string d, .int .i64 ((p : Int) + 1)] w' fun e w'' => e = .returned (.int .i64 (q : Nat)) ∧ Below w'.heap.size w' w'') := by
        show ∀ _, _
        intro w'
        rw [hq]
        exact number_any d (p + 1) w' (by have := HPD.out; omega) HDM.out
      clear hy hq
      go_wp2_with fail
      refine (HT3.out _).mono ?_
      rintro e w6 ⟨rfl, hb6⟩
      have HO6 := Lib.hid (HO.out.keep hb6)
      have HB6 := Lib.hid (bstep HB.out hb6)
      clear hb6
      by_cases hy0 : y = 0
      · subst hy0
        obtain ⟨i3, hi3, hz3, hs3, hb3⟩ := info_parts info3
        have HO7 : Hid (OwnI w.heap.size (w6.alloc (.cells #[.int .i64 q] 3)) v ns) := World.ownsRow.alloc HO6.out _
        go_wp2_with (first | (at_builtin; refine wpList_append_lies _ rfl _ _ 85 rfl w.heap.size 3 i3 _ 1 8 Tryd.underlying85 hi3 hz3 hs3 hb3 rfl (by decide) v ns.length (ints ns) rfl HO7.out ⟨w6.heap.size, 0, none⟩ 1 1 [.int .i64 q] rfl rfl (cell_one_new w6 _ 3) (by simp [Value.oneCell']) (by decide) (by have := HK.out; unfold maxLen; omega) (by have := HK.out; omega) (Nat.le_trans HB6.out.size (by simp)) _ rfl ?_; intro g cap w7 hown7 hgrow7 hat7 hlt7))
        have HW7 := Lib.hid (below_grown (HB6.out.alloc HB6.out.size _) hgrow7 HO7.out)
        rw [ints_snoc] at hown7
        refine ⟨⟨k, (p : Int) - 3, ns ++ [q], _, rfl, rfl, by rw [HR.out, if_pos trivial], by omega, by omega, by omega, by omega, ?_, ?_, HW7.out⟩, by simp [intOf]; omega⟩
        · have := HK.out
          have e : (n - k) * 512 = (n - (k + 1)) * 512 + 512 := by rw [show n - k = (n - (k + 1)) + 1 by omega, Nat.succ_mul]
          rw [List.length_append, e]; simp; omega
        · unfold OwnI; rw [List.length_append]; exact hown7
      · have hyz : ((y : Int) == 0) = false := by simpa using hy0
        rw [if_neg hy0] at HR
        by_cases hfit : y = 64 ∧ (E : Int) ≤ (p : Int) - 3 ∧ byteAt d (((p : Int) - 3).toNat) = 8
        · rw [if_pos hfit] at HR
          obtain ⟨hy64, hE3, h8⟩ := hfit
          subst hy64
          have hp3 : 3 ≤ p := by omega
          obtain ⟨p3, rfl⟩ : ∃ p3, p = p3 + 3 := ⟨p - 3, by omega⟩
          rw [show (((p3 + 3 : Nat) : Int) - 3).toNat = p3 by omega] at h8
          have hix3 := byteAt_get d p3 (by have := HPD.out; omega)
          rw [h8] at hix3
          have hp3d : (p3 : Int) < (d.size : Int) := by omega
          have e3 : ((p3 + 3 : Nat) : Int) - 3 = (p3 : Int) := by omega
          obtain ⟨m, hm⟩ : ∃ m, m = twoOf d (p3 + 1) := ⟨_, rfl⟩
          rw [show p3 + 3 - 2 = p3 + 1 by omega, ← hm] at HR
          have HT4 : Hid (∀ w', Calls Tryd.prog 128 #[.string d, .int .i64 ((p3 : Int) + 3 - 2)] w' fun e w'' => e = .returned (.int .i64 (m : Nat)) ∧ Below w'.heap.size w' w'') := by
            show ∀ _, _
            intro w'
            rw [hm, show ((p3 : Int) + 3 - 2) = ((p3 + 1 : Nat) : Int) by omega]
            exact number_any d (p3 + 1) w' (by have := HPD.out; omega) HDM.out
          clear hm
          go_wp2_with fail
          refine (HT4.out _).mono ?_
          rintro e w7 ⟨rfl, hb7⟩
          have HO7 := Lib.hid (HO6.out.keep hb7)
          have HB7 := Lib.hid (bstep HB6.out hb7)
          clear hb7
          go_wp2
          obtain ⟨M, hM⟩ : ∃ M, M = min m n := ⟨_, rfl⟩
          rw [← hM] at HR
          have HM := Lib.hid hM
          clear hM
          go_loopw [5, 10] (fun x i wq => ∃ j : Nat, i = .int .i64 j ∧ j ≤ M ∧ OwnI w.heap.size wq x (ns ++ List.replicate j q) ∧ Below w.heap.size w wq) (fun _ i _ => M - (intOf i).toNat)
          case atStart => exact ⟨0, rfl, Nat.zero_le _, by simpa using HO7.out, HB7.out⟩
          case round =>
            obtain ⟨j, rfl, hj, hoq, hbq⟩ := hrel
            have HOQ := Lib.hid hoq
            have HBQ := Lib.hid hbq
            clear hoq hbq HO7 HB7 HO6 HB6 HT3 HT4 HO HB
            have HKL : Hid ((ns ++ List.replicate j q).length ≤ 300000 ∧ (ns ++ List.replicate j q).length ≤ (n - (k + 1)) * 512 + j) := by
              have := HK.out
              have := HM.out
              constructor <;> rw [List.length_append, List.length_replicate] <;> omega
            by_cases hjM : j < M
            · have hjm : j < m := by have := HM.out; omega
              have hjn : j < n := by have := HM.out; omega
              obtain ⟨i3, hi3, hz3, hs3, hb3⟩ := info_parts info3
              have HO8 : Hid (OwnI w.heap.size (wr.alloc (.cells #[.int .i64 q] 3)) u5 (ns ++ List.replicate j q)) := World.ownsRow.alloc HOQ.out _
              go_wp2_with (first | (at_builtin; refine wpList_append_lies _ rfl _ _ 85 rfl w.heap.size 3 i3 _ 1 8 Tryd.underlying85 hi3 hz3 hs3 hb3 rfl (by decide) u5 (ns ++ List.replicate j q).length (ints (ns ++ List.replicate j q)) rfl HO8.out ⟨wr.heap.size, 0, none⟩ 1 1 [.int .i64 q] rfl rfl (cell_one_new wr _ 3) (by simp [Value.oneCell']) (by decide) (by have := HKL.out; unfold maxLen; omega) (by have := HKL.out; omega) (Nat.le_trans HBQ.out.size (by simp)) _ rfl ?_; intro g cap w7 hown7 hgrow7 hat7 hlt7))
              have HW7 := Lib.hid (below_grown (HBQ.out.alloc HBQ.out.size _) hgrow7 HO8.out)
              rw [ints_snoc] at hown7
              have hlen : (ns ++ List.replicate j q).length + 1 = ns.length + j + 1 := by simp
              have hown8 : OwnI w.heap.size w7 (.slice (some ⟨g, 0, none⟩) (ns.length + j + 1) cap) (ns ++ List.replicate (j + 1) q) := by
                unfold OwnI
                rw [hlen, List.append_assoc, ← List.replicate_succ'] at hown7
                rw [List.length_append, List.length_replicate]
                exact hown7
              exact ⟨⟨j + 1, by go_num, by omega, hown8, HW7.out⟩, by simp [intOf]; omega⟩
            · have e : j = M := by omega
              subst e
              have hfin : (∃ (k' : Nat) (a : Int) (ns' : List Nat) (v : Value), v = u5 ∧ Value.int .i64 ((p3 : Int) - 3) = .int .i64 a ∧ P = lensR n d E k' a ns' ∧ a + 4 ≤ 3 * (k' : Int) ∧ k' ≤ n ∧ -7 ≤ a ∧ a + 7 ≤ (n : Int) ∧ ns'.length ≤ (n - k') * 512 ∧ OwnI w.heap.size wr v ns' ∧ Below w.heap.size w wr) ∧
                  (intOf (Value.int .i64 ((p3 : Int) - 3)) + 10).toNat < (intOf (Value.int .i64 ((p3 + 3 : Nat) : Int)) + 10).toNat := by
                refine ⟨⟨k, (p3 : Int) - 3, ns ++ List.replicate j q, _, rfl, rfl, ?_, by omega, by omega, by omega, by omega, ?_, HOQ.out, HBQ.out⟩, by simp [intOf]; omega⟩
                · rw [HR.out]; congr 1; omega
                · have h1 := HKL.out.2
                  have h2 := HM.out
                  have e : (n - k) * 512 = (n - (k + 1)) * 512 + 512 := by rw [show n - k = (n - (k + 1)) + 1 by omega, Nat.succ_mul]
                  omega
              have HF := Lib.hid hfin
              clear hfin
              by_cases hjm : j < m
              · have hjn : n ≤ j := by have := HM.out; omega
                go_wp2
                exact HF.out
              · have hjn : m ≤ j := by omega
                go_wp2
                exact HF.out
        · have HPN : Hid (P = none) := by show _ = _; rw [HR.out, if_neg hfit]
          have hend : LensTo w P (.returned (.slice (some ⟨w6.heap.size, 0, none⟩) 1 1)) (w6.alloc (.cells #[.int .i64 (-1)] 3)) := by
            refine ⟨HB6.out.alloc HB6.out.size _, ?_⟩
            rw [HPN.out]
            exact ⟨_, rfl, heap_alloc_new w6 _⟩
          have HE2 := Lib.hid hend
          clear hend
          by_cases hy64 : y = 64
          · subst hy64
            by_cases hE3 : (E : Int) ≤ (p : Int) - 3
            · have hp3 : 3 ≤ p := by omega
              obtain ⟨p3, rfl⟩ : ∃ p3, p = p3 + 3 := ⟨p - 3, by omega⟩
              rw [show (((p3 + 3 : Nat) : Int) - 3).toNat = p3 by omega] at hfit
              have h8 : byteAt d p3 ≠ 8 := fun h => hfit ⟨rfl, hE3, h⟩
              have hix3 := byteAt_get d p3 (by have := HPD.out; omega)
              obtain ⟨z, hz⟩ : ∃ z, z = byteAt d p3 := ⟨_, rfl⟩
              rw [← hz] at hix3 h8
              clear hz hfit
              have h8' : ((z : Int) == 8) = false := by simpa using (by omega : ¬ (z : Int) = 8)
              have hp3d : (p3 : Int) < (d.size : Int) := by have := HPD.out; omega
              have e3 : ((p3 + 3 : Nat) : Int) - 3 = (p3 : Int) := by omega
              go_wp2
              go_ret
              exact HE2.out
            · have hE4 : (p : Int) - 3 < (E : Int) := by omega
              clear hfit
              go_wp2
              go_ret
              exact HE2.out
          · have hy4 : ((y : Int) == 64) = false := by simpa using (by omega : ¬ (y : Int) = 64)
            clear hfit
            go_wp2
            go_ret
            exact HE2.out
    · have HPV : Hid (P = some ns) := by
        show _ = _
        rw [hr]
        cases k with
        | zero => rfl
        | succ k => rw [lensR, if_neg hgo]
      clear hr
      have hneg : a < (E : Int) := by omega
      have hend : LensTo w P (.returned v) wr := ⟨HB.out, by rw [HPV.out]; exact ⟨_, rfl, HO.out⟩⟩
      have HE2 := Lib.hid hend
      clear hend
      go_wp2
      go_ret
      exact HE2.out
end Go.Proofs.YtnkhifgppcnmkaaDoor

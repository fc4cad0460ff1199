/- Walks of chapter 18: descriptions, headers, the cluster. -/
import Derived.Test.YtnkhifgppcnmkaaDoorB3
import Derived.Test.YtnkhifgppcnmkaaDoorA1
import Derived.WalkLawsBesides
import Derived.Deep.RegionWith

/- Walks of chapters 16 and 18: descriptions and headers. -/
namespace Go.Proofs.YtnkhifgppcnmkaaDoor
open Go.RowKit Iv

abbrev Ds.v (d : Ds) : Value := .agg #[.int .i64 d.id, .int .i64 d.org, .int .i64 d.fmt, .int .i64 d.len, .int .i64 d.blk, .int .i64 d.kat, .int .i64 d.klen, .int .i64 d.itv, .int .i64 d.area, .int .i64 d.fint, .int .i64 d.farea, .int .i64 d.base, .int .i64 d.aat, .int .i64 d.alen, .bool d.uniq, .int .i64 d.cls, .string d.vol, .string d.owner, .int .i64 d.cre, .int .i64 d.expi, .bool d.arch]
abbrev Hd.v (h : Hd) : Value := .agg #[.int .i64 h.app, .int .i64 h.cnt, .int .i64 h.fin, .int .i64 h.root, .int .i64 h.ht, .int .i64 h.spl, .int .i64 h.areas]

/-- Whether a number is in a range. -/
def inB (n a b : Int) : Bool := decide (a ≤ n ∧ n ≤ b)
theorem inB_true {n a b : Int} (h : inB n a b = true) : a ≤ n ∧ n ≤ b := by simpa [inB] using h
theorem inB_false {n a b : Int} (h : inB n a b = false) : ¬ (a ≤ n ∧ n ≤ b) := by simpa [inB] using h

set_option maxHeartbeats 400000 in
theorem within_any (n a b : Int) (w : World) :
    Calls Tryd.prog 127 #[.int .i64 n, .int .i64 a, .int .i64 b] w fun e w' => e = .returned (.bool (inB n a b)) ∧ w = w' := by
  go_enter Tryd.func127, Tryd.ntmps127
  go_wp2
  all_goals
    go_ret
    exact ⟨ret_bool (by unfold inB; simp_all <;> omega), rfl⟩

set_option maxHeartbeats 400000 in
theorem between_any (n a b : Int) (w : World) :
    Calls Tryd.prog 111 #[.int .i64 n, .int .i64 a, .int .i64 b] w fun e w' => e = .returned (.bool (inB n a b)) ∧ w = w' := by
  go_enter Tryd.func111, Tryd.ntmps111
  go_wp2
  all_goals
    go_ret
    exact ⟨ret_bool (by unfold inB; simp_all <;> omega), rfl⟩

/-- Whether numbers are all 0. -/
def zerosB (l : List Int) : Bool := l.all (· == 0)

theorem zerosB_take (l : List Int) (k : Nat) (h : k < l.length) (ho : zerosB (l.take k) = true) (h1 : l[k] = 0) : zerosB (l.take (k + 1)) = true := by
  unfold zerosB at *
  rw [List.take_succ_eq_append_getElem h, List.all_append, ho]
  simp [h1]
theorem zerosB_bad (l : List Int) (k : Nat) (h : k < l.length) (h1 : l[k] ≠ 0) : zerosB l = false := by
  unfold zerosB
  rw [List.all_eq_false]
  exact ⟨l[k], List.getElem_mem h, by simpa using h1⟩

set_option maxHeartbeats 800000 in
theorem zerosF_any (b : Nat) (c : Nat) (l : List Int) (w : World) (hl : l.length ≤ 1000) (hs : ∀ i (h : i < l.length), w.cell? ⟨b, i, none⟩ = some (.int .i64 l[i])) :
    Calls Tryd.prog 150 #[.slice (some ⟨b, 0, none⟩) l.length c] w fun e w' => e = .returned (.bool (zerosB l)) ∧ w = w' := by
  have HS := Lib.hid hs
  clear hs
  go_enter Tryd.func150, Tryd.ntmps150
  go_wp2
  go_loop [7] (fun i => ∃ k : Nat, k ≤ l.length ∧ i = .int .i64 k ∧ zerosB (l.take k) = true) (fun i => l.length - (intOf i).toNat)
  case atStart => exact ⟨0, by omega, rfl, rfl⟩
  case round =>
    obtain ⟨k, hk, rfl, hok⟩ := hrel
    have HO := Lib.hid hok
    clear hok
    by_cases hlt : k < l.length
    · have hck := HS.out k hlt
      obtain ⟨z, hz⟩ : ∃ z, z = l[k] := ⟨_, rfl⟩
      rw [← hz] at hck
      have HZ := Lib.hid hz
      clear hz
      have hck' : w.cell? ⟨b, k, none⟩ = some (.int .i64 z) := hck
      by_cases h0 : z = 0
      · subst h0
        have HT := Lib.hid (zerosB_take l k hlt HO.out HZ.out.symm)
        go_wp2
        refine ⟨⟨k + 1, by omega, by go_num, HT.out⟩, by simp [intOf]; omega⟩
      · have hne : (z != 0) = true := by simp [h0]
        have HB := Lib.hid (zerosB_bad l k hlt (by rw [← HZ.out]; exact h0))
        clear h0
        go_wp2
        go_ret
        exact ⟨ret_bool HB.out.symm, rfl⟩
    · have hf := HO.out
      rw [List.take_of_length_le (by omega)] at hf
      have HF := Lib.hid hf
      clear hf
      go_wp2
      go_ret
      exact ⟨ret_bool HF.out.symm, rfl⟩

theorem zeroInts_at (w0 : World) (n : Nat) (l : List Int) (hn : w0.heap.size = n) (hl : l.length ≤ 1000) :
    Calls Tryd.prog 150 #[.slice (some ⟨n, 0, none⟩) l.length l.length] (w0.alloc (.cells (l.map (Value.int .i64)).toArray 3)) fun e w' => e = .returned (.bool (zerosB l)) ∧ w0.alloc (.cells (l.map (Value.int .i64)).toArray 3) = w' := by
  refine zerosF_any n l.length l _ hl fun i hi => ?_
  rw [cell_of_row _ _ i _ _ _ (heap_at_alloc hn)]
  simp [hi]

set_option maxHeartbeats 800000 in
set_option maxRecDepth 100000 in
theorem plain_any (h : Hd) (w : World) : Calls Tryd.prog 146 #[Hd.v h] w fun e w' => e = .returned (.bool (plainOf h)) ∧ Below w.heap.size w w' := by
  simp only [Hd.v]
  go_enter Tryd.func146, Tryd.ntmps146
  go_wp2
  all_goals
    go_ret
    exact ⟨ret_bool (by unfold plainOf; simp_all <;> omega), (Below.refl _ _).alloc (Nat.le_refl _) _⟩
theorem zerosB2 {a b : Int} (h : zerosB [a, b] = true) : a = 0 ∧ b = 0 := by simpa [zerosB] using h
theorem zerosB2f {a b : Int} (h : zerosB [a, b] = false) : ¬ (a = 0 ∧ b = 0) := by
  intro hh
  have : zerosB [a, b] = true := by simp [zerosB, hh]
  rw [h] at this; cases this
theorem zerosB5 (a b c d e : Int) : zerosB [a, b, c, d, e] = decide (a = 0 ∧ b = 0 ∧ c = 0 ∧ d = 0 ∧ e = 0) := by
  rw [Bool.eq_iff_iff]; simp [zerosB]

/-- Whether a size is among the first k. -/
def knownB (n : Int) (k : Nat) : Bool := (decide (1 ≤ k) && n == 128) || ((decide (2 ≤ k) && n == 256) || (decide (3 ≤ k) && n == 512))

theorem arr3_0 (w : World) : (Instr.index 207 (.agg #[.int .i64 128, .int .i64 256, .int .i64 512]) (.int .i64 0)).run Tryd.prog w = .ok (.int .i64 128) w := by kernel_rfl
theorem arr3_1 (w : World) : (Instr.index 207 (.agg #[.int .i64 128, .int .i64 256, .int .i64 512]) (.int .i64 1)).run Tryd.prog w = .ok (.int .i64 256) w := by kernel_rfl
theorem arr3_2 (w : World) : (Instr.index 207 (.agg #[.int .i64 128, .int .i64 256, .int .i64 512]) (.int .i64 2)).run Tryd.prog w = .ok (.int .i64 512) w := by kernel_rfl

set_option maxHeartbeats 6400000 in
set_option maxRecDepth 100000 in
theorem valid_any (d : Ds) (w : World) : Calls Tryd.prog 125 #[Ds.v d] w fun e w' => e = .returned (.bool (validOf d)) ∧ Below w.heap.size w w' := by
  simp only [Ds.v]
  have i0 := arr3_0
  have i1 := arr3_1
  have i2 := arr3_2
  go_enter Tryd.func125, Tryd.ntmps125
  go_wp2
  go_loop [4, 9] (fun x y => (y = .int .i64 0 ∧ x = .bool false) ∨ (y = .int .i64 1 ∧ x = .bool (d.itv == 128)) ∨ (y = .int .i64 2 ∧ x = .bool (d.itv == 128 || d.itv == 256)) ∨ (y = .int .i64 3 ∧ x = .bool (d.itv == 128 || (d.itv == 256 || d.itv == 512)))) (fun _ y => 3 - (intOf y).toNat)
  case atStart => exact .inl ⟨rfl, rfl⟩
  case round =>
    rcases hrel with ⟨rfl, rfl⟩ | ⟨rfl, rfl⟩ | ⟨rfl, rfl⟩ | ⟨rfl, rfl⟩
    · go_wp2
      exact ⟨.inr (.inl ⟨rfl, rfl⟩), by simp [intOf]⟩
    · go_wp2
      all_goals first | exact ⟨.inr (.inr (.inl ⟨rfl, rfl⟩)), by simp [intOf]⟩ | exact ⟨⟨_, _, _, .inr (.inr (.inl ⟨rfl, rfl⟩)), rfl, rfl, rfl⟩, by simp [intOf]⟩
    · go_wp2
      all_goals first
        | exact ⟨⟨_, _, _, .inr (.inr (.inr ⟨rfl, rfl⟩)), rfl, rfl, rfl⟩, by simp [intOf]⟩
        | (refine ⟨.inr (.inr (.inr ⟨rfl, ?_⟩)), by simp [intOf]⟩
           first
           | rw [Bool.or_assoc]
           | (simp_all; omega))
    · clear i0 i1 i2
      obtain ⟨K, hK⟩ : ∃ K, K = (d.itv == 128 || (d.itv == 256 || d.itv == 512)) := ⟨_, rfl⟩
      rw [← hK]
      have HK := Lib.hid hK
      clear hK
      cases K with
      | false =>
        have hF : Hid (validOf d = false) := by
          show _ = _
          have := HK.out
          simp at this
          unfold validOf
          simp
          omega
        go_wp2
        go_ret
        exact ⟨ret_bool hF.out.symm, ((Below.refl _ _).alloc (Nat.le_refl _) _).alloc (by simp) _⟩
      | true =>
        have hI : d.itv = 128 ∨ d.itv = 256 ∨ d.itv = 512 := by have := HK.out; simpa using this.symm
        have hI1 : 128 ≤ d.itv := by omega
        have hI2 : d.itv ≤ 512 := by omega
        have HI := Lib.hid hI
        clear hI
        go_wp2_with fail
        refine (within_any _ _ _ _).mono ?_
        rintro e w1 ⟨rfl, rfl⟩
        cases hb1 : inB d.org 1 3 with
        | false =>
          have hF : Hid (validOf d = false) := by
            show _ = _
            have := inB_false hb1
            unfold validOf
            simp
            omega
          go_wp2
          go_ret
          exact ⟨ret_bool hF.out.symm, ((Below.refl _ _).alloc (Nat.le_refl _) _).alloc (by simp) _⟩
        | true =>
          by_cases h200 : 200 ≤ d.itv - 7
          · have h200' : 200 ≤ d.itv - 7 := h200
            go_wp2_with fail
            refine (within_any _ _ _ _).mono ?_
            rintro e w1 ⟨rfl, rfl⟩
            cases hb2 : inB d.len 1 (200) with
            | false =>
              have hF : Hid (validOf d = false) := by
                show _ = _
                have := inB_false hb2
                unfold validOf
                simp
                omega
              go_wp2
              go_ret
              exact ⟨ret_bool hF.out.symm, ((Below.refl _ _).alloc (Nat.le_refl _) _).alloc (by simp) _⟩
            | true =>
              go_wp2_with fail
              refine (zeroInts_at _ _ [d.fmt, d.blk] (by simp) (by simp)).mono ?_
              rintro e w1 ⟨rfl, rfl⟩
              cases hb3 : zerosB [d.fmt, d.blk] with
              | false =>
                have hF : Hid (validOf d = false) := by
                  show _ = _
                  have := zerosB2f hb3
                  unfold validOf
                  simp
                  omega
                go_wp2
                go_ret
                exact ⟨ret_bool hF.out.symm, (((Below.refl _ _).alloc (Nat.le_refl _) _).alloc (by simp) _).alloc (by simp; omega) _⟩
              | true =>
                by_cases ho : d.org = 3
                · have ho3 : (d.org != 3) = false := by simp [ho]
                  by_cases hc0 : d.len ≤ d.itv / 2 - 8
                  · go_wp2_with fail
                    refine (within_any _ _ _ _).mono ?_
                    rintro e w1 ⟨rfl, rfl⟩
                    cases hv1 : inB d.kat 0 (d.len) with
                    | false =>
                      have hF : Hid (validOf d = false) := by
                        show _ = _
                        have := inB_false hv1
                        have := ho
                        unfold validOf
                        simp
                        omega
                      go_wp2
                      go_ret
                      exact ⟨ret_bool hF.out.symm, (((Below.refl _ _).alloc (Nat.le_refl _) _).alloc (by simp) _).alloc (by simp; omega) _⟩
                    | true =>
                      have hw1 := inB_true hv1
                      go_wp2_with fail
                      refine (within_any _ _ _ _).mono ?_
                      rintro e w1 ⟨rfl, rfl⟩
                      cases hv2 : inB d.klen 1 (d.itv / 16) with
                      | false =>
                        have hF : Hid (validOf d = false) := by
                          show _ = _
                          have := inB_false hv2
                          have := ho
                          unfold validOf
                          simp
                          omega
                        go_wp2
                        go_ret
                        exact ⟨ret_bool hF.out.symm, (((Below.refl _ _).alloc (Nat.le_refl _) _).alloc (by simp) _).alloc (by simp; omega) _⟩
                      | true =>
                        have hw2 := inB_true hv2
                        by_cases hc3 : d.kat + d.klen ≤ d.len
                        · go_wp2_with fail
                          refine (within_any _ _ _ _).mono ?_
                          rintro e w1 ⟨rfl, rfl⟩
                          cases hv4 : inB d.area 2 (8) with
                          | false =>
                            have hF : Hid (validOf d = false) := by
                              show _ = _
                              have := inB_false hv4
                              have := ho
                              unfold validOf
                              simp
                              omega
                            go_wp2
                            go_ret
                            exact ⟨ret_bool hF.out.symm, (((Below.refl _ _).alloc (Nat.le_refl _) _).alloc (by simp) _).alloc (by simp; omega) _⟩
                          | true =>
                            have hw4 := inB_true hv4
                            go_wp2_with fail
                            refine (within_any _ _ _ _).mono ?_
                            rintro e w1 ⟨rfl, rfl⟩
                            cases hv5 : inB d.fint 0 (90) with
                            | false =>
                              have hF : Hid (validOf d = false) := by
                                show _ = _
                                have := inB_false hv5
                                have := ho
                                unfold validOf
                                simp
                                omega
                              go_wp2
                              go_ret
                              exact ⟨ret_bool hF.out.symm, (((Below.refl _ _).alloc (Nat.le_refl _) _).alloc (by simp) _).alloc (by simp; omega) _⟩
                            | true =>
                              have hw5 := inB_true hv5
                              go_wp2_with fail
                              refine (within_any _ _ _ _).mono ?_
                              rintro e w1 ⟨rfl, rfl⟩
                              have hF : Hid (inB d.farea 0 (d.area - 1) = validOf d) := by
                                show _ = _
                                have a1 := inB_true hb1
                                have a2 := inB_true hb2
                                have a3 := zerosB2 hb3
                                have a4 := HI.out
                                have a5 := ho
                                unfold validOf inB
                                rw [decide_eq_decide]
                                constructor <;> intro h <;> omega
                              go_wp2
                              go_ret
                              exact ⟨ret_bool hF.out, (((Below.refl _ _).alloc (Nat.le_refl _) _).alloc (by simp) _).alloc (by simp; omega) _⟩
                        · have hd3 : d.len < d.kat + d.klen := by omega
                          have hF : Hid (validOf d = false) := by
                            show _ = _
                            have := hc3
                            have := ho
                            unfold validOf
                            simp
                            omega
                          go_wp2
                          go_ret
                          exact ⟨ret_bool hF.out.symm, (((Below.refl _ _).alloc (Nat.le_refl _) _).alloc (by simp) _).alloc (by simp; omega) _⟩
                  · have hd0 : d.itv / 2 - 8 < d.len := by omega
                    have hF : Hid (validOf d = false) := by
                      show _ = _
                      have := hc0
                      have := ho
                      unfold validOf
                      simp
                      omega
                    go_wp2
                    go_ret
                    exact ⟨ret_bool hF.out.symm, (((Below.refl _ _).alloc (Nat.le_refl _) _).alloc (by simp) _).alloc (by simp; omega) _⟩
                · have ho3 : (d.org != 3) = true := by simp [ho]
                  go_wp2_with fail
                  refine (zeroInts_at _ _ [d.kat, d.klen, d.area, d.fint, d.farea] (by simp) (by simp)).mono ?_
                  rintro e w1 ⟨rfl, rfl⟩
                  have hF : Hid (zerosB [d.kat, d.klen, d.area, d.fint, d.farea] = validOf d) := by
                    show _ = _
                    have a1 := inB_true hb1
                    have a2 := inB_true hb2
                    have a3 := zerosB2 hb3
                    have a4 := HI.out
                    rw [zerosB5]
                    unfold validOf
                    rw [decide_eq_decide]
                    constructor <;> intro h <;> omega
                  go_wp2
                  go_ret
                  exact ⟨ret_bool hF.out, ((((Below.refl _ _).alloc (Nat.le_refl _) _).alloc (by simp) _).alloc (by simp; omega) _).alloc (by simp; omega) _⟩
          · have h200' : d.itv - 7 < 200 := by omega
            go_wp2_with fail
            refine (within_any _ _ _ _).mono ?_
            rintro e w1 ⟨rfl, rfl⟩
            cases hb2 : inB d.len 1 (d.itv - 7) with
            | false =>
              have hF : Hid (validOf d = false) := by
                show _ = _
                have := inB_false hb2
                unfold validOf
                simp
                omega
              go_wp2
              go_ret
              exact ⟨ret_bool hF.out.symm, ((Below.refl _ _).alloc (Nat.le_refl _) _).alloc (by simp) _⟩
            | true =>
              go_wp2_with fail
              refine (zeroInts_at _ _ [d.fmt, d.blk] (by simp) (by simp)).mono ?_
              rintro e w1 ⟨rfl, rfl⟩
              cases hb3 : zerosB [d.fmt, d.blk] with
              | false =>
                have hF : Hid (validOf d = false) := by
                  show _ = _
                  have := zerosB2f hb3
                  unfold validOf
                  simp
                  omega
                go_wp2
                go_ret
                exact ⟨ret_bool hF.out.symm, (((Below.refl _ _).alloc (Nat.le_refl _) _).alloc (by simp) _).alloc (by simp; omega) _⟩
              | true =>
                by_cases ho : d.org = 3
                · have ho3 : (d.org != 3) = false := by simp [ho]
                  by_cases hc0 : d.len ≤ d.itv / 2 - 8
                  · go_wp2_with fail
                    refine (within_any _ _ _ _).mono ?_
                    rintro e w1 ⟨rfl, rfl⟩
                    cases hv1 : inB d.kat 0 (d.len) with
                    | false =>
                      have hF : Hid (validOf d = false) := by
                        show _ = _
                        have := inB_false hv1
                        have := ho
                        unfold validOf
                        simp
                        omega
                      go_wp2
                      go_ret
                      exact ⟨ret_bool hF.out.symm, (((Below.refl _ _).alloc (Nat.le_refl _) _).alloc (by simp) _).alloc (by simp; omega) _⟩
                    | true =>
                      have hw1 := inB_true hv1
                      go_wp2_with fail
                      refine (within_any _ _ _ _).mono ?_
                      rintro e w1 ⟨rfl, rfl⟩
                      cases hv2 : inB d.klen 1 (d.itv / 16) with
                      | false =>
                        have hF : Hid (validOf d = false) := by
                          show _ = _
                          have := inB_false hv2
                          have := ho
                          unfold validOf
                          simp
                          omega
                        go_wp2
                        go_ret
                        exact ⟨ret_bool hF.out.symm, (((Below.refl _ _).alloc (Nat.le_refl _) _).alloc (by simp) _).alloc (by simp; omega) _⟩
                      | true =>
                        have hw2 := inB_true hv2
                        by_cases hc3 : d.kat + d.klen ≤ d.len
                        · go_wp2_with fail
                          refine (within_any _ _ _ _).mono ?_
                          rintro e w1 ⟨rfl, rfl⟩
                          cases hv4 : inB d.area 2 (8) with
                          | false =>
                            have hF : Hid (validOf d = false) := by
                              show _ = _
                              have := inB_false hv4
                              have := ho
                              unfold validOf
                              simp
                              omega
                            go_wp2
                            go_ret
                            exact ⟨ret_bool hF.out.symm, (((Below.refl _ _).alloc (Nat.le_refl _) _).alloc (by simp) _).alloc (by simp; omega) _⟩
                          | true =>
                            have hw4 := inB_true hv4
                            go_wp2_with fail
                            refine (within_any _ _ _ _).mono ?_
                            rintro e w1 ⟨rfl, rfl⟩
                            cases hv5 : inB d.fint 0 (90) with
                            | false =>
                              have hF : Hid (validOf d = false) := by
                                show _ = _
                                have := inB_false hv5
                                have := ho
                                unfold validOf
                                simp
                                omega
                              go_wp2
                              go_ret
                              exact ⟨ret_bool hF.out.symm, (((Below.refl _ _).alloc (Nat.le_refl _) _).alloc (by simp) _).alloc (by simp; omega) _⟩
                            | true =>
                              have hw5 := inB_true hv5
                              go_wp2_with fail
                              refine (within_any _ _ _ _).mono ?_
                              rintro e w1 ⟨rfl, rfl⟩
                              have hF : Hid (inB d.farea 0 (d.area - 1) = validOf d) := by
                                show _ = _
                                have a1 := inB_true hb1
                                have a2 := inB_true hb2
                                have a3 := zerosB2 hb3
                                have a4 := HI.out
                                have a5 := ho
                                unfold validOf inB
                                rw [decide_eq_decide]
                                constructor <;> intro h <;> omega
                              go_wp2
                              go_ret
                              exact ⟨ret_bool hF.out, (((Below.refl _ _).alloc (Nat.le_refl _) _).alloc (by simp) _).alloc (by simp; omega) _⟩
                        · have hd3 : d.len < d.kat + d.klen := by omega
                          have hF : Hid (validOf d = false) := by
                            show _ = _
                            have := hc3
                            have := ho
                            unfold validOf
                            simp
                            omega
                          go_wp2
                          go_ret
                          exact ⟨ret_bool hF.out.symm, (((Below.refl _ _).alloc (Nat.le_refl _) _).alloc (by simp) _).alloc (by simp; omega) _⟩
                  · have hd0 : d.itv / 2 - 8 < d.len := by omega
                    have hF : Hid (validOf d = false) := by
                      show _ = _
                      have := hc0
                      have := ho
                      unfold validOf
                      simp
                      omega
                    go_wp2
                    go_ret
                    exact ⟨ret_bool hF.out.symm, (((Below.refl _ _).alloc (Nat.le_refl _) _).alloc (by simp) _).alloc (by simp; omega) _⟩
                · have ho3 : (d.org != 3) = true := by simp [ho]
                  go_wp2_with fail
                  refine (zeroInts_at _ _ [d.kat, d.klen, d.area, d.fint, d.farea] (by simp) (by simp)).mono ?_
                  rintro e w1 ⟨rfl, rfl⟩
                  have hF : Hid (zerosB [d.kat, d.klen, d.area, d.fint, d.farea] = validOf d) := by
                    show _ = _
                    have a1 := inB_true hb1
                    have a2 := inB_true hb2
                    have a3 := zerosB2 hb3
                    have a4 := HI.out
                    rw [zerosB5]
                    unfold validOf
                    rw [decide_eq_decide]
                    constructor <;> intro h <;> omega
                  go_wp2
                  go_ret
                  exact ⟨ret_bool hF.out, ((((Below.refl _ _).alloc (Nat.le_refl _) _).alloc (by simp) _).alloc (by simp; omega) _).alloc (by simp; omega) _⟩
end Go.Proofs.YtnkhifgppcnmkaaDoor

/- Walks of chapters 16 and 18: the reference's description of a cluster. -/
namespace Go.Proofs.YtnkhifgppcnmkaaDoor
open Go.RowKit Iv

set_option maxHeartbeats 3200000 in
set_option maxRecDepth 100000 in
theorem refValid_1_128 (id fmt len blk kat klen area fint farea base aat alen : Int) (uniq : Bool) (cls : Int) (vol owner : ByteArray) (cre expi : Int) (arch : Bool) (w : World) :
    Calls Tryd.prog 56 #[.agg #[.int .i64 id, .int .i64 1, .int .i64 fmt, .int .i64 len, .int .i64 blk, .int .i64 kat, .int .i64 klen, .int .i64 128, .int .i64 area, .int .i64 fint, .int .i64 farea, .int .i64 base, .int .i64 aat, .int .i64 alen, .bool uniq, .int .i64 cls, .string vol, .string owner, .int .i64 cre, .int .i64 expi, .bool arch]] w fun e w' => e = .returned (.bool (validOf ⟨id, 1, fmt, len, blk, kat, klen, 128, area, fint, farea, base, aat, alen, uniq, cls, vol, owner, cre, expi, arch⟩)) ∧ Below w.heap.size w w' := by
  go_enter Tryd.func56, Tryd.ntmps56
  go_wp2_with fail
  refine (between_any _ _ _ _).mono ?_
  rintro e w1 ⟨rfl, rfl⟩
  cases hb : inB len 1 121 with
  | false =>
    have hF : Hid (validOf ⟨id, 1, fmt, len, blk, kat, klen, 128, area, fint, farea, base, aat, alen, uniq, cls, vol, owner, cre, expi, arch⟩ = false) := by
      show _ = _
      have := inB_false hb
      unfold validOf
      simp
      omega
    go_wp2
    go_ret
    exact ⟨ret_bool hF.out.symm, (Below.refl _ _).alloc (Nat.le_refl _) _⟩
  | true =>
    by_cases h1 : fmt = 0
    · have hn1 : (fmt != 0) = false := by simp [h1]
      have H1 := Lib.hid h1
      clear h1
      by_cases h2 : blk = 0
      · have hn2 : (blk != 0) = false := by simp [h2]
        have H2 := Lib.hid h2
        clear h2
        have hl := inB_true hb
        go_wp2
        all_goals
          go_ret
          refine ⟨ret_bool ?_, (Below.refl _ _).alloc (Nat.le_refl _) _⟩
          have h1 := H1.out
          have h2 := H2.out
          unfold validOf
          first
          | (rw [Bool.eq_iff_iff]; simp; omega)
          | (simp; omega)
      · have hn2 : (blk != 0) = true := by simp [h2]
        have hF : Hid (validOf ⟨id, 1, fmt, len, blk, kat, klen, 128, area, fint, farea, base, aat, alen, uniq, cls, vol, owner, cre, expi, arch⟩ = false) := by
          show _ = _
          have := h2
          unfold validOf
          simp
          omega
        go_wp2
        go_ret
        exact ⟨ret_bool hF.out.symm, (Below.refl _ _).alloc (Nat.le_refl _) _⟩
    · have hn1 : (fmt != 0) = true := by simp [h1]
      have hF : Hid (validOf ⟨id, 1, fmt, len, blk, kat, klen, 128, area, fint, farea, base, aat, alen, uniq, cls, vol, owner, cre, expi, arch⟩ = false) := by
        show _ = _
        have := h1
        unfold validOf
        simp
        omega
      go_wp2
      go_ret
      exact ⟨ret_bool hF.out.symm, (Below.refl _ _).alloc (Nat.le_refl _) _⟩

set_option maxHeartbeats 3200000 in
set_option maxRecDepth 100000 in
theorem refValid_1_256 (id fmt len blk kat klen area fint farea base aat alen : Int) (uniq : Bool) (cls : Int) (vol owner : ByteArray) (cre expi : Int) (arch : Bool) (w : World) :
    Calls Tryd.prog 56 #[.agg #[.int .i64 id, .int .i64 1, .int .i64 fmt, .int .i64 len, .int .i64 blk, .int .i64 kat, .int .i64 klen, .int .i64 256, .int .i64 area, .int .i64 fint, .int .i64 farea, .int .i64 base, .int .i64 aat, .int .i64 alen, .bool uniq, .int .i64 cls, .string vol, .string owner, .int .i64 cre, .int .i64 expi, .bool arch]] w fun e w' => e = .returned (.bool (validOf ⟨id, 1, fmt, len, blk, kat, klen, 256, area, fint, farea, base, aat, alen, uniq, cls, vol, owner, cre, expi, arch⟩)) ∧ Below w.heap.size w w' := by
  go_enter Tryd.func56, Tryd.ntmps56
  go_wp2_with fail
  refine (between_any _ _ _ _).mono ?_
  rintro e w1 ⟨rfl, rfl⟩
  cases hb : inB len 1 200 with
  | false =>
    have hF : Hid (validOf ⟨id, 1, fmt, len, blk, kat, klen, 256, area, fint, farea, base, aat, alen, uniq, cls, vol, owner, cre, expi, arch⟩ = false) := by
      show _ = _
      have := inB_false hb
      unfold validOf
      simp
      omega
    go_wp2
    go_ret
    exact ⟨ret_bool hF.out.symm, (Below.refl _ _).alloc (Nat.le_refl _) _⟩
  | true =>
    by_cases h1 : fmt = 0
    · have hn1 : (fmt != 0) = false := by simp [h1]
      have H1 := Lib.hid h1
      clear h1
      by_cases h2 : blk = 0
      · have hn2 : (blk != 0) = false := by simp [h2]
        have H2 := Lib.hid h2
        clear h2
        have hl := inB_true hb
        go_wp2
        all_goals
          go_ret
          refine ⟨ret_bool ?_, (Below.refl _ _).alloc (Nat.le_refl _) _⟩
          have h1 := H1.out
          have h2 := H2.out
          unfold validOf
          first
          | (rw [Bool.eq_iff_iff]; simp; omega)
          | (simp; omega)
      · have hn2 : (blk != 0) = true := by simp [h2]
        have hF : Hid (validOf ⟨id, 1, fmt, len, blk, kat, klen, 256, area, fint, farea, base, aat, alen, uniq, cls, vol, owner, cre, expi, arch⟩ = false) := by
          show _ = _
          have := h2
          unfold validOf
          simp
          omega
        go_wp2
        go_ret
        exact ⟨ret_bool hF.out.symm, (Below.refl _ _).alloc (Nat.le_refl _) _⟩
    · have hn1 : (fmt != 0) = true := by simp [h1]
      have hF : Hid (validOf ⟨id, 1, fmt, len, blk, kat, klen, 256, area, fint, farea, base, aat, alen, uniq, cls, vol, owner, cre, expi, arch⟩ = false) := by
        show _ = _
        have := h1
        unfold validOf
        simp
        omega
      go_wp2
      go_ret
      exact ⟨ret_bool hF.out.symm, (Below.refl _ _).alloc (Nat.le_refl _) _⟩

set_option maxHeartbeats 3200000 in
set_option maxRecDepth 100000 in
theorem refValid_1_512 (id fmt len blk kat klen area fint farea base aat alen : Int) (uniq : Bool) (cls : Int) (vol owner : ByteArray) (cre expi : Int) (arch : Bool) (w : World) :
    Calls Tryd.prog 56 #[.agg #[.int .i64 id, .int .i64 1, .int .i64 fmt, .int .i64 len, .int .i64 blk, .int .i64 kat, .int .i64 klen, .int .i64 512, .int .i64 area, .int .i64 fint, .int .i64 farea, .int .i64 base, .int .i64 aat, .int .i64 alen, .bool uniq, .int .i64 cls, .string vol, .string owner, .int .i64 cre, .int .i64 expi, .bool arch]] w fun e w' => e = .returned (.bool (validOf ⟨id, 1, fmt, len, blk, kat, klen, 512, area, fint, farea, base, aat, alen, uniq, cls, vol, owner, cre, expi, arch⟩)) ∧ Below w.heap.size w w' := by
  go_enter Tryd.func56, Tryd.ntmps56
  go_wp2_with fail
  refine (between_any _ _ _ _).mono ?_
  rintro e w1 ⟨rfl, rfl⟩
  cases hb : inB len 1 200 with
  | false =>
    have hF : Hid (validOf ⟨id, 1, fmt, len, blk, kat, klen, 512, area, fint, farea, base, aat, alen, uniq, cls, vol, owner, cre, expi, arch⟩ = false) := by
      show _ = _
      have := inB_false hb
      unfold validOf
      simp
      omega
    go_wp2
    go_ret
    exact ⟨ret_bool hF.out.symm, (Below.refl _ _).alloc (Nat.le_refl _) _⟩
  | true =>
    by_cases h1 : fmt = 0
    · have hn1 : (fmt != 0) = false := by simp [h1]
      have H1 := Lib.hid h1
      clear h1
      by_cases h2 : blk = 0
      · have hn2 : (blk != 0) = false := by simp [h2]
        have H2 := Lib.hid h2
        clear h2
        have hl := inB_true hb
        go_wp2
        all_goals
          go_ret
          refine ⟨ret_bool ?_, (Below.refl _ _).alloc (Nat.le_refl _) _⟩
          have h1 := H1.out
          have h2 := H2.out
          unfold validOf
          first
          | (rw [Bool.eq_iff_iff]; simp; omega)
          | (simp; omega)
      · have hn2 : (blk != 0) = true := by simp [h2]
        have hF : Hid (validOf ⟨id, 1, fmt, len, blk, kat, klen, 512, area, fint, farea, base, aat, alen, uniq, cls, vol, owner, cre, expi, arch⟩ = false) := by
          show _ = _
          have := h2
          unfold validOf
          simp
          omega
        go_wp2
        go_ret
        exact ⟨ret_bool hF.out.symm, (Below.refl _ _).alloc (Nat.le_refl _) _⟩
    · have hn1 : (fmt != 0) = true := by simp [h1]
      have hF : Hid (validOf ⟨id, 1, fmt, len, blk, kat, klen, 512, area, fint, farea, base, aat, alen, uniq, cls, vol, owner, cre, expi, arch⟩ = false) := by
        show _ = _
        have := h1
        unfold validOf
        simp
        omega
      go_wp2
      go_ret
      exact ⟨ret_bool hF.out.symm, (Below.refl _ _).alloc (Nat.le_refl _) _⟩

set_option maxHeartbeats 3200000 in
set_option maxRecDepth 100000 in
theorem refValid_2_128 (id fmt len blk kat klen area fint farea base aat alen : Int) (uniq : Bool) (cls : Int) (vol owner : ByteArray) (cre expi : Int) (arch : Bool) (w : World) :
    Calls Tryd.prog 56 #[.agg #[.int .i64 id, .int .i64 2, .int .i64 fmt, .int .i64 len, .int .i64 blk, .int .i64 kat, .int .i64 klen, .int .i64 128, .int .i64 area, .int .i64 fint, .int .i64 farea, .int .i64 base, .int .i64 aat, .int .i64 alen, .bool uniq, .int .i64 cls, .string vol, .string owner, .int .i64 cre, .int .i64 expi, .bool arch]] w fun e w' => e = .returned (.bool (validOf ⟨id, 2, fmt, len, blk, kat, klen, 128, area, fint, farea, base, aat, alen, uniq, cls, vol, owner, cre, expi, arch⟩)) ∧ Below w.heap.size w w' := by
  go_enter Tryd.func56, Tryd.ntmps56
  go_wp2_with fail
  refine (between_any _ _ _ _).mono ?_
  rintro e w1 ⟨rfl, rfl⟩
  cases hb : inB len 1 121 with
  | false =>
    have hF : Hid (validOf ⟨id, 2, fmt, len, blk, kat, klen, 128, area, fint, farea, base, aat, alen, uniq, cls, vol, owner, cre, expi, arch⟩ = false) := by
      show _ = _
      have := inB_false hb
      unfold validOf
      simp
      omega
    go_wp2
    go_ret
    exact ⟨ret_bool hF.out.symm, (Below.refl _ _).alloc (Nat.le_refl _) _⟩
  | true =>
    by_cases h1 : fmt = 0
    · have hn1 : (fmt != 0) = false := by simp [h1]
      have H1 := Lib.hid h1
      clear h1
      by_cases h2 : blk = 0
      · have hn2 : (blk != 0) = false := by simp [h2]
        have H2 := Lib.hid h2
        clear h2
        have hl := inB_true hb
        go_wp2
        all_goals
          go_ret
          refine ⟨ret_bool ?_, (Below.refl _ _).alloc (Nat.le_refl _) _⟩
          have h1 := H1.out
          have h2 := H2.out
          unfold validOf
          first
          | (rw [Bool.eq_iff_iff]; simp; omega)
          | (simp; omega)
      · have hn2 : (blk != 0) = true := by simp [h2]
        have hF : Hid (validOf ⟨id, 2, fmt, len, blk, kat, klen, 128, area, fint, farea, base, aat, alen, uniq, cls, vol, owner, cre, expi, arch⟩ = false) := by
          show _ = _
          have := h2
          unfold validOf
          simp
          omega
        go_wp2
        go_ret
        exact ⟨ret_bool hF.out.symm, (Below.refl _ _).alloc (Nat.le_refl _) _⟩
    · have hn1 : (fmt != 0) = true := by simp [h1]
      have hF : Hid (validOf ⟨id, 2, fmt, len, blk, kat, klen, 128, area, fint, farea, base, aat, alen, uniq, cls, vol, owner, cre, expi, arch⟩ = false) := by
        show _ = _
        have := h1
        unfold validOf
        simp
        omega
      go_wp2
      go_ret
      exact ⟨ret_bool hF.out.symm, (Below.refl _ _).alloc (Nat.le_refl _) _⟩

set_option maxHeartbeats 3200000 in
set_option maxRecDepth 100000 in
theorem refValid_2_256 (id fmt len blk kat klen area fint farea base aat alen : Int) (uniq : Bool) (cls : Int) (vol owner : ByteArray) (cre expi : Int) (arch : Bool) (w : World) :
    Calls Tryd.prog 56 #[.agg #[.int .i64 id, .int .i64 2, .int .i64 fmt, .int .i64 len, .int .i64 blk, .int .i64 kat, .int .i64 klen, .int .i64 256, .int .i64 area, .int .i64 fint, .int .i64 farea, .int .i64 base, .int .i64 aat, .int .i64 alen, .bool uniq, .int .i64 cls, .string vol, .string owner, .int .i64 cre, .int .i64 expi, .bool arch]] w fun e w' => e = .returned (.bool (validOf ⟨id, 2, fmt, len, blk, kat, klen, 256, area, fint, farea, base, aat, alen, uniq, cls, vol, owner, cre, expi, arch⟩)) ∧ Below w.heap.size w w' := by
  go_enter Tryd.func56, Tryd.ntmps56
  go_wp2_with fail
  refine (between_any _ _ _ _).mono ?_
  rintro e w1 ⟨rfl, rfl⟩
  cases hb : inB len 1 200 with
  | false =>
    have hF : Hid (validOf ⟨id, 2, fmt, len, blk, kat, klen, 256, area, fint, farea, base, aat, alen, uniq, cls, vol, owner, cre, expi, arch⟩ = false) := by
      show _ = _
      have := inB_false hb
      unfold validOf
      simp
      omega
    go_wp2
    go_ret
    exact ⟨ret_bool hF.out.symm, (Below.refl _ _).alloc (Nat.le_refl _) _⟩
  | true =>
    by_cases h1 : fmt = 0
    · have hn1 : (fmt != 0) = false := by simp [h1]
      have H1 := Lib.hid h1
      clear h1
      by_cases h2 : blk = 0
      · have hn2 : (blk != 0) = false := by simp [h2]
        have H2 := Lib.hid h2
        clear h2
        have hl := inB_true hb
        go_wp2
        all_goals
          go_ret
          refine ⟨ret_bool ?_, (Below.refl _ _).alloc (Nat.le_refl _) _⟩
          have h1 := H1.out
          have h2 := H2.out
          unfold validOf
          first
          | (rw [Bool.eq_iff_iff]; simp; omega)
          | (simp; omega)
      · have hn2 : (blk != 0) = true := by simp [h2]
        have hF : Hid (validOf ⟨id, 2, fmt, len, blk, kat, klen, 256, area, fint, farea, base, aat, alen, uniq, cls, vol, owner, cre, expi, arch⟩ = false) := by
          show _ = _
          have := h2
          unfold validOf
          simp
          omega
        go_wp2
        go_ret
        exact ⟨ret_bool hF.out.symm, (Below.refl _ _).alloc (Nat.le_refl _) _⟩
    · have hn1 : (fmt != 0) = true := by simp [h1]
      have hF : Hid (validOf ⟨id, 2, fmt, len, blk, kat, klen, 256, area, fint, farea, base, aat, alen, uniq, cls, vol, owner, cre, expi, arch⟩ = false) := by
        show _ = _
        have := h1
        unfold validOf
        simp
        omega
      go_wp2
      go_ret
      exact ⟨ret_bool hF.out.symm, (Below.refl _ _).alloc (Nat.le_refl _) _⟩

set_option maxHeartbeats 3200000 in
set_option maxRecDepth 100000 in
theorem refValid_2_512 (id fmt len blk kat klen area fint farea base aat alen : Int) (uniq : Bool) (cls : Int) (vol owner : ByteArray) (cre expi : Int) (arch : Bool) (w : World) :
    Calls Tryd.prog 56 #[.agg #[.int .i64 id, .int .i64 2, .int .i64 fmt, .int .i64 len, .int .i64 blk, .int .i64 kat, .int .i64 klen, .int .i64 512, .int .i64 area, .int .i64 fint, .int .i64 farea, .int .i64 base, .int .i64 aat, .int .i64 alen, .bool uniq, .int .i64 cls, .string vol, .string owner, .int .i64 cre, .int .i64 expi, .bool arch]] w fun e w' => e = .returned (.bool (validOf ⟨id, 2, fmt, len, blk, kat, klen, 512, area, fint, farea, base, aat, alen, uniq, cls, vol, owner, cre, expi, arch⟩)) ∧ Below w.heap.size w w' := by
  go_enter Tryd.func56, Tryd.ntmps56
  go_wp2_with fail
  refine (between_any _ _ _ _).mono ?_
  rintro e w1 ⟨rfl, rfl⟩
  cases hb : inB len 1 200 with
  | false =>
    have hF : Hid (validOf ⟨id, 2, fmt, len, blk, kat, klen, 512, area, fint, farea, base, aat, alen, uniq, cls, vol, owner, cre, expi, arch⟩ = false) := by
      show _ = _
      have := inB_false hb
      unfold validOf
      simp
      omega
    go_wp2
    go_ret
    exact ⟨ret_bool hF.out.symm, (Below.refl _ _).alloc (Nat.le_refl _) _⟩
  | true =>
    by_cases h1 : fmt = 0
    · have hn1 : (fmt != 0) = false := by simp [h1]
      have H1 := Lib.hid h1
      clear h1
      by_cases h2 : blk = 0
      · have hn2 : (blk != 0) = false := by simp [h2]
        have H2 := Lib.hid h2
        clear h2
        have hl := inB_true hb
        go_wp2
        all_goals
          go_ret
          refine ⟨ret_bool ?_, (Below.refl _ _).alloc (Nat.le_refl _) _⟩
          have h1 := H1.out
          have h2 := H2.out
          unfold validOf
          first
          | (rw [Bool.eq_iff_iff]; simp; omega)
          | (simp; omega)
      · have hn2 : (blk != 0) = true := by simp [h2]
        have hF : Hid (validOf ⟨id, 2, fmt, len, blk, kat, klen, 512, area, fint, farea, base, aat, alen, uniq, cls, vol, owner, cre, expi, arch⟩ = false) := by
          show _ = _
          have := h2
          unfold validOf
          simp
          omega
        go_wp2
        go_ret
        exact ⟨ret_bool hF.out.symm, (Below.refl _ _).alloc (Nat.le_refl _) _⟩
    · have hn1 : (fmt != 0) = true := by simp [h1]
      have hF : Hid (validOf ⟨id, 2, fmt, len, blk, kat, klen, 512, area, fint, farea, base, aat, alen, uniq, cls, vol, owner, cre, expi, arch⟩ = false) := by
        show _ = _
        have := h1
        unfold validOf
        simp
        omega
      go_wp2
      go_ret
      exact ⟨ret_bool hF.out.symm, (Below.refl _ _).alloc (Nat.le_refl _) _⟩

set_option maxHeartbeats 3200000 in
set_option maxRecDepth 100000 in
theorem refValid_3_128 (id fmt len blk kat klen area fint farea base aat alen : Int) (uniq : Bool) (cls : Int) (vol owner : ByteArray) (cre expi : Int) (arch : Bool) (w : World) :
    Calls Tryd.prog 56 #[.agg #[.int .i64 id, .int .i64 3, .int .i64 fmt, .int .i64 len, .int .i64 blk, .int .i64 kat, .int .i64 klen, .int .i64 128, .int .i64 area, .int .i64 fint, .int .i64 farea, .int .i64 base, .int .i64 aat, .int .i64 alen, .bool uniq, .int .i64 cls, .string vol, .string owner, .int .i64 cre, .int .i64 expi, .bool arch]] w fun e w' => e = .returned (.bool (validOf ⟨id, 3, fmt, len, blk, kat, klen, 128, area, fint, farea, base, aat, alen, uniq, cls, vol, owner, cre, expi, arch⟩)) ∧ Below w.heap.size w w' := by
  go_enter Tryd.func56, Tryd.ntmps56
  go_wp2_with fail
  refine (between_any _ _ _ _).mono ?_
  rintro e w1 ⟨rfl, rfl⟩
  cases hb : inB len 1 121 with
  | false =>
    have hF : Hid (validOf ⟨id, 3, fmt, len, blk, kat, klen, 128, area, fint, farea, base, aat, alen, uniq, cls, vol, owner, cre, expi, arch⟩ = false) := by
      show _ = _
      have := inB_false hb
      unfold validOf
      simp
      omega
    go_wp2
    go_ret
    exact ⟨ret_bool hF.out.symm, (Below.refl _ _).alloc (Nat.le_refl _) _⟩
  | true =>
    by_cases h1 : fmt = 0
    · have hn1 : (fmt != 0) = false := by simp [h1]
      have H1 := Lib.hid h1
      clear h1
      by_cases h2 : blk = 0
      · have hn2 : (blk != 0) = false := by simp [h2]
        have H2 := Lib.hid h2
        clear h2
        by_cases hc0 : len ≤ 56
        · go_wp2_with fail
          refine (between_any _ _ _ _).mono ?_
          rintro e w1 ⟨rfl, rfl⟩
          cases hv1 : inB kat 0 200 with
          | false =>
            have hF : Hid (validOf ⟨id, 3, fmt, len, blk, kat, klen, 128, area, fint, farea, base, aat, alen, uniq, cls, vol, owner, cre, expi, arch⟩ = false) := by
              show _ = _
              have := inB_false hv1
              have hl := inB_true hb
              unfold validOf
              simp
              omega
            go_wp2
            go_ret
            exact ⟨ret_bool hF.out.symm, (Below.refl _ _).alloc (Nat.le_refl _) _⟩
          | true =>
            have hw1 := inB_true hv1
            go_wp2_with fail
            refine (between_any _ _ _ _).mono ?_
            rintro e w1 ⟨rfl, rfl⟩
            cases hv2 : inB klen 1 8 with
            | false =>
              have hF : Hid (validOf ⟨id, 3, fmt, len, blk, kat, klen, 128, area, fint, farea, base, aat, alen, uniq, cls, vol, owner, cre, expi, arch⟩ = false) := by
                show _ = _
                have := inB_false hv2
                have hl := inB_true hb
                unfold validOf
                simp
                omega
              go_wp2
              go_ret
              exact ⟨ret_bool hF.out.symm, (Below.refl _ _).alloc (Nat.le_refl _) _⟩
            | true =>
              have hw2 := inB_true hv2
              by_cases hc3 : kat + klen ≤ len
              · go_wp2_with fail
                refine (between_any _ _ _ _).mono ?_
                rintro e w1 ⟨rfl, rfl⟩
                cases hv4 : inB area 2 8 with
                | false =>
                  have hF : Hid (validOf ⟨id, 3, fmt, len, blk, kat, klen, 128, area, fint, farea, base, aat, alen, uniq, cls, vol, owner, cre, expi, arch⟩ = false) := by
                    show _ = _
                    have := inB_false hv4
                    have hl := inB_true hb
                    unfold validOf
                    simp
                    omega
                  go_wp2
                  go_ret
                  exact ⟨ret_bool hF.out.symm, (Below.refl _ _).alloc (Nat.le_refl _) _⟩
                | true =>
                  have hw4 := inB_true hv4
                  go_wp2_with fail
                  refine (between_any _ _ _ _).mono ?_
                  rintro e w1 ⟨rfl, rfl⟩
                  cases hv5 : inB fint 0 90 with
                  | false =>
                    have hF : Hid (validOf ⟨id, 3, fmt, len, blk, kat, klen, 128, area, fint, farea, base, aat, alen, uniq, cls, vol, owner, cre, expi, arch⟩ = false) := by
                      show _ = _
                      have := inB_false hv5
                      have hl := inB_true hb
                      unfold validOf
                      simp
                      omega
                    go_wp2
                    go_ret
                    exact ⟨ret_bool hF.out.symm, (Below.refl _ _).alloc (Nat.le_refl _) _⟩
                  | true =>
                    have hw5 := inB_true hv5
                    go_wp2_with fail
                    refine (between_any _ _ _ _).mono ?_
                    rintro e w1 ⟨rfl, rfl⟩
                    have hF : Hid (inB farea 0 (area - 1) = validOf ⟨id, 3, fmt, len, blk, kat, klen, 128, area, fint, farea, base, aat, alen, uniq, cls, vol, owner, cre, expi, arch⟩) := by
                      show _ = _
                      have hl := inB_true hb
                      have h1 := H1.out
                      have h2 := H2.out
                      unfold validOf inB
                      rw [decide_eq_decide]
                      constructor
                      · intro h; simp; omega
                      · intro h; simp at h; omega
                    go_wp2
                    go_ret
                    exact ⟨ret_bool hF.out, (Below.refl _ _).alloc (Nat.le_refl _) _⟩
              · have hd3 : len < kat + klen := by omega
                have hF : Hid (validOf ⟨id, 3, fmt, len, blk, kat, klen, 128, area, fint, farea, base, aat, alen, uniq, cls, vol, owner, cre, expi, arch⟩ = false) := by
                  show _ = _
                  have := hc3
                  unfold validOf
                  simp
                  omega
                go_wp2
                go_ret
                exact ⟨ret_bool hF.out.symm, (Below.refl _ _).alloc (Nat.le_refl _) _⟩
        · have hd0 : 56 < len := by omega
          have hF : Hid (validOf ⟨id, 3, fmt, len, blk, kat, klen, 128, area, fint, farea, base, aat, alen, uniq, cls, vol, owner, cre, expi, arch⟩ = false) := by
            show _ = _
            have := hc0
            unfold validOf
            simp
            omega
          go_wp2
          go_ret
          exact ⟨ret_bool hF.out.symm, (Below.refl _ _).alloc (Nat.le_refl _) _⟩
      · have hn2 : (blk != 0) = true := by simp [h2]
        have hF : Hid (validOf ⟨id, 3, fmt, len, blk, kat, klen, 128, area, fint, farea, base, aat, alen, uniq, cls, vol, owner, cre, expi, arch⟩ = false) := by
          show _ = _
          have := h2
          unfold validOf
          simp
          omega
        go_wp2
        go_ret
        exact ⟨ret_bool hF.out.symm, (Below.refl _ _).alloc (Nat.le_refl _) _⟩
    · have hn1 : (fmt != 0) = true := by simp [h1]
      have hF : Hid (validOf ⟨id, 3, fmt, len, blk, kat, klen, 128, area, fint, farea, base, aat, alen, uniq, cls, vol, owner, cre, expi, arch⟩ = false) := by
        show _ = _
        have := h1
        unfold validOf
        simp
        omega
      go_wp2
      go_ret
      exact ⟨ret_bool hF.out.symm, (Below.refl _ _).alloc (Nat.le_refl _) _⟩

set_option maxHeartbeats 3200000 in
set_option maxRecDepth 100000 in
theorem refValid_3_256 (id fmt len blk kat klen area fint farea base aat alen : Int) (uniq : Bool) (cls : Int) (vol owner : ByteArray) (cre expi : Int) (arch : Bool) (w : World) :
    Calls Tryd.prog 56 #[.agg #[.int .i64 id, .int .i64 3, .int .i64 fmt, .int .i64 len, .int .i64 blk, .int .i64 kat, .int .i64 klen, .int .i64 256, .int .i64 area, .int .i64 fint, .int .i64 farea, .int .i64 base, .int .i64 aat, .int .i64 alen, .bool uniq, .int .i64 cls, .string vol, .string owner, .int .i64 cre, .int .i64 expi, .bool arch]] w fun e w' => e = .returned (.bool (validOf ⟨id, 3, fmt, len, blk, kat, klen, 256, area, fint, farea, base, aat, alen, uniq, cls, vol, owner, cre, expi, arch⟩)) ∧ Below w.heap.size w w' := by
  go_enter Tryd.func56, Tryd.ntmps56
  go_wp2_with fail
  refine (between_any _ _ _ _).mono ?_
  rintro e w1 ⟨rfl, rfl⟩
  cases hb : inB len 1 200 with
  | false =>
    have hF : Hid (validOf ⟨id, 3, fmt, len, blk, kat, klen, 256, area, fint, farea, base, aat, alen, uniq, cls, vol, owner, cre, expi, arch⟩ = false) := by
      show _ = _
      have := inB_false hb
      unfold validOf
      simp
      omega
    go_wp2
    go_ret
    exact ⟨ret_bool hF.out.symm, (Below.refl _ _).alloc (Nat.le_refl _) _⟩
  | true =>
    by_cases h1 : fmt = 0
    · have hn1 : (fmt != 0) = false := by simp [h1]
      have H1 := Lib.hid h1
      clear h1
      by_cases h2 : blk = 0
      · have hn2 : (blk != 0) = false := by simp [h2]
        have H2 := Lib.hid h2
        clear h2
        by_cases hc0 : len ≤ 120
        · go_wp2_with fail
          refine (between_any _ _ _ _).mono ?_
          rintro e w1 ⟨rfl, rfl⟩
          cases hv1 : inB kat 0 200 with
          | false =>
            have hF : Hid (validOf ⟨id, 3, fmt, len, blk, kat, klen, 256, area, fint, farea, base, aat, alen, uniq, cls, vol, owner, cre, expi, arch⟩ = false) := by
              show _ = _
              have := inB_false hv1
              have hl := inB_true hb
              unfold validOf
              simp
              omega
            go_wp2
            go_ret
            exact ⟨ret_bool hF.out.symm, (Below.refl _ _).alloc (Nat.le_refl _) _⟩
          | true =>
            have hw1 := inB_true hv1
            go_wp2_with fail
            refine (between_any _ _ _ _).mono ?_
            rintro e w1 ⟨rfl, rfl⟩
            cases hv2 : inB klen 1 16 with
            | false =>
              have hF : Hid (validOf ⟨id, 3, fmt, len, blk, kat, klen, 256, area, fint, farea, base, aat, alen, uniq, cls, vol, owner, cre, expi, arch⟩ = false) := by
                show _ = _
                have := inB_false hv2
                have hl := inB_true hb
                unfold validOf
                simp
                omega
              go_wp2
              go_ret
              exact ⟨ret_bool hF.out.symm, (Below.refl _ _).alloc (Nat.le_refl _) _⟩
            | true =>
              have hw2 := inB_true hv2
              by_cases hc3 : kat + klen ≤ len
              · go_wp2_with fail
                refine (between_any _ _ _ _).mono ?_
                rintro e w1 ⟨rfl, rfl⟩
                cases hv4 : inB area 2 8 with
                | false =>
                  have hF : Hid (validOf ⟨id, 3, fmt, len, blk, kat, klen, 256, area, fint, farea, base, aat, alen, uniq, cls, vol, owner, cre, expi, arch⟩ = false) := by
                    show _ = _
                    have := inB_false hv4
                    have hl := inB_true hb
                    unfold validOf
                    simp
                    omega
                  go_wp2
                  go_ret
                  exact ⟨ret_bool hF.out.symm, (Below.refl _ _).alloc (Nat.le_refl _) _⟩
                | true =>
                  have hw4 := inB_true hv4
                  go_wp2_with fail
                  refine (between_any _ _ _ _).mono ?_
                  rintro e w1 ⟨rfl, rfl⟩
                  cases hv5 : inB fint 0 90 with
                  | false =>
                    have hF : Hid (validOf ⟨id, 3, fmt, len, blk, kat, klen, 256, area, fint, farea, base, aat, alen, uniq, cls, vol, owner, cre, expi, arch⟩ = false) := by
                      show _ = _
                      have := inB_false hv5
                      have hl := inB_true hb
                      unfold validOf
                      simp
                      omega
                    go_wp2
                    go_ret
                    exact ⟨ret_bool hF.out.symm, (Below.refl _ _).alloc (Nat.le_refl _) _⟩
                  | true =>
                    have hw5 := inB_true hv5
                    go_wp2_with fail
                    refine (between_any _ _ _ _).mono ?_
                    rintro e w1 ⟨rfl, rfl⟩
                    have hF : Hid (inB farea 0 (area - 1) = validOf ⟨id, 3, fmt, len, blk, kat, klen, 256, area, fint, farea, base, aat, alen, uniq, cls, vol, owner, cre, expi, arch⟩) := by
                      show _ = _
                      have hl := inB_true hb
                      have h1 := H1.out
                      have h2 := H2.out
                      unfold validOf inB
                      rw [decide_eq_decide]
                      constructor
                      · intro h; simp; omega
                      · intro h; simp at h; omega
                    go_wp2
                    go_ret
                    exact ⟨ret_bool hF.out, (Below.refl _ _).alloc (Nat.le_refl _) _⟩
              · have hd3 : len < kat + klen := by omega
                have hF : Hid (validOf ⟨id, 3, fmt, len, blk, kat, klen, 256, area, fint, farea, base, aat, alen, uniq, cls, vol, owner, cre, expi, arch⟩ = false) := by
                  show _ = _
                  have := hc3
                  unfold validOf
                  simp
                  omega
                go_wp2
                go_ret
                exact ⟨ret_bool hF.out.symm, (Below.refl _ _).alloc (Nat.le_refl _) _⟩
        · have hd0 : 120 < len := by omega
          have hF : Hid (validOf ⟨id, 3, fmt, len, blk, kat, klen, 256, area, fint, farea, base, aat, alen, uniq, cls, vol, owner, cre, expi, arch⟩ = false) := by
            show _ = _
            have := hc0
            unfold validOf
            simp
            omega
          go_wp2
          go_ret
          exact ⟨ret_bool hF.out.symm, (Below.refl _ _).alloc (Nat.le_refl _) _⟩
      · have hn2 : (blk != 0) = true := by simp [h2]
        have hF : Hid (validOf ⟨id, 3, fmt, len, blk, kat, klen, 256, area, fint, farea, base, aat, alen, uniq, cls, vol, owner, cre, expi, arch⟩ = false) := by
          show _ = _
          have := h2
          unfold validOf
          simp
          omega
        go_wp2
        go_ret
        exact ⟨ret_bool hF.out.symm, (Below.refl _ _).alloc (Nat.le_refl _) _⟩
    · have hn1 : (fmt != 0) = true := by simp [h1]
      have hF : Hid (validOf ⟨id, 3, fmt, len, blk, kat, klen, 256, area, fint, farea, base, aat, alen, uniq, cls, vol, owner, cre, expi, arch⟩ = false) := by
        show _ = _
        have := h1
        unfold validOf
        simp
        omega
      go_wp2
      go_ret
      exact ⟨ret_bool hF.out.symm, (Below.refl _ _).alloc (Nat.le_refl _) _⟩

set_option maxHeartbeats 3200000 in
set_option maxRecDepth 100000 in
theorem refValid_3_512 (id fmt len blk kat klen area fint farea base aat alen : Int) (uniq : Bool) (cls : Int) (vol owner : ByteArray) (cre expi : Int) (arch : Bool) (w : World) :
    Calls Tryd.prog 56 #[.agg #[.int .i64 id, .int .i64 3, .int .i64 fmt, .int .i64 len, .int .i64 blk, .int .i64 kat, .int .i64 klen, .int .i64 512, .int .i64 area, .int .i64 fint, .int .i64 farea, .int .i64 base, .int .i64 aat, .int .i64 alen, .bool uniq, .int .i64 cls, .string vol, .string owner, .int .i64 cre, .int .i64 expi, .bool arch]] w fun e w' => e = .returned (.bool (validOf ⟨id, 3, fmt, len, blk, kat, klen, 512, area, fint, farea, base, aat, alen, uniq, cls, vol, owner, cre, expi, arch⟩)) ∧ Below w.heap.size w w' := by
  go_enter Tryd.func56, Tryd.ntmps56
  go_wp2_with fail
  refine (between_any _ _ _ _).mono ?_
  rintro e w1 ⟨rfl, rfl⟩
  cases hb : inB len 1 200 with
  | false =>
    have hF : Hid (validOf ⟨id, 3, fmt, len, blk, kat, klen, 512, area, fint, farea, base, aat, alen, uniq, cls, vol, owner, cre, expi, arch⟩ = false) := by
      show _ = _
      have := inB_false hb
      unfold validOf
      simp
      omega
    go_wp2
    go_ret
    exact ⟨ret_bool hF.out.symm, (Below.refl _ _).alloc (Nat.le_refl _) _⟩
  | true =>
    by_cases h1 : fmt = 0
    · have hn1 : (fmt != 0) = false := by simp [h1]
      have H1 := Lib.hid h1
      clear h1
      by_cases h2 : blk = 0
      · have hn2 : (blk != 0) = false := by simp [h2]
        have H2 := Lib.hid h2
        clear h2
        by_cases hc0 : len ≤ 248
        · go_wp2_with fail
          refine (between_any _ _ _ _).mono ?_
          rintro e w1 ⟨rfl, rfl⟩
          cases hv1 : inB kat 0 200 with
          | false =>
            have hF : Hid (validOf ⟨id, 3, fmt, len, blk, kat, klen, 512, area, fint, farea, base, aat, alen, uniq, cls, vol, owner, cre, expi, arch⟩ = false) := by
              show _ = _
              have := inB_false hv1
              have hl := inB_true hb
              unfold validOf
              simp
              omega
            go_wp2
            go_ret
            exact ⟨ret_bool hF.out.symm, (Below.refl _ _).alloc (Nat.le_refl _) _⟩
          | true =>
            have hw1 := inB_true hv1
            go_wp2_with fail
            refine (between_any _ _ _ _).mono ?_
            rintro e w1 ⟨rfl, rfl⟩
            cases hv2 : inB klen 1 32 with
            | false =>
              have hF : Hid (validOf ⟨id, 3, fmt, len, blk, kat, klen, 512, area, fint, farea, base, aat, alen, uniq, cls, vol, owner, cre, expi, arch⟩ = false) := by
                show _ = _
                have := inB_false hv2
                have hl := inB_true hb
                unfold validOf
                simp
                omega
              go_wp2
              go_ret
              exact ⟨ret_bool hF.out.symm, (Below.refl _ _).alloc (Nat.le_refl _) _⟩
            | true =>
              have hw2 := inB_true hv2
              by_cases hc3 : kat + klen ≤ len
              · go_wp2_with fail
                refine (between_any _ _ _ _).mono ?_
                rintro e w1 ⟨rfl, rfl⟩
                cases hv4 : inB area 2 8 with
                | false =>
                  have hF : Hid (validOf ⟨id, 3, fmt, len, blk, kat, klen, 512, area, fint, farea, base, aat, alen, uniq, cls, vol, owner, cre, expi, arch⟩ = false) := by
                    show _ = _
                    have := inB_false hv4
                    have hl := inB_true hb
                    unfold validOf
                    simp
                    omega
                  go_wp2
                  go_ret
                  exact ⟨ret_bool hF.out.symm, (Below.refl _ _).alloc (Nat.le_refl _) _⟩
                | true =>
                  have hw4 := inB_true hv4
                  go_wp2_with fail
                  refine (between_any _ _ _ _).mono ?_
                  rintro e w1 ⟨rfl, rfl⟩
                  cases hv5 : inB fint 0 90 with
                  | false =>
                    have hF : Hid (validOf ⟨id, 3, fmt, len, blk, kat, klen, 512, area, fint, farea, base, aat, alen, uniq, cls, vol, owner, cre, expi, arch⟩ = false) := by
                      show _ = _
                      have := inB_false hv5
                      have hl := inB_true hb
                      unfold validOf
                      simp
                      omega
                    go_wp2
                    go_ret
                    exact ⟨ret_bool hF.out.symm, (Below.refl _ _).alloc (Nat.le_refl _) _⟩
                  | true =>
                    have hw5 := inB_true hv5
                    go_wp2_with fail
                    refine (between_any _ _ _ _).mono ?_
                    rintro e w1 ⟨rfl, rfl⟩
                    have hF : Hid (inB farea 0 (area - 1) = validOf ⟨id, 3, fmt, len, blk, kat, klen, 512, area, fint, farea, base, aat, alen, uniq, cls, vol, owner, cre, expi, arch⟩) := by
                      show _ = _
                      have hl := inB_true hb
                      have h1 := H1.out
                      have h2 := H2.out
                      unfold validOf inB
                      rw [decide_eq_decide]
                      constructor
                      · intro h; simp; omega
                      · intro h; simp at h; omega
                    go_wp2
                    go_ret
                    exact ⟨ret_bool hF.out, (Below.refl _ _).alloc (Nat.le_refl _) _⟩
              · have hd3 : len < kat + klen := by omega
                have hF : Hid (validOf ⟨id, 3, fmt, len, blk, kat, klen, 512, area, fint, farea, base, aat, alen, uniq, cls, vol, owner, cre, expi, arch⟩ = false) := by
                  show _ = _
                  have := hc3
                  unfold validOf
                  simp
                  omega
                go_wp2
                go_ret
                exact ⟨ret_bool hF.out.symm, (Below.refl _ _).alloc (Nat.le_refl _) _⟩
        · have hd0 : 248 < len := by omega
          have hF : Hid (validOf ⟨id, 3, fmt, len, blk, kat, klen, 512, area, fint, farea, base, aat, alen, uniq, cls, vol, owner, cre, expi, arch⟩ = false) := by
            show _ = _
            have := hc0
            unfold validOf
            simp
            omega
          go_wp2
          go_ret
          exact ⟨ret_bool hF.out.symm, (Below.refl _ _).alloc (Nat.le_refl _) _⟩
      · have hn2 : (blk != 0) = true := by simp [h2]
        have hF : Hid (validOf ⟨id, 3, fmt, len, blk, kat, klen, 512, area, fint, farea, base, aat, alen, uniq, cls, vol, owner, cre, expi, arch⟩ = false) := by
          show _ = _
          have := h2
          unfold validOf
          simp
          omega
        go_wp2
        go_ret
        exact ⟨ret_bool hF.out.symm, (Below.refl _ _).alloc (Nat.le_refl _) _⟩
    · have hn1 : (fmt != 0) = true := by simp [h1]
      have hF : Hid (validOf ⟨id, 3, fmt, len, blk, kat, klen, 512, area, fint, farea, base, aat, alen, uniq, cls, vol, owner, cre, expi, arch⟩ = false) := by
        show _ = _
        have := h1
        unfold validOf
        simp
        omega
      go_wp2
      go_ret
      exact ⟨ret_bool hF.out.symm, (Below.refl _ _).alloc (Nat.le_refl _) _⟩

set_option maxHeartbeats 3200000 in
set_option maxRecDepth 100000 in
theorem refValid_any (d : Ds) (w : World) : Calls Tryd.prog 56 #[Ds.v d] w fun e w' => e = .returned (.bool (validOf d)) ∧ Below w.heap.size w w' := by
  simp only [Ds.v]
  by_cases hO : d.org = 1 ∨ d.org = 2 ∨ d.org = 3
  · by_cases hI : d.itv = 128 ∨ d.itv = 256 ∨ d.itv = 512
    · obtain ⟨id, org, fmt, len, blk, kat, klen, itv, area, fint, farea, base, aat, alen, uniq, cls, vol, owner, cre, expi, arch⟩ := d
      dsimp only at hO hI ⊢
      rcases hO with rfl | rfl | rfl
      · rcases hI with rfl | rfl | rfl
        · exact refValid_1_128 _ _ _ _ _ _ _ _ _ _ _ _ _ _ _ _ _ _ _ _
        · exact refValid_1_256 _ _ _ _ _ _ _ _ _ _ _ _ _ _ _ _ _ _ _ _
        · exact refValid_1_512 _ _ _ _ _ _ _ _ _ _ _ _ _ _ _ _ _ _ _ _
      · rcases hI with rfl | rfl | rfl
        · exact refValid_2_128 _ _ _ _ _ _ _ _ _ _ _ _ _ _ _ _ _ _ _ _
        · exact refValid_2_256 _ _ _ _ _ _ _ _ _ _ _ _ _ _ _ _ _ _ _ _
        · exact refValid_2_512 _ _ _ _ _ _ _ _ _ _ _ _ _ _ _ _ _ _ _ _
      · rcases hI with rfl | rfl | rfl
        · exact refValid_3_128 _ _ _ _ _ _ _ _ _ _ _ _ _ _ _ _ _ _ _ _
        · exact refValid_3_256 _ _ _ _ _ _ _ _ _ _ _ _ _ _ _ _ _ _ _ _
        · exact refValid_3_512 _ _ _ _ _ _ _ _ _ _ _ _ _ _ _ _ _ _ _ _
    · have hF : Hid (validOf d = false) := by
        show _ = _
        unfold validOf
        simp
        omega
      have n1 : (d.itv != 128) = true := by simp; omega
      have n2 : (d.itv != 256) = true := by simp; omega
      have n3 : (d.itv != 512) = true := by simp; omega
      clear hI
      rcases hO with h | h | h
      · have o1 : (d.org != 1) = false := by simp [h]
        clear h
        go_enter Tryd.func56, Tryd.ntmps56
        go_wp2
        go_ret
        exact ⟨ret_bool hF.out.symm, (Below.refl _ _).alloc (Nat.le_refl _) _⟩
      · have o1 : (d.org != 1) = true := by simp [h]
        have o2 : (d.org != 2) = false := by simp [h]
        clear h
        go_enter Tryd.func56, Tryd.ntmps56
        go_wp2
        go_ret
        exact ⟨ret_bool hF.out.symm, (Below.refl _ _).alloc (Nat.le_refl _) _⟩
      · have o1 : (d.org != 1) = true := by simp [h]
        have o2 : (d.org != 2) = true := by simp [h]
        have o3 : (d.org != 3) = false := by simp [h]
        clear h
        go_enter Tryd.func56, Tryd.ntmps56
        go_wp2
        go_ret
        exact ⟨ret_bool hF.out.symm, (Below.refl _ _).alloc (Nat.le_refl _) _⟩
  · have hF : Hid (validOf d = false) := by
      show _ = _
      unfold validOf
      simp
      omega
    have o1 : (d.org != 1) = true := by simp; omega
    have o2 : (d.org != 2) = true := by simp; omega
    have o3 : (d.org != 3) = true := by simp; omega
    clear hO
    go_enter Tryd.func56, Tryd.ntmps56
    go_wp2
    go_ret
    exact ⟨ret_bool hF.out.symm, (Below.refl _ _).alloc (Nat.le_refl _) _⟩
end Go.Proofs.YtnkhifgppcnmkaaDoor

/- Walks of chapter 18: the door, a cluster, a page. -/
namespace Go.Proofs.YtnkhifgppcnmkaaDoor
open Go.RowKit Iv

/-- The cells of a description and of a header, as one array each. -/
def Iv.Ds.cells (d : Ds) : Array Value := #[.int .i64 d.id, .int .i64 d.org, .int .i64 d.fmt, .int .i64 d.len, .int .i64 d.blk, .int .i64 d.kat, .int .i64 d.klen, .int .i64 d.itv, .int .i64 d.area, .int .i64 d.fint, .int .i64 d.farea, .int .i64 d.base, .int .i64 d.aat, .int .i64 d.alen, .bool d.uniq, .int .i64 d.cls, .string d.vol, .string d.owner, .int .i64 d.cre, .int .i64 d.expi, .bool d.arch]
def Iv.Hd.cells (h : Hd) : Array Value := #[.int .i64 h.app, .int .i64 h.cnt, .int .i64 h.fin, .int .i64 h.root, .int .i64 h.ht, .int .i64 h.spl, .int .i64 h.areas]

theorem Iv.Ds.size (d : Ds) : d.cells.size = 21 := rfl
theorem Iv.Hd.size (h : Hd) : h.cells.size = 7 := rfl
theorem Iv.Ds.org_at (d : Ds) : d.cells[1]? = some (.int .i64 d.org) := rfl
theorem Iv.Ds.len_at (d : Ds) : d.cells[3]? = some (.int .i64 d.len) := rfl
theorem Iv.Ds.itv_at (d : Ds) : d.cells[7]? = some (.int .i64 d.itv) := rfl
theorem Iv.Hd.cnt_at (h : Hd) : h.cells[1]? = some (.int .i64 h.cnt) := rfl
theorem Iv.Hd.fin_at (h : Hd) : h.cells[2]? = some (.int .i64 h.fin) := rfl

theorem info23 : (Tryd.prog.info? 23).map (·.size) = some 21 := by kernel_rfl
theorem info30 : (Tryd.prog.info? 30).map (·.size) = some 7 := by kernel_rfl

theorem valid_at (d : Ds) (w : World) : Calls Tryd.prog 125 #[.agg d.cells] w fun e w' => e = .returned (.bool (validOf d)) ∧ Below w.heap.size w w' := valid_any d w
theorem refValid_at (d : Ds) (w : World) : Calls Tryd.prog 56 #[.agg d.cells] w fun e w' => e = .returned (.bool (validOf d)) ∧ Below w.heap.size w w' := refValid_any d w
theorem plain_at (h : Hd) (w : World) : Calls Tryd.prog 146 #[.agg h.cells] w fun e w' => e = .returned (.bool (plainOf h)) ∧ Below w.heap.size w w' := plain_any h w

/-- A whole struct is read out of its block, by an operation that runs (its guard holds). -/
theorem wpl_load_row {ops : Array Oper} {rest : List Oper} {o : Oper} {a : Act} {w : World} {Q : Exit → Act → World → Prop} (ty : TypeId) (x : Operand) (ho : o.op = .load ty x) (hw : Region.wanted o (yielded ops a.tmps) = true)
    (g : Nat) (hx : a.eval x = .pointer (some ⟨g, 0, none⟩)) (t : TypeId) (cs : Array Value) (fr : Nat × Nat) (fs : Array Field) (hg : w.heap[g]? = some (.cells cs t fr))
    (hu : Tryd.prog.underlying ty = some (.struct fs)) (hi : (Tryd.prog.info? ty).map (·.size) = some cs.size)
    (h : wpList Tryd.prog ops Q rest (a.put o.dst (.agg cs)) w) : wpList Tryd.prog ops Q (o :: rest) a w :=
  wpList_step fun K hK => by
    rw [if_pos hw]
    exact wp_load_row ty x ho g hx t cs fr (.struct fs) hg hu rfl hi (hK _ _ h)

set_option maxHeartbeats 800000 in
set_option maxRecDepth 100000 in
theorem door_any (h : Hd) (d : Ds) (org : Int) (w : World) : Calls Tryd.prog 109 #[.agg h.cells, .agg d.cells, .int .i64 org] w fun e w' => e = .returned (.int .i64 (doorOf h d org)) ∧ Below w.heap.size w w' := by
  have HD : Hid (doorOf h d org = if validOf d = false ∨ plainOf h = false then 1 else if d.org ≠ org then 7 else 0) := rfl
  have HG : Hid (((w.alloc (.cells h.cells 30)).alloc (.cells d.cells 23)).heap[w.heap.size + 1]? = some (.cells d.cells 23 (0, 0))) := heap_at_alloc (by simp)
  have hds := d.size
  have hhs := h.size
  have hdo := d.org_at
  clear HD
  obtain ⟨r, hr⟩ : ∃ r, r = doorOf h d org := ⟨_, rfl⟩
  have HR1 : Hid (validOf d = false → r = 1) := by
    show _ → _
    intro e; rw [hr]; unfold doorOf; rw [if_pos (.inl e)]
  have HR2 : Hid (plainOf h = false → r = 1) := by
    show _ → _
    intro e; rw [hr]; unfold doorOf; rw [if_pos (.inr e)]
  have HR3 : Hid (validOf d = true → plainOf h = true → r = if d.org ≠ org then 7 else 0) := by
    show _ → _ → _
    intro e e2; rw [hr]; unfold doorOf; rw [if_neg (by simp [e, e2])]
  rw [← hr]
  clear hr
  go_enter Tryd.func109, Tryd.ntmps109
  go_wp2_with (first | (refine wpl_load_row 23 _ rfl rfl (w.heap.size + 1) rfl 23 d.cells (0, 0) _ HG.out Tryd.underlying23 (by rw [Ds.size]; exact info23) ?_) | fail)
  refine (refValid_at d _).mono ?_
  rintro e w1 ⟨rfl, hb1⟩
  have HGH : Hid (w1.heap[w.heap.size]? = some (.cells h.cells 30 (0, 0))) := (hb1.block _ (by simp; omega)).trans (by rw [Below.heap_alloc _ _ _ (by simp)]; exact heap_alloc_new w _)
  have hgd : w1.heap[w.heap.size + 1]? = some (.cells d.cells 23 (0, 0)) := (hb1.block _ (by simp)).trans HG.out
  have HGD := Lib.hid hgd
  have HB1 := Lib.hid (bstep (((Below.refl _ _).alloc (Nat.le_refl _) _).alloc (by simp) _) hb1)
  clear hb1 hgd
  cases hv : validOf d with
  | false =>
    have HV := Lib.hid (HR1.out hv)
    clear hv
    go_wp2
    go_ret
    exact ⟨by rw [HV.out]; rfl, HB1.out⟩
  | true =>
    have HV := Lib.hid hv
    clear hv
    go_wp2_with (first | (refine wpl_load_row 30 _ rfl rfl w.heap.size rfl 30 h.cells (0, 0) _ HGH.out Tryd.underlying30 (by rw [Hd.size]; exact info30) ?_) | fail)
    refine (plain_at h _).mono ?_
    rintro e w2 ⟨rfl, hb2⟩
    have hc := cell_of_row _ _ 1 _ _ _ ((hb2.block _ (blk_lt HGD.out)).trans HGD.out)
    rw [Ds.org_at] at hc
    have HB2 := Lib.hid (bstep HB1.out hb2)
    clear hb2
    cases hp : plainOf h with
    | false =>
      have HP := Lib.hid (HR2.out hp)
      clear hp
      go_wp2
      go_ret
      exact ⟨by rw [HP.out]; rfl, HB2.out⟩
    | true =>
      have HP := Lib.hid (HR3.out HV.out hp)
      clear hp
      by_cases ho : d.org = org
      · have hn : (d.org != org) = false := by simp [ho]
        have HO := Lib.hid ho
        clear ho
        go_wp2
        go_ret
        exact ⟨by rw [HP.out, if_neg (by simp [HO.out])]; rfl, HB2.out⟩
      · have hn : (d.org != org) = true := by simp [ho]
        have HO := Lib.hid ho
        clear ho
        go_wp2
        go_ret
        exact ⟨by rw [HP.out, if_pos HO.out]; rfl, HB2.out⟩
end Go.Proofs.YtnkhifgppcnmkaaDoor

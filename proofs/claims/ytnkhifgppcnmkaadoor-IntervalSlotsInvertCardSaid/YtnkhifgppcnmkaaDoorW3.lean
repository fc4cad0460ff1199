/- Walks: runs over any closure, Size, Fits. -/
import Derived.Test.YtnkhifgppcnmkaaDoorW2
namespace Go.Proofs.YtnkhifgppcnmkaaDoor
open Go.RowKit Iv

/-- Within a run the lengths agree; behind it the list ends or the length differs. -/
theorem runLen_in (m : Nat) (l : List ByteArray) (q : Nat) (h : q < runLen m l) : (l.getD q ByteArray.empty).size = m := by
  induction l generalizing q with
  | nil => simp [runLen] at h
  | cons s l ih =>
    rw [runLen] at h
    split at h
    · cases q with
      | zero => simpa using ‹s.size = m›
      | succ q => simpa using ih q (by omega)
    · omega

theorem runLen_end (m : Nat) (l : List ByteArray) (h : runLen m l < l.length) : (l.getD (runLen m l) ByteArray.empty).size ≠ m := by
  induction l with
  | nil => simp at h
  | cons s l ih =>
    rw [runLen] at h ⊢
    split
    · rename_i hs
      rw [if_pos hs] at h
      simpa using ih (by simpa using h)
    · rename_i hs
      simpa using hs

theorem runsOf_cons (s : ByteArray) (l : List ByteArray) : runsOf (s :: l) = (runLen s.size l + 1, s.size) :: runsOf (l.drop (runLen s.size l)) := by
  rw [runsOf]

theorem drop_cons_getD (l : List ByteArray) (j : Nat) (h : j < l.length) : l.drop j = l.getD j ByteArray.empty :: l.drop (j + 1) := by
  rw [List.drop_eq_getElem_cons h]
  simp [List.getD, h]

set_option maxHeartbeats 1600000 in
set_option maxRecDepth 100000 in
theorem runs_any (fn : Nat) (cap : Addr) (A : Option Addr) (c : Nat) (l : List ByteArray) (w : World) (hl : l.length ≤ 100000) (hc : l.length ≤ c) (I : Nat → World → Prop)
    (hread : ∀ k w', I k w' → StrsA w' A l)
    (hstep : ∀ k w' r, (runsOf l)[k]? = some r → I k w' → Calls Tryd.prog fn #[.int .i64 (r.1 : Nat), .int .i64 (r.2 : Nat), .pointer (some cap)] w' fun e w'' => e = .returned (.tuple #[]) ∧ I (k + 1) w'')
    (hdraw : ∀ k w' n, I k w' → I k (w'.drewN n)) (hcall : ∀ (args : Array Value) (w : World), (callFunc fn args).run Tryd.prog w = .ok (.enter fn args) w) (h0 : I 0 w) :
    Calls Tryd.prog 91 #[.slice A l.length c, .func (.func fn) #[] #[.pointer (some cap)]] w fun e w' => e = .returned (.tuple #[]) ∧ I (runsOf l).length w' := by
  have HREAD := Lib.hid hread
  have HSTEP := Lib.hid hstep
  have HDRAW := Lib.hid hdraw
  clear hread hstep hdraw
  go_enter Tryd.func91, Tryd.ntmps91
  go_wp2
  go_loopw [0] (fun x wr => ∃ (k j c' : Nat) (A' : Option Addr), x = .slice A' (l.length - j) c' ∧ k ≤ (runsOf l).length ∧ j ≤ l.length ∧ l.length - j ≤ c' ∧ runsOf (l.drop j) = (runsOf l).drop k ∧ I k wr ∧ (j < l.length → ∃ b o, A = some ⟨b, o, none⟩ ∧ A' = some ⟨b, o + j, none⟩))
    (fun x _ => match x with | .slice _ n _ => n | _ => 0)
  case atStart =>
    refine ⟨0, 0, c, A, rfl, by omega, by omega, by omega, rfl, h0, fun h => ?_⟩
    obtain ⟨b, o, rfl, _⟩ := HREAD.out 0 w h0 h
    exact ⟨b, o, rfl, rfl⟩
  case round =>
    obtain ⟨k, j, c', A', rfl, hkl, hj, hjc, hrun, hI, hA⟩ := hrel
    have HI := Lib.hid hI
    have HRUN := Lib.hid hrun
    clear hI hrun h0
    by_cases hlt : j < l.length
    · obtain ⟨b, o, rfl, rfl⟩ := hA hlt
      clear hA
      have hcell : ∀ i, i < l.length → wr.cell? ⟨b, o + i, none⟩ = some (.string (l.getD i ByteArray.empty)) := by
        obtain ⟨b', o', e, _, h⟩ := HREAD.out k wr HI.out (by omega)
        simp only [Option.some.injEq, Addr.mk.injEq, and_true] at e
        obtain ⟨rfl, rfl⟩ := e
        exact h
      have hc0 := hcell j hlt
      have HD := Lib.hid (drop_cons_getD l j hlt)
      obtain ⟨s, hs⟩ : ∃ s, s = l.getD j ByteArray.empty := ⟨_, rfl⟩
      rw [← hs] at hc0 HD
      have HS := Lib.hid hs
      have HC := Lib.hid hcell
      clear hcell hs
      obtain ⟨n, hn⟩ : ∃ n, n = l.length - j := ⟨_, rfl⟩
      rw [← hn] at hjc ⊢
      have hnpos : 0 < n := by omega
      have hn2 : n ≤ 100000 := by omega
      have HN := Lib.hid hn
      clear hn
      go_wp2
      obtain ⟨Q, hQ⟩ : ∃ Q, Q = runLen s.size (l.drop (j + 1)) + 1 := ⟨_, rfl⟩
      have hQn : Q ≤ n := by
        have := runLen_le s.size (l.drop (j + 1))
        rw [List.length_drop] at this
        have := HN.out
        omega
      have hQ1 : 1 ≤ Q := by omega
      have HIN : Hid (∀ q, 1 ≤ q → q < Q → (l.getD (j + q) ByteArray.empty).size = s.size) := by
        intro q h1 h2
        have := runLen_in s.size (l.drop (j + 1)) (q - 1) (by omega)
        rw [← this]
        simp [List.getD, show j + 1 + (q - 1) = j + q by omega]
      have HEND : Hid (Q < n → (l.getD (j + Q) ByteArray.empty).size ≠ s.size) := by
        intro h1 h2
        have := runLen_end s.size (l.drop (j + 1)) (by rw [List.length_drop]; have := HN.out; omega)
        apply this
        refine (congrArg ByteArray.size ?_).trans h2
        rw [hQ]
        simp [List.getD, show j + (runLen s.size (l.drop (j + 1)) + 1) = j + 1 + runLen s.size (l.drop (j + 1)) by omega]
      have HRK : Hid ((runsOf l)[k]? = some (Q, s.size) ∧ runsOf (l.drop (j + Q)) = (runsOf l).drop (k + 1)) := by
        have h := HRUN.out
        rw [HD.out, runsOf_cons, ← hQ, List.drop_drop] at h
        have h2 : (runsOf l).drop k = (Q, s.size) :: (runsOf l).drop (k + 1) := by
          have hlt : k < (runsOf l).length := by
            rcases Nat.lt_or_ge k (runsOf l).length with h' | h'
            · exact h'
            · rw [List.drop_eq_nil_of_le h'] at h; cases h
          rw [List.drop_eq_getElem_cons hlt] at h ⊢
          injection h with h3 h4
          rw [← h3]
        rw [h2] at h
        injection h with h3 h4
        refine ⟨?_, by rw [← h4]; congr 2; omega⟩
        rw [← List.head?_drop, h2]
        rfl
      clear hQ
      go_loopw [4] (fun i wq => ∃ q m : Nat, wq = wr.drewN m ∧ i = .int .i64 q ∧ 1 ≤ q ∧ q ≤ Q) (fun i _ => n - (intOf i).toNat)
      case atStart => exact ⟨1, 0, rfl, rfl, by omega, by omega⟩
      case round =>
        obtain ⟨q, m, rfl, rfl, hq1, hq2⟩ := hrel
        by_cases hqe : q < Q
        · -- the run goes on
          have hqn : (q : Int) < (n : Int) := by omega
          have hcq : wr.cell? ⟨b, o + j + q, none⟩ = some (.string (l.getD (j + q) ByteArray.empty)) := by
            rw [Nat.add_assoc]; exact HC.out (j + q) (by have := HN.out; omega)
          have hsz := HIN.out q hq1 hqe
          obtain ⟨t, ht⟩ : ∃ t, t = l.getD (j + q) ByteArray.empty := ⟨_, rfl⟩
          rw [← ht] at hcq hsz
          clear ht
          have hsz' : (((t.size : Nat) : Int) == ((s.size : Nat) : Int)) = true := by simp [hsz]
          clear hsz
          go_wp2
          go_quiet (fail)
          go_wp2
          exact ⟨⟨q + 1, m + nq, rfl, by go_num, by omega, by omega⟩, by simp [intOf]; omega⟩
        · obtain rfl : q = Q := by omega
          have HCAP : Hid (n - q = l.length - (j + q)) := by show _ = _; have := HN.out; omega
          by_cases hqn : q < n
          · have hqn' : (q : Int) < (n : Int) := by omega
            have hcq : wr.cell? ⟨b, o + j + q, none⟩ = some (.string (l.getD (j + q) ByteArray.empty)) := by
              rw [Nat.add_assoc]; exact HC.out (j + q) (by have := HN.out; omega)
            have hsz := HEND.out hqn
            obtain ⟨t, ht⟩ : ∃ t, t = l.getD (j + q) ByteArray.empty := ⟨_, rfl⟩
            rw [← ht] at hcq hsz
            clear ht
            have hsz' : (((t.size : Nat) : Int) == ((s.size : Nat) : Int)) = false := by simp only [beq_eq_false_iff_ne, ne_eq]; omega
            clear hsz
            go_wp2
            go_quiet (fail)
            go_wp2_with fail
            refine (HSTEP.out k _ (q, s.size) HRK.out.1 (HDRAW.out _ _ _ HI.out)).mono ?_
            rintro e w2 ⟨rfl, hI2⟩
            have HI2 := Lib.hid hI2
            clear hI2
            go_wp2
            have hkk : k + 1 ≤ (runsOf l).length := (List.getElem?_eq_some_iff.1 HRK.out.1).1
            have hjq : j + q ≤ l.length := by have := HN.out; omega
            refine ⟨⟨k + 1, j + q, c' - q, _, by rw [HCAP.out], hkk, hjq, by have := HCAP.out; omega, HRK.out.2, HI2.out, fun _ => ⟨b, o, rfl, by rw [Nat.add_assoc]⟩⟩, ?_⟩
            · show n - q < n
              omega
          · obtain rfl : q = n := by omega
            have hd : decide ((q : Int) < (q : Int)) = false := by simp
            go_wp2
            go_quiet (fail)
            go_wp2_with fail
            refine (HSTEP.out k _ (q, s.size) HRK.out.1 (HDRAW.out _ _ _ HI.out)).mono ?_
            rintro e w2 ⟨rfl, hI2⟩
            have HI2 := Lib.hid hI2
            clear hI2
            go_wp2
            have hkk : k + 1 ≤ (runsOf l).length := (List.getElem?_eq_some_iff.1 HRK.out.1).1
            have hjq : j + q ≤ l.length := by have := HN.out; omega
            refine ⟨⟨k + 1, j + q, c' - q, _, by rw [← HCAP.out, Nat.sub_self], hkk, hjq, by have := HCAP.out; omega, HRK.out.2, HI2.out, fun h => by have := HCAP.out; omega⟩, ?_⟩
            · show 0 < q
              omega
    · have : j = l.length := by omega
      subst this
      go_wp2
      go_end0
      have h := HRUN.out
      rw [List.drop_length] at h
      rw [show runsOf [] = [] by rw [runsOf]] at h
      have hk : (runsOf l).length ≤ k := List.drop_eq_nil_iff.1 h.symm
      obtain rfl : k = (runsOf l).length := by omega
      exact ⟨rfl, HI.out⟩

theorem call100 (args : Array Value) (w : World) : (callFunc 100 args).run Tryd.prog w = .ok (.enter 100 args) w := by
  kernel_rfl

set_option maxHeartbeats 400000 in
set_option maxRecDepth 100000 in
theorem size1_any (w : World) (g : Nat) (n m o : Nat) (hn : n ≤ 100000) (hm : m ≤ 100000) (ho : o ≤ 1000000000000) (hn1 : 1 ≤ n) (hg : w.heap[g]? = some (.cells #[.int .i64 o] 3 (0, 0))) :
    Calls Tryd.prog 100 #[.int .i64 n, .int .i64 m, .pointer (some ⟨g, 0, none⟩)] w fun e w' => e = .returned (.tuple #[]) ∧ w' = w.setCell ⟨g, 0, none⟩ (.int .i64 ((sizeR o (n, m) : Nat) : Int)) := by
  have hc := cell_of_row _ _ 0 _ _ _ hg
  have hf := frozen_of_row _ _ 0 _ _ hg
  clear hg
  have hnm : n * m ≤ 10000000000 := Nat.mul_le_mul hn hm
  have h0 : (0 : Int) ≤ (n : Int) * (m : Int) := Int.mul_nonneg (by omega) (by omega)
  have h1 : (n : Int) * (m : Int) ≤ 10000000000 := by
    have : ((n * m : Nat) : Int) ≤ 10000000000 := by omega
    rwa [Int.natCast_mul] at this
  have hw : wrap64 ((n : Int) * (m : Int)) = (n : Int) * (m : Int) := by
    obtain ⟨p, hp⟩ : ∃ p, p = (n : Int) * (m : Int) := ⟨_, rfl⟩
    rw [← hp] at h0 h1 ⊢
    unfold wrap64
    omega
  clear hnm
  go_enter Tryd.func100, Tryd.ntmps100
  go_wp2
  all_goals
    go_end0
    refine ⟨rfl, ?_⟩
    congr 2
    unfold sizeR
    dsimp only
    simp only [Int.natCast_add, Int.natCast_mul]
    omega

theorem runs_bound (l : List ByteArray) (M : Nat) (h : ∀ s ∈ l, s.size ≤ M) : ∀ r ∈ runsOf l, r.1 ≤ l.length ∧ r.2 ≤ M := by
  induction l using runsOf.induct with
  | case1 => rw [runsOf]; simp
  | case2 s l ih =>
    rw [runsOf]
    intro r hr
    rcases List.mem_cons.1 hr with rfl | hr
    · have := runLen_le s.size l
      exact ⟨by simp only [List.length_cons]; omega, h s List.mem_cons_self⟩
    · have := ih (fun t ht => h t (List.mem_cons_of_mem _ (List.mem_of_mem_drop ht))) r hr
      rw [List.length_drop] at this
      exact ⟨by rw [List.length_cons]; omega, this.2⟩

theorem content_bound (l : List ByteArray) (M : Nat) (h : ∀ s ∈ l, s.size ≤ M) : (content l).length ≤ l.length * M := by
  induction l with
  | nil => simp [content]
  | cons s l ih =>
    rw [content_cons, List.length_append, List.length_cons, Nat.succ_mul]
    have := ih (fun t ht => h t (List.mem_cons_of_mem _ ht))
    have := h s List.mem_cons_self
    have e : s.data.toList.length = s.size := by simp
    omega

theorem fields_bound (l : List ByteArray) : (fieldsOf l).length ≤ 6 * l.length := by
  have h : ∀ l : List ByteArray, (runsOf l).foldl (fun a r => a + 3 * min r.1 2) 0 ≤ 6 * l.length := by
    intro l
    induction l using runsOf.induct with
    | case1 => rw [runsOf]; simp
    | case2 s l ih =>
      rw [runsOf]
      simp only [List.foldl_cons]
      have e : ∀ (qs : List (Nat × Nat)) (a : Nat), qs.foldl (fun a r => a + 3 * min r.1 2) a = a + qs.foldl (fun a r => a + 3 * min r.1 2) 0 := by
        intro qs
        induction qs with
        | nil => intro a; rfl
        | cons q qs ihq => intro a; simp only [List.foldl_cons]; rw [ihq, ihq (0 + _)]; omega
      rw [e]
      rw [List.length_drop] at ih
      rw [List.length_cons]
      have := runLen_le s.size l
      omega
  unfold fieldsOf
  rw [foldl_fields_length _ (runs_pos l)]
  have := h l
  simpa using this

theorem sizeR_le (rs : List (Nat × Nat)) (a : Nat) : a ≤ rs.foldl sizeR a := by
  rw [foldl_size]; omega

theorem size_prefix (l : List ByteArray) (k : Nat) : ((runsOf l).take k).foldl sizeR 4 ≤ szOf l := by
  unfold szOf
  conv => rhs; rw [← List.take_append_drop k (runsOf l), List.foldl_append]
  exact sizeR_le _ _

theorem size_bound (l : List ByteArray) (h1 : l.length ≤ 1000) (h2 : ∀ s ∈ l, s.size ≤ 1000) : szOf l ≤ 10000000 := by
  have a := content_bound l 1000 h2
  have b := fields_bound l
  rw [sizes]
  have : l.length * 1000 ≤ 1000 * 1000 := Nat.mul_le_mul_right _ h1
  omega

set_option maxHeartbeats 800000 in
theorem size_any (A : Option Addr) (c : Nat) (l : List ByteArray) (w : World) (hl : l.length ≤ 1000) (hr : ∀ s ∈ l, s.size ≤ 1000) (hc : l.length ≤ c) (hs : StrsA w A l) :
    Calls Tryd.prog 39 #[.slice A l.length c] w fun e w' => e = .returned (.int .i64 (szOf l : Nat)) ∧ Below w.heap.size w w' := by
  have hb := runs_bound l 1000 hr
  have hsb := size_bound l hl hr
  have HRUNS := Lib.hid (runs_any 100 ⟨w.heap.size, 0, none⟩ A c l (w.alloc (.cells #[.int .i64 4] 3)) (by omega) hc
    (fun k wr => wr.heap[w.heap.size]? = some (.cells #[.int .i64 (((runsOf l).take k).foldl sizeR 4 : Nat)] 3 (0, 0)) ∧ Below w.heap.size w wr)
    (fun k w' h => hs.keep h.2)
    (fun k w' r hk h => by
      have hmem : r ∈ runsOf l := List.mem_of_getElem? hk
      have h1 := hb r hmem
      have h2 := runs_pos l r hmem
      have h3 := size_prefix l k
      refine (size1_any w' w.heap.size r.1 r.2 _ (by omega) (by omega) (by omega) h2 h.1).mono ?_
      rintro e w'' ⟨rfl, rfl⟩
      refine ⟨rfl, ?_, h.2.setCell (Nat.le_refl _) _⟩
      rw [heap_setCell_same _ _ _ _ _ _ h.1]
      have hlt := (List.getElem?_eq_some_iff.1 hk)
      obtain ⟨hlt, rfl⟩ := hlt
      rw [List.take_succ_eq_append_getElem hlt, List.foldl_append]
      rfl)
    (fun k w' n h => ⟨h.1, below_drewN h.2 n⟩)
    call100
    ⟨heap_alloc_new _ _, (Below.refl _ _).alloc (Nat.le_refl _) _⟩)
  clear hb hsb hs
  go_enter Tryd.func39, Tryd.ntmps39
  go_wp2_with fail
  refine HRUNS.out.mono ?_
  rintro e w2 ⟨rfl, h2, hb2⟩
  rw [List.take_length] at h2
  have hcell := cell_of_row _ _ 0 _ _ _ h2
  clear h2
  go_wp2
  go_ret
  exact ⟨rfl, hb2⟩
end Go.Proofs.YtnkhifgppcnmkaaDoor

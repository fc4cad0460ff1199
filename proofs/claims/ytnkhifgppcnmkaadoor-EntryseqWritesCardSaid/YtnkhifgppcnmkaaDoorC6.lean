/- Plain laws of clusters; numbers as keys; build. -/
import Derived.Test.YtnkhifgppcnmkaaDoorC3
import Derived.Test.YtnkhifgppcnmkaaDoorC5

/- Walks: texts that are few and short. -/
namespace Go.Proofs.YtnkhifgppcnmkaaDoor
open Go.RowKit Iv

/-- Whether texts are few and short. -/
def shortN (M Z : Nat) (l : List ByteArray) : Bool := decide (l.length ≤ M) && l.all fun s => decide (s.size ≤ Z)

set_option maxHeartbeats 1600000 in
theorem shortN_any (M Z : Nat) (hM : M ≤ 1000) (A : Option Addr) (c : Nat) (l : List ByteArray) (w : World) (hs : StrsA w A l) :
    Calls Tryd.prog 55 #[.slice A l.length c, .int .i64 (M : Int), .int .i64 (Z : Int)] w fun e w' => e = .returned (.bool (shortN M Z l)) ∧ w' = w := by
  by_cases h40 : l.length ≤ M
  · have HS := Lib.hid hs
    have HSH : Hid (∀ k, k < l.length → Z < (l.getD k ByteArray.empty).size → shortN M Z l = false) := by
      show ∀ _, _
      intro k hk h
      unfold shortN
      rw [Bool.and_eq_false_iff]
      right
      rw [List.all_eq_false]
      refine ⟨l[k], List.getElem_mem hk, ?_⟩
      have h1 : l.getD k ByteArray.empty = l[k] := by simp [List.getD, hk]
      rw [h1] at h
      simp; omega
    have HOK : Hid ((∀ k, k < l.length → (l.getD k ByteArray.empty).size ≤ Z) → shortN M Z l = true) := by
      show _ → _
      intro h
      unfold shortN
      rw [Bool.and_eq_true]
      refine ⟨by simpa using h40, ?_⟩
      rw [List.all_eq_true]
      intro s hs
      obtain ⟨k, hk, rfl⟩ := List.getElem_of_mem hs
      have := h k hk
      have h1 : l.getD k ByteArray.empty = l[k] := by simp [List.getD, hk]
      rw [h1] at this
      simpa using this
    clear hs
    obtain ⟨n, hn⟩ : ∃ n, n = l.length := ⟨_, rfl⟩
    rw [← hn] at h40 HSH HOK ⊢
    have HN := Lib.hid hn
    clear hn
    go_enter Tryd.func55, Tryd.ntmps55
    go_wp2
    go_loop [7] (fun i => ∃ k : Nat, k ≤ n ∧ i = .int .i64 k ∧ ∀ j, j < k → (l.getD j ByteArray.empty).size ≤ Z) (fun i => n - (intOf i).toNat)
    case atStart => exact ⟨0, by omega, rfl, fun j hj => by omega⟩
    case round =>
      obtain ⟨k, hk, rfl, hall⟩ := hrel
      have HALL := Lib.hid hall
      clear hall
      by_cases hlt : k < n
      · obtain ⟨b, o, rfl, _, hc⟩ := HS.out (by have := HN.out; omega)
        have hck := hc k (by have := HN.out; omega)
        clear hc
        have HBAD := Lib.hid (HSH.out k hlt)
        have HGOOD : Hid ((l.getD k ByteArray.empty).size ≤ Z → ∀ j, j < k + 1 → (l.getD j ByteArray.empty).size ≤ Z) := by
          show _ → _
          intro h j hj
          rcases Nat.lt_or_ge j k with h1 | h1
          · exact HALL.out j h1
          · obtain rfl : j = k := by omega
            exact h
        obtain ⟨x, hx⟩ : ∃ x, x = l.getD k ByteArray.empty := ⟨_, rfl⟩
        rw [← hx] at hck HBAD HGOOD
        clear hx
        by_cases hx6 : x.size ≤ Z
        · have HG := Lib.hid (HGOOD.out hx6)
          have hx7 : (x.size : Int) ≤ (Z : Int) := by omega
          go_wp2
          exact ⟨⟨k + 1, by omega, by go_num, HG.out⟩, by simp [intOf]; omega⟩
        · have HB := Lib.hid (HBAD.out (by omega))
          have hx7 : (Z : Int) < (x.size : Int) := by omega
          clear hx6
          go_wp2
          go_ret
          exact ⟨ret_bool HB.out.symm, rfl⟩
      · have hkn : k = n := by omega
        have HT := Lib.hid (HOK.out (fun j hj => HALL.out j (by omega)))
        go_wp2
        go_ret
        exact ⟨ret_bool HT.out.symm, rfl⟩
  · have hd : shortN M Z l = false := by unfold shortN; simp; omega
    rw [hd]
    have h2 : (M : Int) < (l.length : Int) := by omega
    clear h40 hd
    go_enter Tryd.func55, Tryd.ntmps55
    go_wp2
    go_ret
    exact ⟨rfl, rfl⟩



theorem shortN_size {M Z : Nat} {l : List ByteArray} (h : shortN M Z l = true) : l.length ≤ M ∧ (∀ s ∈ l, s.size ≤ Z) ∧ ∀ k, k < l.length → (l.getD k ByteArray.empty).size ≤ Z := by
  unfold shortN at h
  simp only [Bool.and_eq_true, decide_eq_true_eq, List.all_eq_true] at h
  refine ⟨h.1, h.2, fun k hk => ?_⟩
  have h1 : l.getD k ByteArray.empty = l[k] := by simp [List.getD, hk]
  rw [h1]
  exact h.2 _ (List.getElem_mem hk)
end Go.Proofs.YtnkhifgppcnmkaaDoor

/- Plain laws of clusters: what repeated appends leave, page by page; lengths alone decide what fits. No walk. -/
namespace Go.Proofs.YtnkhifgppcnmkaaDoor
open Iv

/-! ### Lengths alone decide -/
theorem runLen_sizes (m : Nat) : ∀ (l l' : List ByteArray), l.map (·.size) = l'.map (·.size) → runLen m l = runLen m l' := by
  intro l
  induction l with
  | nil => intro l' h; cases l' with
    | nil => rfl
    | cons s' l' => simp at h
  | cons s l ih => intro l' h; cases l' with
    | nil => simp at h
    | cons s' l' =>
      simp only [List.map_cons, List.cons.injEq] at h
      rw [runLen, runLen, h.1, ih l' h.2]

theorem runsOf_sizes : ∀ (n : Nat) (l l' : List ByteArray), l.length ≤ n → l.map (·.size) = l'.map (·.size) → runsOf l = runsOf l' := by
  intro n
  induction n with
  | zero =>
    intro l l' hn h
    have hl : l = [] := List.eq_nil_of_length_eq_zero (by omega)
    subst hl
    cases l' with
    | nil => rfl
    | cons s' l' => simp at h
  | succ n ih =>
    intro l l' hn h
    cases l with
    | nil => cases l' with
      | nil => rfl
      | cons s' l' => simp at h
    | cons s l => cases l' with
      | nil => simp at h
      | cons s' l' =>
        simp only [List.map_cons, List.cons.injEq] at h
        rw [runsOf, runsOf, h.1, runLen_sizes s'.size l l' h.2]
        congr 1
        apply ih
        · rw [List.length_drop]; simp at hn; omega
        · rw [List.map_drop, List.map_drop, h.2]

theorem szOf_sizes {l l' : List ByteArray} (h : l.map (·.size) = l'.map (·.size)) : szOf l = szOf l' := by
  unfold szOf; rw [runsOf_sizes l.length l l' (Nat.le_refl _) h]
theorem okRec_sizes : ∀ {l l' : List ByteArray}, l.map (·.size) = l'.map (·.size) → okRec l = okRec l' := by
  intro l
  induction l with
  | nil => intro l' h; cases l' with
    | nil => rfl
    | cons s' l' => simp at h
  | cons s l ih => intro l' h; cases l' with
    | nil => simp at h
    | cons s' l' =>
      simp only [List.map_cons, List.cons.injEq] at h
      rw [okRec_cons, okRec_cons, h.1, ih h.2]
theorem fits_sizes {itv : Int} {l l' : List ByteArray} (h : l.map (·.size) = l'.map (·.size)) : fitsOf itv l = fitsOf itv l' := by
  unfold fitsOf; rw [okRec_sizes h, szOf_sizes h]
theorem content_sizes : ∀ {l l' : List ByteArray}, l.map (·.size) = l'.map (·.size) → (content l).length = (content l').length := by
  intro l
  induction l with
  | nil => intro l' h; cases l' with
    | nil => rfl
    | cons s' l' => simp at h
  | cons s l ih => intro l' h; cases l' with
    | nil => simp at h
    | cons s' l' =>
      simp only [List.map_cons, List.cons.injEq] at h
      rw [content_cons, content_cons, List.length_append, List.length_append, content_size, content_size, h.1, ih h.2]

/-! ### The pages of a cluster -/
def lastPg (ps : List (List ByteArray)) : List ByteArray := ps.getLastD []
/-- The pages after one record more. -/
def nextPs (itv : Int) (ps : List (List ByteArray)) (r : ByteArray) : List (List ByteArray) :=
  if freshOf ps.length itv (lastPg ps) r = true then ps ++ [[r]] else ps.dropLast ++ [lastPg ps ++ [r]]

/-- The pages ps lie in memory m, with header h. -/
structure Cl (d : Ds) (m : List ByteArray) (h : Hd) (ps : List (List ByteArray)) : Prop where
  fin : h.fin = ps.length
  cnt : h.cnt = (ps.flatten.length : Nat)
  len : m.length = ps.length + 1
  pg : ∀ i, i < ps.length → decodeOf d.itv (m.getD (i + 1) ByteArray.empty) = (ps.getD i [], 0)
  ok : ∀ i, i < ps.length → ps.getD i [] ≠ [] ∧ fitsOf d.itv (ps.getD i []) = true

theorem pages_few : ∀ (ps : List (List ByteArray)), (∀ i, i < ps.length → ps.getD i [] ≠ []) → ps.length ≤ ps.flatten.length := by
  intro ps
  induction ps with
  | nil => simp
  | cons l ps ih =>
    intro h
    have h0 := h 0 (by simp)
    have h1 := ih (fun i hi => by have := h (i + 1) (by simp; omega); simpa using this)
    simp only [List.flatten_cons, List.length_append, List.length_cons]
    have : 1 ≤ l.length := by
      rcases l with _ | ⟨a, l⟩
      · simp at h0
      · simp
    omega

theorem lastPg_get (ps : List (List ByteArray)) : lastPg ps = ps.getD (ps.length - 1) [] := by
  unfold lastPg
  rw [List.getLastD_eq_getLast?, List.getLast?_eq_getElem?]
  simp [List.getD]

theorem split_last (ps : List (List ByteArray)) (h : 0 < ps.length) : ps = ps.dropLast ++ [lastPg ps] := by
  unfold lastPg
  have hne : ps ≠ [] := by intro e; subst e; simp at h
  rw [List.getLastD_eq_getLast?, List.getLast?_eq_some_getLast hne]
  exact (List.dropLast_concat_getLast hne).symm

theorem Cl.endOf {d : Ds} {m : List ByteArray} {h : Hd} {ps : List (List ByteArray)} (C : Cl d m h ps) : endOfC m h d = (lastPg ps, 0) := by
  unfold endOfC
  rcases Nat.eq_zero_or_pos ps.length with h0 | h0
  · have : ps = [] := List.eq_nil_of_length_eq_zero h0
    subst this
    rw [if_pos (by rw [C.fin]; rfl)]
    rfl
  · rw [if_neg (by rw [C.fin]; omega)]
    have hp : pageOf m h.fin = (m.getD (ps.length - 1 + 1) ByteArray.empty, 0) := by
      unfold pageOf
      rw [if_neg (by rw [C.fin, C.len]; omega), C.fin, show ps.length - 1 + 1 = ps.length by omega]
      rfl
    have h1 := C.pg (ps.length - 1) (by omega)
    have h2 := (C.ok (ps.length - 1) (by omega)).1
    unfold loadOf
    rw [hp, if_neg (by simp)]
    dsimp only
    rw [h1, if_neg (by simpa using h2), lastPg_get ps]

theorem fits_one {d : Ds} (hv : validOf d = true) {r : ByteArray} (h1 : 1 ≤ r.size) (h2 : (r.size : Int) ≤ d.len) : fitsOf d.itv [r] = true := by
  have hf : flen [r] = 3 := by rw [flen_cons]; simp [runLen, flen_nil]
  have hs : szOf [r] = 7 + r.size := by
    rw [sizes, flen_fields, hf, content_cons, List.length_append, content_size]
    simp [content]; omega
  unfold validOf at hv
  simp only [decide_eq_true_eq] at hv
  unfold fitsOf
  rw [hs]
  have hi : isSz d.itv = true := by
    unfold isSz
    rcases hv.1 with h | h | h <;> rw [h] <;> rfl
  rw [hi]
  simp only [Bool.true_and, Bool.and_eq_true, decide_eq_true_eq]
  refine ⟨(okRec_iff _).2 (fun s hs => ?_), by omega⟩
  have : s = r := by simpa using hs
  subst this
  omega

theorem grow_new (m : List ByteArray) (h : m.length < 10000) : growOf m m.length = m ++ [ByteArray.empty] := by
  unfold growOf
  rw [if_pos (by omega), show ((m.length : Int) + 1).toNat - m.length = 1 by omega]
  rfl
theorem grow_old (m : List ByteArray) (n : Nat) (h : n < m.length) : growOf m n = m := by
  unfold growOf
  rw [if_neg (by omega)]
theorem put_new (m : List ByteArray) (pg : ByteArray) (h : m.length < 10000) : putOf m [((m.length : Int), pg)] = m ++ [pg] := by
  rw [putOf_cons, putOf_nil]
  unfold putOne
  dsimp only
  rw [grow_new m h, if_pos (by rw [List.length_append, List.length_singleton]; omega)]
  simp
theorem put_old (m : List ByteArray) (n : Nat) (pg : ByteArray) (h : n < m.length) : putOf m [((n : Int), pg)] = m.set n pg := by
  rw [putOf_cons, putOf_nil]
  unfold putOne
  dsimp only
  rw [grow_old m n h, if_pos (by omega)]
  simp

theorem getD_append_left {α : Type} (a b : List α) (i : Nat) (x : α) (h : i < a.length) : (a ++ b).getD i x = a.getD i x := by simp [List.getD, List.getElem?_append_left h]
theorem getD_append_at {α : Type} (a : List α) (y x : α) : (a ++ [y]).getD a.length x = y := by simp [List.getD]

theorem fresh_false {n : Nat} {itv : Int} {last : List ByteArray} {r : ByteArray} (h : freshOf n itv last r = false) : 0 < n ∧ fitsOf itv (last ++ [r]) = true := by
  unfold freshOf at h
  simp only [Bool.or_eq_false_iff, decide_eq_false_iff_not, Bool.not_eq_false'] at h
  exact ⟨by omega, h.2⟩

/-- One record more: what Append answers, and the pages behind it. -/
theorem Cl.append {d : Ds} {m : List ByteArray} {h : Hd} {ps : List (List ByteArray)} (C : Cl d m h ps) (hv : validOf d = true) (ho : d.org = 1) (hn : ps.flatten.length < 9000) (r : ByteArray) (h1 : 1 ≤ r.size) (h2 : (r.size : Int) ≤ d.len) :
    ∃ pg, appendOf m h d r = ⟨{ h with cnt := h.cnt + 1, fin := (nextPs d.itv ps r).length }, [(((nextPs d.itv ps r).length : Nat), pg)], atOf ps.length d.itv (lastPg ps) r, 0⟩ ∧
      (pg.size : Int) = d.itv ∧ Cl d (putOf m [(((nextPs d.itv ps r).length : Nat), pg)]) { h with cnt := h.cnt + 1, fin := (nextPs d.itv ps r).length } (nextPs d.itv ps r) ∧
      (nextPs d.itv ps r).flatten.length = ps.flatten.length + 1 ∧ ps.length ≤ (nextPs d.itv ps r).length ∧ (nextPs d.itv ps r).length ≤ ps.length + 1 := by
  have hfew := pages_few ps (fun i hi => (C.ok i hi).1)
  have hp : plainOf h = true := by
    unfold plainOf
    rw [C.fin, C.cnt]
    simp only [decide_eq_true_eq]
    omega
  have hd : doorOf h d 1 = 0 := by unfold doorOf; rw [if_neg (by simp [hv, hp]), if_neg (by simp [ho])]
  obtain ⟨L, hL⟩ : ∃ L, L = lastOf ps.length d.itv (lastPg ps) r ++ [r] := ⟨_, rfl⟩
  have hfit : fitsOf d.itv L = true := by
    rw [hL]
    unfold lastOf
    cases hf : freshOf ps.length d.itv (lastPg ps) r with
    | true => rw [if_pos rfl]; exact fits_one hv h1 h2
    | false => rw [if_neg (by simp)]; exact (fresh_false hf).2
  have hfin : finOf ps.length d.itv (lastPg ps) r = ((nextPs d.itv ps r).length : Nat) := by
    unfold finOf nextPs
    cases hf : freshOf ps.length d.itv (lastPg ps) r with
    | true => rw [if_pos rfl, if_pos rfl]; simp
    | false =>
      have := (fresh_false hf).1
      rw [if_neg (by simp), if_neg (by simp), List.length_append, List.length_dropLast, List.length_singleton]
      omega
  have he : appendOf m h d r = ⟨{ h with cnt := h.cnt + 1, fin := (nextPs d.itv ps r).length }, [(((nextPs d.itv ps r).length : Nat), (encodeOf d.itv L).1)], atOf ps.length d.itv (lastPg ps) r, 0⟩ := by
    unfold appendOf
    rw [hd, if_neg (by simp), if_neg (by omega), C.endOf, if_neg (by simp), C.fin]
    dsimp only
    rw [hfin, hL]
  rcases hx : encodeOf d.itv L with ⟨pg, k⟩
  have hk : k = 0 := by have := (encode_fits d.itv L).2 hfit; rw [hx] at this; exact this
  subst hk
  have hdec := decode_encoded hx
  have hpz := encode_size hx
  rw [hx] at he
  refine ⟨pg, he, hpz, ?_, ?_, ?_⟩
  · cases hf : freshOf ps.length d.itv (lastPg ps) r with
    | true =>
      have hN : nextPs d.itv ps r = ps ++ [[r]] := by unfold nextPs; rw [hf, if_pos rfl]
      have hL2 : L = [r] := by rw [hL]; unfold lastOf; rw [hf, if_pos rfl]; rfl
      rw [hL2] at hdec hfit
      have hm : putOf m [(((nextPs d.itv ps r).length : Nat), pg)] = m ++ [pg] := by
        rw [hN, show (((ps ++ [[r]]).length : Nat) : Int) = (m.length : Int) by rw [C.len]; simp]
        exact put_new m pg (by rw [C.len]; omega)
      rw [hm, hN]
      have hlen : (ps ++ [[r]]).length = ps.length + 1 := by simp
      refine ⟨rfl, ?_, by rw [List.length_append, hlen, C.len]; rfl, fun i hi => ?_, fun i hi => ?_⟩
      · show h.cnt + 1 = _
        rw [C.cnt]; simp
      · rw [hlen] at hi
        rcases Nat.lt_or_ge i ps.length with hlt | hge
        · rw [getD_append_left _ _ _ _ (by rw [C.len]; omega), getD_append_left _ _ _ _ hlt]; exact C.pg i hlt
        · obtain rfl : i = ps.length := by omega
          rw [show ps.length + 1 = m.length by rw [C.len], getD_append_at, getD_append_at]; exact hdec
      · rw [hlen] at hi
        rcases Nat.lt_or_ge i ps.length with hlt | hge
        · rw [getD_append_left _ _ _ _ hlt]; exact C.ok i hlt
        · obtain rfl : i = ps.length := by omega
          rw [getD_append_at]; exact ⟨by simp, hfit⟩
    | false =>
      have h0 := (fresh_false hf).1
      have hN : nextPs d.itv ps r = ps.dropLast ++ [lastPg ps ++ [r]] := by unfold nextPs; rw [hf, if_neg (by simp)]
      have hL2 : L = lastPg ps ++ [r] := by rw [hL]; unfold lastOf; rw [hf, if_neg (by simp)]
      rw [hL2] at hdec hfit
      have hdl : ps.dropLast.length = ps.length - 1 := List.length_dropLast
      have hlen : (ps.dropLast ++ [lastPg ps ++ [r]]).length = ps.length := by rw [List.length_append, hdl, List.length_singleton]; omega
      have hm : putOf m [(((nextPs d.itv ps r).length : Nat), pg)] = m.set ps.length pg := by
        rw [hN, hlen]
        exact put_old m ps.length pg (by rw [C.len]; omega)
      rw [hm, hN]
      have hgd : ∀ i, i < ps.length - 1 → (ps.dropLast ++ [lastPg ps ++ [r]]).getD i [] = ps.getD i [] := by
        intro i hi
        rw [getD_append_left _ _ _ _ (by omega)]
        simp only [List.getD, List.dropLast_eq_take, List.getElem?_take]
        rw [if_pos hi]
      have hgl : (ps.dropLast ++ [lastPg ps ++ [r]]).getD (ps.length - 1) [] = lastPg ps ++ [r] := by rw [← hdl, getD_append_at]
      refine ⟨by show ((ps.dropLast ++ [lastPg ps ++ [r]]).length : Int) = _; rfl, ?_, by rw [List.length_set, hlen, C.len], fun i hi => ?_, fun i hi => ?_⟩
      · show h.cnt + 1 = _
        rw [C.cnt]
        have hfl : ps = ps.dropLast ++ [lastPg ps] := split_last ps h0
        conv => lhs; rw [hfl]
        simp only [List.flatten_append, List.flatten_cons, List.flatten_nil, List.length_append, List.append_nil, List.length_singleton]
        omega
      · rw [hlen] at hi
        rcases Nat.lt_or_ge i (ps.length - 1) with hlt | hge
        · rw [hgd i hlt]
          have := C.pg i hi
          simp only [List.getD] at this ⊢
          rw [List.getElem?_set_ne (by omega)]
          exact this
        · obtain rfl : i = ps.length - 1 := by omega
          rw [hgl, show ps.length - 1 + 1 = ps.length by omega]
          simp only [List.getD]
          rw [List.getElem?_set_self (by rw [C.len]; omega)]
          exact hdec
      · rw [hlen] at hi
        rcases Nat.lt_or_ge i (ps.length - 1) with hlt | hge
        · rw [hgd i hlt]; exact C.ok i hi
        · obtain rfl : i = ps.length - 1 := by omega
          rw [hgl]; exact ⟨by simp, hfit⟩
  · unfold nextPs
    split
    · simp
    · rename_i hf
      have h0 := (fresh_false (by simpa using hf : freshOf ps.length d.itv (lastPg ps) r = false)).1
      have hfl : ps = ps.dropLast ++ [lastPg ps] := split_last ps h0
      conv => rhs; rw [hfl]
      simp only [List.flatten_append, List.flatten_cons, List.flatten_nil, List.length_append, List.append_nil, List.length_singleton]
      omega
  · rw [← Int.ofNat_le, ← Int.ofNat_le]
    have := hfin
    unfold finOf at this
    split at this <;> omega
end Go.Proofs.YtnkhifgppcnmkaaDoor

/- Plain laws of clusters: the addresses, and what build leaves. No walk. -/
namespace Go.Proofs.YtnkhifgppcnmkaaDoor
open Iv

abbrev Pr := Int × ByteArray
/-- The records of a page with their addresses. -/
def offs (a : Int) : List ByteArray → List Pr
  | [] => []
  | r :: l => (a, r) :: offs (a + r.size) l
/-- The records of the pages from number p on, with their addresses. -/
def addrs (itv : Int) : Nat → List (List ByteArray) → List Pr
  | _, [] => []
  | p, l :: ps => offs (p * itv) l ++ addrs itv (p + 1) ps

theorem offs_snoc (r : ByteArray) : ∀ (l : List ByteArray) (a : Int), offs a (l ++ [r]) = offs a l ++ [(a + ((content l).length : Nat), r)] := by
  intro l
  induction l with
  | nil => intro a; simp [offs, content]
  | cons s l ih =>
    intro a
    rw [List.cons_append, offs, ih, offs, content_cons, List.length_append, content_size, List.cons_append]
    have e : a + (s.size : Int) + ((content l).length : Int) = a + ((s.size + (content l).length : Nat) : Int) := by omega
    rw [e]
theorem offs_length : ∀ (l : List ByteArray) (a : Int), (offs a l).length = l.length := by
  intro l
  induction l with
  | nil => intro a; rfl
  | cons s l ih => intro a; simp [offs, ih]
theorem addrs_append (itv : Int) : ∀ (ps qs : List (List ByteArray)) (p : Nat), addrs itv p (ps ++ qs) = addrs itv p ps ++ addrs itv (p + ps.length) qs := by
  intro ps
  induction ps with
  | nil => intro qs p; simp [addrs]
  | cons l ps ih =>
    intro qs p
    rw [List.cons_append, addrs, ih, addrs, List.append_assoc, List.length_cons, show p + 1 + ps.length = p + (ps.length + 1) by omega]
theorem addrs_length (itv : Int) : ∀ (ps : List (List ByteArray)) (p : Nat), (addrs itv p ps).length = ps.flatten.length := by
  intro ps
  induction ps with
  | nil => intro p; rfl
  | cons l ps ih => intro p; rw [addrs, List.length_append, offs_length, ih, List.flatten_cons, List.length_append]

/-- One record more stands behind all others, at the address that Append tells. -/
theorem addrs_next (itv : Int) (ps : List (List ByteArray)) (r : ByteArray) : addrs itv 1 (nextPs itv ps r) = addrs itv 1 ps ++ [(atOf ps.length itv (lastPg ps) r, r)] := by
  unfold nextPs atOf finOf lastOf
  cases hf : freshOf ps.length itv (lastPg ps) r with
  | true =>
    rw [if_pos rfl, if_pos rfl, if_pos rfl, addrs_append]
    simp [addrs, offs, content, Int.add_comm]
  | false =>
    rw [if_neg (by simp), if_neg (by simp), if_neg (by simp), addrs_append]
    conv => rhs; rw [split_last ps (fresh_false hf).1]
    rw [addrs_append, List.length_dropLast, show 1 + (ps.length - 1) = ps.length by have := (fresh_false hf).1; omega]
    have hl : ((ps.dropLast ++ [lastPg ps]).length : Int) = ps.length := by have := (fresh_false hf).1; rw [List.length_append, List.length_dropLast, List.length_singleton]; omega
    have hg : lastPg (ps.dropLast ++ [lastPg ps]) = lastPg ps := by rw [← split_last ps (fresh_false hf).1]
    rw [hl, hg]
    simp only [addrs, offs_snoc, List.append_nil, List.append_assoc]

/-- The state of build. -/
structure Bs where
  h : Hd
  m : List ByteArray
  prs : List Pr
  last : Int
def bs0 : Bs := ⟨hd0, [⟨#[]⟩], [], 0⟩
def stepB (d : Ds) (s : Bs) (r : ByteArray) : Bs :=
  if (appendOf s.m s.h d r).e = 0 then ⟨(appendOf s.m s.h d r).h, putOf s.m (appendOf s.m s.h d r).ws, s.prs ++ [((appendOf s.m s.h d r).at_, r)], (appendOf s.m s.h d r).at_⟩ else s
def buildOf (d : Ds) (l : List ByteArray) : Bs := l.foldl (stepB d) bs0

structure BInv (d : Ds) (s : Bs) (ps : List (List ByteArray)) : Prop where
  cl : Cl d s.m s.h ps
  prs : s.prs = addrs d.itv 1 ps
  last : (ps = [] ∧ s.last = 0) ∨ (ps ≠ [] ∧ s.last < ps.length * d.itv + ((content (lastPg ps)).length : Nat))
  hd : s.h = { hd0 with cnt := s.h.cnt, fin := s.h.fin }

theorem binv0 (d : Ds) : BInv d bs0 [] :=
  ⟨⟨rfl, rfl, rfl, fun i hi => by simp at hi, fun i hi => by simp at hi⟩, rfl, .inl ⟨rfl, rfl⟩, rfl⟩

theorem valid_itv {d : Ds} (hv : validOf d = true) : 1 ≤ d.itv ∧ d.itv ≤ 512 ∧ d.len ≤ 200 ∧ 1 ≤ d.len := by
  unfold validOf at hv
  simp only [decide_eq_true_eq] at hv
  obtain ⟨h1, _, h2, _⟩ := hv
  omega

theorem content_fits {itv : Int} {l : List ByteArray} (h : fitsOf itv l = true) : ((content l).length : Int) + 4 ≤ itv := by
  unfold fitsOf at h
  simp only [Bool.and_eq_true, decide_eq_true_eq] at h
  have := sizes l
  omega

/-- What a round of build does with a record of an allowed length. -/
theorem BInv.step {d : Ds} {s : Bs} {ps : List (List ByteArray)} (B : BInv d s ps) (hv : validOf d = true) (ho : d.org = 1) (hn : ps.flatten.length < 9000) (r : ByteArray) (h1 : 1 ≤ r.size) (h2 : (r.size : Int) ≤ d.len) :
    ∃ pg, appendOf s.m s.h d r = ⟨{ s.h with cnt := s.h.cnt + 1, fin := (nextPs d.itv ps r).length }, [(((nextPs d.itv ps r).length : Nat), pg)], atOf ps.length d.itv (lastPg ps) r, 0⟩ ∧ (pg.size : Int) = d.itv ∧
      s.last < atOf ps.length d.itv (lastPg ps) r ∧ s.h.fin ≤ (nextPs d.itv ps r).length ∧ (nextPs d.itv ps r).flatten.length = ps.flatten.length + 1 ∧ BInv d (stepB d s r) (nextPs d.itv ps r) := by
  obtain ⟨pg, he, hz, hC, hfl, hle, hle2⟩ := B.cl.append hv ho hn r h1 h2
  have hi := valid_itv hv
  have hlt : s.last < atOf ps.length d.itv (lastPg ps) r := by
    unfold atOf finOf lastOf
    rcases B.last with ⟨rfl, h0⟩ | ⟨hne, hl⟩
    · rw [h0]
      have : freshOf (([] : List (List ByteArray)).length : Nat) d.itv (lastPg []) r = true := by simp [freshOf]
      rw [if_pos this, if_pos this]
      simp [content]
      omega
    · have hpos : 0 < ps.length := List.length_pos_iff.2 hne
      cases hf : freshOf ps.length d.itv (lastPg ps) r with
      | true =>
        rw [if_pos rfl, if_pos rfl]
        have := content_fits (B.cl.ok (ps.length - 1) (by omega)).2
        rw [← lastPg_get ps] at this
        have e : ((ps.length : Int) + 1) * d.itv = ps.length * d.itv + d.itv := by rw [Int.add_mul, Int.one_mul]
        rw [e]
        simp [content]
        omega
      | false =>
        rw [if_neg (by simp), if_neg (by simp)]
        exact hl
  refine ⟨pg, he, hz, hlt, by rw [B.cl.fin]; omega, hfl, ?_⟩
  have hst : stepB d s r = ⟨{ s.h with cnt := s.h.cnt + 1, fin := (nextPs d.itv ps r).length }, putOf s.m [(((nextPs d.itv ps r).length : Nat), pg)], s.prs ++ [(atOf ps.length d.itv (lastPg ps) r, r)], atOf ps.length d.itv (lastPg ps) r⟩ := by
    unfold stepB
    rw [he, if_pos rfl]
  rw [hst]
  refine ⟨hC, by rw [addrs_next, B.prs], .inr ?_, ?_⟩
  · unfold atOf finOf lastOf nextPs
    cases hf : freshOf ps.length d.itv (lastPg ps) r with
    | true =>
      rw [if_pos rfl, if_pos rfl, if_pos rfl]
      refine ⟨by simp, ?_⟩
      have hl : lastPg (ps ++ [[r]]) = [r] := by unfold lastPg; simp
      show ((ps.length : Int) + 1) * d.itv + ((content []).length : Nat) < ((ps ++ [[r]]).length : Nat) * d.itv + ((content (lastPg (ps ++ [[r]]))).length : Nat)
      have hc : (content [r]).length = r.size := by rw [content_cons, List.length_append, content_size]; rfl
      rw [hl, hc, List.length_append, List.length_singleton]
      have : (content ([] : List ByteArray)).length = 0 := rfl
      rw [this, Int.natCast_add]
      simp
      omega
    | false =>
      rw [if_neg (by simp), if_neg (by simp), if_neg (by simp)]
      refine ⟨by simp, ?_⟩
      have h0 := (fresh_false hf).1
      have hl : lastPg (ps.dropLast ++ [lastPg ps ++ [r]]) = lastPg ps ++ [r] := by generalize lastPg ps = q; unfold lastPg; simp
      show (ps.length : Int) * d.itv + ((content (lastPg ps)).length : Nat) < ((ps.dropLast ++ [lastPg ps ++ [r]]).length : Nat) * d.itv + ((content (lastPg (ps.dropLast ++ [lastPg ps ++ [r]]))).length : Nat)
      have hc : (content [r]).length = r.size := by rw [content_cons, List.length_append, content_size]; rfl
      rw [hl, content_append, List.length_append, List.length_append, hc, List.length_dropLast, List.length_singleton]
      have : ps.length - 1 + 1 = ps.length := by omega
      rw [this]
      omega
  · have := B.hd
    rw [this]

/-- A record of a length that is not allowed is refused. -/
theorem BInv.refuse {d : Ds} {s : Bs} {ps : List (List ByteArray)} (B : BInv d s ps) (hv : validOf d = true) (ho : d.org = 1) (hn : ps.flatten.length < 9000) (r : ByteArray) (h : ¬ (1 ≤ (r.size : Int) ∧ (r.size : Int) ≤ d.len)) :
    appendOf s.m s.h d r = ⟨hd0, [], 0, 2⟩ ∧ stepB d s r = s := by
  have hfew := pages_few ps (fun i hi => (B.cl.ok i hi).1)
  have hp : plainOf s.h = true := by
    unfold plainOf
    rw [B.cl.fin, B.cl.cnt]
    simp only [decide_eq_true_eq]
    omega
  have hd : doorOf s.h d 1 = 0 := by unfold doorOf; rw [if_neg (by simp [hv, hp]), if_neg (by simp [ho])]
  have he : appendOf s.m s.h d r = ⟨hd0, [], 0, 2⟩ := by unfold appendOf; rw [hd, if_neg (by simp), if_pos h]
  refine ⟨he, ?_⟩
  unfold stepB
  rw [he, if_neg (by simp)]

theorem binv_take {d : Ds} (hv : validOf d = true) (ho : d.org = 1) (l : List ByteArray) (hl : l.length ≤ 1000) : ∀ k, k ≤ l.length → ∃ ps, BInv d (buildOf d (l.take k)) ps ∧ ps.flatten.length ≤ k := by
  intro k
  induction k with
  | zero => intro _; exact ⟨[], by simpa [buildOf] using binv0 d, by simp⟩
  | succ k ih =>
    intro hk
    obtain ⟨ps, B, hn⟩ := ih (by omega)
    have hs : buildOf d (l.take (k + 1)) = stepB d (buildOf d (l.take k)) l[k] := by
      unfold buildOf
      rw [List.take_succ_eq_append_getElem (by omega), List.foldl_append]
      rfl
    rw [hs]
    by_cases h : 1 ≤ (l[k].size : Int) ∧ (l[k].size : Int) ≤ d.len
    · obtain ⟨_, _, _, _, _, hfl, hB⟩ := B.step hv ho (by omega) l[k] (by omega) h.2
      exact ⟨_, hB, by omega⟩
    · rw [(B.refuse hv ho (by omega) l[k] h).2]
      exact ⟨ps, B, by omega⟩
end Go.Proofs.YtnkhifgppcnmkaaDoor

/- Plain laws of clusters: the addresses that Places tells are those that Append gives. No walk. -/
namespace Go.Proofs.YtnkhifgppcnmkaaDoor
open Iv

theorem fresh_sizes {fin itv : Int} {l l' : List ByteArray} {r r' : ByteArray} (h : l.map (·.size) = l'.map (·.size)) (hr : r.size = r'.size) : freshOf fin itv l r = freshOf fin itv l' r' := by
  unfold freshOf
  rw [fits_sizes (l := l ++ [r]) (l' := l' ++ [r']) (by rw [List.map_append, List.map_append, h]; simp [hr])]
theorem fin_sizes {fin itv : Int} {l l' : List ByteArray} {r r' : ByteArray} (h : l.map (·.size) = l'.map (·.size)) (hr : r.size = r'.size) : finOf fin itv l r = finOf fin itv l' r' := by
  unfold finOf; rw [fresh_sizes h hr]
theorem last_sizes {fin itv : Int} {l l' : List ByteArray} {r r' : ByteArray} (h : l.map (·.size) = l'.map (·.size)) (hr : r.size = r'.size) : (lastOf fin itv l r).map (·.size) = (lastOf fin itv l' r').map (·.size) := by
  unfold lastOf; rw [fresh_sizes h hr]; split
  · rfl
  · exact h
theorem at_sizes {fin itv : Int} {l l' : List ByteArray} {r r' : ByteArray} (h : l.map (·.size) = l'.map (·.size)) (hr : r.size = r'.size) : atOf fin itv l r = atOf fin itv l' r' := by
  unfold atOf; rw [fin_sizes h hr, content_sizes (last_sizes h hr)]

theorem fin_next (itv : Int) (ps : List (List ByteArray)) (r : ByteArray) : finOf ps.length itv (lastPg ps) r = ((nextPs itv ps r).length : Nat) := by
  unfold finOf nextPs
  cases hf : freshOf ps.length itv (lastPg ps) r with
  | true => rw [if_pos rfl, if_pos rfl]; simp
  | false =>
    have := (fresh_false hf).1
    rw [if_neg (by simp), if_neg (by simp), List.length_append, List.length_dropLast, List.length_singleton]
    omega
theorem last_next (itv : Int) (ps : List (List ByteArray)) (r : ByteArray) : lastPg (nextPs itv ps r) = lastOf ps.length itv (lastPg ps) r ++ [r] := by
  unfold nextPs lastOf
  cases hf : freshOf ps.length itv (lastPg ps) r with
  | true => rw [if_pos rfl, if_pos rfl]; unfold lastPg; simp
  | false =>
    rw [if_neg (by simp), if_neg (by simp)]
    generalize lastPg ps = q
    unfold lastPg; simp

/-- The addresses that records get, one after the other. -/
def atsOf (itv : Int) : List (List ByteArray) → List ByteArray → List Int
  | _, [] => []
  | ps, r :: l => atOf ps.length itv (lastPg ps) r :: atsOf itv (nextPs itv ps r) l
def psOf (itv : Int) (ps : List (List ByteArray)) (l : List ByteArray) : List (List ByteArray) := l.foldl (nextPs itv) ps

theorem atsOf_length (itv : Int) : ∀ (l : List ByteArray) (ps : List (List ByteArray)), (atsOf itv ps l).length = l.length := by
  intro l
  induction l with
  | nil => intro ps; rfl
  | cons r l ih => intro ps; simp [atsOf, ih]
theorem atsOf_get (itv : Int) : ∀ (l : List ByteArray) (ps : List (List ByteArray)) (k : Nat) (hk : k < l.length), (atsOf itv ps l)[k]? = some (atOf (psOf itv ps (l.take k)).length itv (lastPg (psOf itv ps (l.take k))) l[k]) := by
  intro l
  induction l with
  | nil => intro ps k hk; simp at hk
  | cons r l ih =>
    intro ps k hk
    cases k with
    | zero => simp [atsOf, psOf]
    | succ k =>
      rw [atsOf, List.getElem?_cons_succ, ih _ k (by simpa using hk)]
      simp [psOf]

theorem fold_places (itv : Int) : ∀ (l : List ByteArray) (ps : List (List ByteArray)) (h : Hd) (last : List ByteArray) (out : List Int), h.fin = ps.length → last.map (·.size) = (lastPg ps).map (·.size) →
    ((l.map fun r => (r.size : Int)).foldl (stepPl itv) (h, last, out)).2.2 = out ++ atsOf itv ps l := by
  intro l
  induction l with
  | nil => intro ps h last out _ _; simp [atsOf]
  | cons r l ih =>
    intro ps h last out hf hl
    rw [List.map_cons, List.foldl_cons]
    have hz : (zer (r.size : Int)).size = r.size := by unfold zer; rw [ofL_size, List.length_replicate]; simp
    have e1 : finOf h.fin itv last (zer r.size) = ((nextPs itv ps r).length : Nat) := by rw [hf, fin_sizes hl hz, fin_next]
    have e2 : (lastOf h.fin itv last (zer r.size) ++ [zer r.size]).map (·.size) = (lastPg (nextPs itv ps r)).map (·.size) := by
      rw [last_next, List.map_append, List.map_append, hf, last_sizes hl hz]
      simp [hz]
    have e3 : atOf h.fin itv last (zer r.size) = atOf ps.length itv (lastPg ps) r := by rw [hf, at_sizes hl hz]
    show ((l.map fun r => (r.size : Int)).foldl (stepPl itv) ({ h with cnt := h.cnt + 1, fin := finOf h.fin itv last (zer r.size) }, lastOf h.fin itv last (zer r.size) ++ [zer r.size], out ++ [atOf h.fin itv last (zer r.size)])).2.2 = _
    rw [ih (nextPs itv ps r) _ _ _ e1 e2, e3, atsOf, List.append_assoc]
    rfl

/-- Whether all lengths are allowed. -/
def fineOf (d : Ds) (l : List ByteArray) : Bool := l.all fun r => decide (1 ≤ (r.size : Int)) && decide ((r.size : Int) ≤ d.len)

theorem fine_iff {d : Ds} {l : List ByteArray} : fineOf d l = true ↔ ∀ r ∈ l, 1 ≤ (r.size : Int) ∧ (r.size : Int) ≤ d.len := by
  unfold fineOf
  simp [List.all_eq_true]

/-- What Places tells of a cluster of pages. -/
theorem places_cl {d : Ds} {m : List ByteArray} {h : Hd} {ps : List (List ByteArray)} (C : Cl d m h ps) (hv : validOf d = true) (ho : d.org = 1) (hn : ps.flatten.length < 9000) (l : List ByteArray) :
    placesOf m h d (l.map fun r => (r.size : Int)) = if fineOf d l = true then (atsOf d.itv ps l, 0) else ([], 2) := by
  have hfew := pages_few ps (fun i hi => (C.ok i hi).1)
  have hp : plainOf h = true := by
    unfold plainOf
    rw [C.fin, C.cnt]
    simp only [decide_eq_true_eq]
    omega
  have hd : doorOf h d 1 = 0 := by unfold doorOf; rw [if_neg (by simp [hv, hp]), if_neg (by simp [ho])]
  have hany : (l.map fun r => (r.size : Int)).any (fun n => !(inB n 1 d.len)) = !fineOf d l := by
    unfold fineOf
    rw [List.any_map]
    induction l with
    | nil => rfl
    | cons r l ih =>
      rw [List.any_cons, List.all_cons, ih]
      simp only [Function.comp, inB]
      by_cases h1 : 1 ≤ (r.size : Int) <;> by_cases h2 : (r.size : Int) ≤ d.len <;> simp [h1, h2]
  unfold placesOf
  rw [hd, if_neg (by simp), hany]
  cases hf : fineOf d l with
  | false => rfl
  | true =>
    rw [if_neg (by simp), if_pos rfl]
    cases l with
    | nil => rfl
    | cons r l =>
      rw [if_neg (by simp), C.endOf, if_neg (by simp)]
      rw [fold_places d.itv (r :: l) ps h (lastPg ps) [] C.fin rfl]
      rfl

/-- The state after some more records, all of allowed lengths. -/
theorem run_take {d : Ds} (hv : validOf d = true) (ho : d.org = 1) {s : Bs} {ps : List (List ByteArray)} (B : BInv d s ps) (l : List ByteArray) (hn : ps.flatten.length + l.length < 9000) (hf : fineOf d l = true) :
    ∀ k, k ≤ l.length → BInv d ((l.take k).foldl (stepB d) s) (psOf d.itv ps (l.take k)) ∧ (psOf d.itv ps (l.take k)).flatten.length = ps.flatten.length + k := by
  intro k
  induction k with
  | zero => intro _; exact ⟨by simpa [psOf] using B, by simp [psOf]⟩
  | succ k ih =>
    intro hk
    obtain ⟨hB, hl⟩ := ih (by omega)
    have ha := fine_iff.1 hf l[k] (List.getElem_mem _)
    obtain ⟨_, _, _, _, _, hfl, hB'⟩ := hB.step hv ho (by omega) l[k] (by omega) ha.2
    have e1 : (l.take (k + 1)).foldl (stepB d) s = stepB d ((l.take k).foldl (stepB d) s) l[k] := by
      rw [List.take_succ_eq_append_getElem (by omega), List.foldl_append]; rfl
    have e2 : psOf d.itv ps (l.take (k + 1)) = nextPs d.itv (psOf d.itv ps (l.take k)) l[k] := by
      unfold psOf
      rw [List.take_succ_eq_append_getElem (by omega), List.foldl_append]; rfl
    rw [e1, e2]
    exact ⟨hB', by omega⟩
end Go.Proofs.YtnkhifgppcnmkaaDoor

/- Walks: numbers as keys. -/
namespace Go.Proofs.YtnkhifgppcnmkaaDoor
open Go.RowKit Iv

/-- The low k bytes of a number, the greatest first. -/
def lo : Nat → Nat → List UInt8
  | 0, _ => []
  | k + 1, n => UInt8.ofNat (n / 256 ^ k) :: lo k n
theorem lo_length (n : Nat) : ∀ k, (lo k n).length = k := by
  intro k
  induction k with
  | zero => rfl
  | succ k ih => simp [lo, ih]
/-- A number as a key. -/
def keyOf (n : Int) : ByteArray := if n < 0 ∨ 1099511627776 < n then ByteArray.empty else ofL (lo 8 n.toNat)

def u8l (l : List UInt8) : List Value := l.map fun c => Value.int .u8 ((c.toNat : Nat) : Int)
theorem u8l_one (l : List UInt8) : ∀ u ∈ u8l l, u.oneCell' = true := by
  intro u hu
  obtain ⟨c, _, rfl⟩ := List.mem_map.1 hu
  rfl
set_option maxRecDepth 100000 in
theorem elemByte : Elem 57 5 1 1 := elem_of (z := .int .u8 0) Tryd.underlying57 (by kernel_rfl) rfl (by decide)
theorem own_lit {B : Nat} {w : World} {H e : Nat} {v : Value} (h : w.heap[H]? = some (.cells #[v] e (0, 0))) (hB : B ≤ H) : w.ownsRow B e 1 (.slice (some ⟨H, 0, none⟩) 1 1) 1 [v] :=
  ⟨by simp, .inr ⟨H, 1, #[v], rfl, hB, h, Nat.le_refl _, by decide, by simp, by simp⟩⟩
theorem lo_cell (k m n : Nat) (h : m = n / 256 ^ k) : [Value.int .u8 ((m : Int) % 256)] ++ u8l (lo k n) = u8l (lo (k + 1) n) := by
  subst h
  simp [u8l, lo]

theorem at_bound {d : Ds} {m : List ByteArray} {h : Hd} {ps : List (List ByteArray)} (C : Cl d m h ps) (hv : validOf d = true) (hn : ps.flatten.length < 9000) (r : ByteArray) : atOf ps.length d.itv (lastPg ps) r ≤ 9223372036854775807 ∧ -9223372036854775808 ≤ atOf ps.length d.itv (lastPg ps) r := by
  have hi := valid_itv hv
  have hp := pages_few ps (fun i hi => (C.ok i hi).1)
  have h1 : ∀ q : Int, 0 ≤ q → q ≤ 9001 → 0 ≤ q * d.itv ∧ q * d.itv ≤ 9001 * 512 := fun q h0 h1 => ⟨Int.mul_nonneg h0 (by omega), by
    have a := Int.mul_le_mul_of_nonneg_right h1 (by omega : 0 ≤ d.itv)
    have b := Int.mul_le_mul_of_nonneg_left hi.2.1 (by omega : (0 : Int) ≤ 9001)
    omega⟩
  have h2 : ((content (lastPg ps)).length : Int) ≤ 512 := by
    rcases Nat.eq_zero_or_pos ps.length with h0 | h0
    · have : ps = [] := List.eq_nil_of_length_eq_zero h0
      subst this
      simp [lastPg, content]
    · have := content_fits (C.ok (ps.length - 1) (by omega)).2
      rw [← lastPg_get ps] at this
      omega
  unfold atOf finOf lastOf
  cases freshOf ps.length d.itv (lastPg ps) r with
  | true =>
    rw [if_pos rfl, if_pos rfl]
    have := h1 ((ps.length : Int) + 1) (by omega) (by omega)
    simp [content]
    omega
  | false =>
    rw [if_neg (by simp), if_neg (by simp)]
    have := h1 (ps.length : Int) (by omega) (by omega)
    omega

set_option maxHeartbeats 800000 in
theorem refSlot_any (n : Int) (w : World) (h63 : n ≤ 9223372036854775807) (h64 : -9223372036854775808 ≤ n) :
    Calls Tryd.prog 66 #[.int .i64 n] w fun e w' => e = .returned (.string (keyOf n)) ∧ Below w.heap.size w w' := by
  by_cases h0 : n < 0
  · have HK : Hid (keyOf n = ByteArray.empty) := by show _ = _; unfold keyOf; rw [if_pos (.inl h0)]
    have hd : decide (n < 0) = true := decide_eq_true h0
    clear h0
    go_enter Tryd.func66, Tryd.ntmps66
    go_wp2
    go_ret
    exact ⟨ret_string HK.out.symm, Below.refl _ _⟩
  · have hd : decide (n < 0) = false := decide_eq_false h0
    by_cases h1 : 1099511627776 < n
    · have HK : Hid (keyOf n = ByteArray.empty) := by show _ = _; unfold keyOf; rw [if_pos (.inr h1)]
      have hd1 : decide (1099511627776 < n) = true := decide_eq_true h1
      clear h0 h1
      go_enter Tryd.func66, Tryd.ntmps66
      go_wp2
      go_ret
      exact ⟨ret_string HK.out.symm, Below.refl _ _⟩
    · have hd1 : decide (1099511627776 < n) = false := decide_eq_false h1
      have HK : Hid (keyOf n = ofL (lo 8 n.toNat)) := by show _ = _; unfold keyOf; rw [if_neg (by omega)]
      obtain ⟨N, rfl⟩ : ∃ N : Nat, n = N := ⟨n.toNat, by omega⟩
      have hN : N ≤ 1099511627776 := by omega
      clear h0 h1
      go_enter Tryd.func66, Tryd.ntmps66
      go_wp2
      go_loopw [0, 3, 4] (fun x y z wr => ∃ (k m : Nat), z = .int .i64 k ∧ k ≤ 8 ∧ m = N / 256 ^ k ∧ x = .int .i64 m ∧ wr.ownsRow w.heap.size 5 1 y k (u8l (lo k N)) ∧ Below w.heap.size w wr) (fun _ _ z _ => 8 - (intOf z).toNat)
      case atStart => exact ⟨0, N, rfl, by omega, by simp, rfl, own_empty (Nat.le_refl _) (heap_alloc_new _ _), (Below.refl _ _).alloc (Nat.le_refl _) _⟩
      case round =>
        obtain ⟨k, m, rfl, hk, hm, rfl, ho, hb⟩ := hrel
        have HM := Lib.hid hm
        have HO := Lib.hid ho
        have HB := Lib.hid hb
        have hmz : m ≤ 1099511627776 := by rw [hm]; exact Nat.le_trans (Nat.div_le_self _ _) hN
        clear hm ho hb
        by_cases hlt : k < 8
        · have HL : Hid (1 + k ≤ maxLen ∧ (1 + k) * 1 ≤ 140737488355328) := by show _ ∧ _; unfold maxLen; omega
          go_wp2_with (first | (at_builtin; refine wpl_cat elemByte rfl _ _ rfl w.heap.size (.slice (some ⟨wr.heap.size, 0, none⟩) 1 1) 1 [.int .u8 ((m : Int) % 256)] rfl (own_lit (heap_alloc_new _ _) HB.out.size) (Nat.le_trans HB.out.size (by simp)) _ k (u8l (lo k N)) rfl (cat_own (World.ownsRow.alloc HO.out _)) (by rw [u8l, List.length_map, lo_length, Nat.mul_one]) (u8l_one _) HL.out.1 HL.out.2 ?_; intro v1 w1 hown1 hgr1; have HB1 : Hid (Below w.heap.size w w1) := below_grown (HB.out.alloc HB.out.size _) hgr1 (own_lit (heap_alloc_new _ _) HB.out.size); rw [lo_cell k m N HM.out] at hown1; have HO1 := Lib.hid hown1; clear hown1 hgr1) | fail)
          refine ⟨⟨k + 1, m / 256, by go_num, by omega, by rw [HM.out, Nat.pow_succ, ← Nat.div_div_eq_div_mul], by go_num, by have := HO1.out; rwa [Nat.add_comm] at this, HB1.out⟩, by simp [intOf]; omega⟩
        · obtain rfl : k = 8 := by omega
          obtain ⟨A, c, rfl, hr, _⟩ := own_row HO.out
          have hlen : (u8l (lo 8 N)).length = 8 := by rw [u8l, List.length_map, lo_length]
          obtain ⟨b, o, rfl, _, hc⟩ := hr (by omega)
          have hcv : (convert 57 9 (.slice (some ⟨b, o, none⟩) 8 c)).run Tryd.prog wr = .ok (.string (ofL (lo 8 N))) wr := by
            have := conv_bytes wr b o c (lo 8 N) (fun i hi => by
              rw [lo_length] at hi
              rw [hc i (by omega), u8l]
              simp [List.getD, lo_length, hi])
            rw [lo_length] at this
            exact this
          clear hlen hr hc hlt
          go_wp2
          go_ret
          exact ⟨ret_string HK.out.symm, HB.out⟩

theorem grown_at {W w : World} {q : Nat} {o : Obj} {row : Option Nat} (hg : W.grownBy w row) (h : W.heap[q]? = some o) (hn : some q ≠ row) : w.heap[q]? = some o := (hg.block q (blk_lt h) hn).trans h

theorem run_catG {t e size bytes : Nat} (E : Elem t e size bytes) (ty B : Nat) (w : World) (v : Value) (n : Nat) (xs : List Value) (hown : w.ownsRow B e size v n xs) (x : Value) (m : Nat) (news : List Value) (hc : Cat w x m news)
    (hl : news.length = m * size) (h1 : ∀ u ∈ news, u.oneCell' = true) (h63 : n + m ≤ maxLen) (hbytes : (n + m) * bytes ≤ 140737488355328) (hB : B ≤ w.heap.size) :
    ∃ v' w', (Builtin.append_ #[t, t] ty #[v, x]).run Tryd.prog w = .ok v' w' ∧ w'.ownsRow B e size v' (n + m) (xs ++ news) ∧ w.grownBy w' v.ownBlock ∧ (v'.ownBlock = v.ownBlock ∨ v'.ownBlock = some w.heap.size) := by
  obtain ⟨ht, i, z, hi, hz, hsz, hby, hzs, h0⟩ := E
  rcases hc with ⟨rfl, rfl, rfl⟩ | ⟨ad, c, rfl, hn⟩
  · refine ⟨v, w, run_append_owned_none w B t ty e i size ht hi v n xs hown, by simpa using hown, ⟨rfl, rfl, rfl, Nat.le_refl _, fun _ _ _ => rfl⟩, .inl rfl⟩
  · obtain ⟨v', w', hr, h2, h3, _, h4⟩ := run_append_own_at (P := Tryd.prog) w B t ty e i z size bytes ht hi hz hsz hby hzs h0 v n xs hown ad m c news hl hn h1 h63 hbytes hB
    exact ⟨v', w', hr, h2, h3, h4⟩

/-- A slice is appended in a region that draws its order; where the new one lies. -/
theorem step_catG {ops : Array Oper} {o : Oper} {a : Act} {K : Act → World → Prop} {Q : Exit → Act → World → Prop} {X : Prop} {t e size bytes : Nat} (E : Elem t e size bytes) (hgd : Region.wanted o (yielded ops a.tmps) = true) (s x : Operand)
    (ho : o.op = .call { callee := .builtin .append, args := #[s, x], argTypes := #[t, t] })
    {w : World} (B : Nat) (v : Value) (n : Nat) (xs : List Value) (hs : a.eval s = v) (hown : w.ownsRow B e size v n xs) (hB : B ≤ w.heap.size)
    (y : Value) (m : Nat) (news : List Value) (hx : a.eval x = y) (hc : Cat w y m news) (hl : news.length = m * size) (h1 : ∀ u ∈ news, u.oneCell' = true) (h63 : n + m ≤ maxLen) (hbytes : (n + m) * bytes ≤ 140737488355328)
    (h : ∀ v' w', w'.ownsRow B e size v' (n + m) (xs ++ news) → w.grownBy w' v.ownBlock → (v'.ownBlock = v.ownBlock ∨ v'.ownBlock = some w.heap.size) → K (a.put o.dst v') w') :
    if Region.wanted o (yielded ops a.tmps) = true then Oper.wp Tryd.prog o a w K Q else X := by
  rw [if_pos hgd]
  obtain ⟨v', w', hr, h2, h3, h4⟩ := run_catG E o.type B w v n xs hown y m news hc hl h1 h63 hbytes hB
  unfold Oper.wp execOp
  simp only [ho, resolve, invoke, builtin, Sem.run_bind, Sem.run_pure, Result.andThen_ok, List.map_toArray, List.map_cons, List.map_nil, hs, hx, hr]
  exact h v' w' h2 h3 h4
end Go.Proofs.YtnkhifgppcnmkaaDoor

/- Walks of chapter 18: build. -/
namespace Go.Proofs.YtnkhifgppcnmkaaDoor
open Go.RowKit Iv
attribute [local go_sem ↓] Go.wp_at_zero Go.wp_at_succ exec_ld23 exec_ld30 exec_st23 exec_st30 heap_alloc_new heap_alloc_old
attribute [local go_sem] ld23_run ld30_run st23_run st30_run

/-- The cells of pairs, their keys addresses. -/
def prCells (l : List Pr) : List Value := l.flatMap fun x => [.string (keyOf x.1), .string x.2]
theorem prCells_one (l : List Pr) : ∀ u ∈ prCells l, u.oneCell' = true := by
  intro u hu
  obtain ⟨x, _, h⟩ := List.mem_flatMap.1 hu
  simp only [List.mem_cons, List.not_mem_nil, or_false] at h
  rcases h with rfl | rfl <;> rfl
theorem prCells_snoc (l : List Pr) (a : Int) (r : ByteArray) : prCells (l ++ [(a, r)]) = prCells l ++ [.string (keyOf a), .string r] := by simp [prCells]

/-- What build answers. -/
def BuildTo (w : World) (s : Bs) (e : Ending) (w' : World) : Prop :=
  ∃ vm vp, e = .returned (.tuple #[.agg s.h.cells, vm, vp, .bool true]) ∧ OwnS w.heap.size w' vm s.m ∧ w'.ownsRow w.heap.size 48 2 vp s.prs.length (prCells s.prs) ∧
    (∀ q, vp.ownBlock = some q → vm.ownBlock ≠ some q) ∧ (s.m.length ≤ 20000 ∧ ∀ x ∈ s.m, x.size ≤ 1000) ∧ Below w.heap.size w w'

/-- The state of build's loop: the memory's row vm, the pairs' row vp, the header's box g8. -/
structure BuS (w wr : World) (g8 : Nat) (d : Ds) (Z : Array Value) (s : Bs) (vm vp : Value) : Prop where
  hd : wr.heap[w.heap.size]? = some (.cells d.cells 23 (0, 0))
  hz : wr.heap[w.heap.size + 1]? = some (.cells Z 30 (0, 0))
  hh : wr.heap[g8]? = some (.cells s.h.cells 30 (0, 0))
  om : OwnS (w.heap.size + 1 + 1) wr vm s.m
  op : wr.ownsRow (w.heap.size + 1 + 1) 48 2 vp s.prs.length (prCells s.prs)
  dm : vm.ownBlock ≠ some g8
  dp : vp.ownBlock ≠ some g8
  dd : ∀ q, vp.ownBlock = some q → vm.ownBlock ≠ some q
  ms : s.m.length ≤ 20000 ∧ ∀ x ∈ s.m, x.size ≤ 1000
  le : w.heap.size + 1 < g8
  bel : Below w.heap.size w wr

theorem BuS.keep {w wr wr' : World} {g8 : Nat} {d : Ds} {Z : Array Value} {s : Bs} {vm vp : Value} (H : BuS w wr g8 d Z s vm vp) (hb : Below wr.heap.size wr wr') : BuS w wr' g8 d Z s vm vp :=
  ⟨block_at hb H.hd, block_at hb H.hz, block_at hb H.hh, own_keep H.om hb, own_keep H.op hb, H.dm, H.dp, H.dd, H.ms, H.le, bstep H.bel hb⟩

set_option maxHeartbeats 1600000 in
set_option maxRecDepth 100000 in
theorem build_any (d : Ds) (A : Option Addr) (c : Nat) (l : List ByteArray) (w : World) (hv : validOf d = true) (ho : d.org = 1) (hl : l.length ≤ 40) (hz : ∀ k, k < l.length → (l.getD k ByteArray.empty).size ≤ 300) (hs : StrsA w A l) :
    Calls Tryd.prog 57 #[.agg d.cells, .slice A l.length c] w (BuildTo w (buildOf d l)) := by
  have HSA := Lib.hid hs
  have HV := Lib.hid hv
  have HO := Lib.hid ho
  have HRZ := Lib.hid hz
  obtain ⟨dc, hdc⟩ : ∃ dc, dc = d.cells := ⟨_, rfl⟩
  have hds : dc.size = 21 := by rw [hdc]; exact d.size
  have HDO : Hid (dc.all (·.oneCell') = true) := by show _ = _; rw [hdc]; exact ds_one _
  have HDC := Lib.hid hdc
  rw [← hdc]
  clear hs hdc hv ho hz
  go_enter Tryd.func57, Tryd.ntmps57
  go_wp2_with (first | (refine wpl_build 30 _ rfl rfl [] hd0.cells (by kernel_rfl) built_hd0 ?_) | (refine wpl_store_freshN rfl 30 _ _ rfl hd0.cells rfl 30 _ (w.heap.size + 1 + 1 + 1 + 1) (by simp) rfl (by rw [Hd.size]; exact info30) (by rw [Hd.size]; rfl) (hd_one _) ?_; intro w2 hg2 hb2 hs2; have HG2 := Lib.hid hg2; have HB2 := Lib.hid hb2; have HS2 := Lib.hid hs2; clear hg2 hb2 hs2) | fail)
  have HI : Hid (BuS w w2 (w.heap.size + 1 + 1 + 1 + 1) d #[.int .i64 0, .int .i64 0, .int .i64 0, .int .i64 0, .int .i64 0, .int .i64 0, .int .i64 0] bs0 (.slice (some ⟨w.heap.size + 1 + 1, 0, none⟩) 1 1) (.slice (some ⟨w.heap.size + 1 + 1 + 1, 0, none⟩) 0 0)) := by
    have e1 : w2.heap[w.heap.size + 1 + 1]? = some (.cells #[.string ⟨#[]⟩] 9 (0, 0)) := block_at HB2.out (alloc_at (heap_at_alloc (by simp)))
    have e2 : w2.heap[w.heap.size + 1 + 1 + 1]? = some (.cells #[] 48 (0, 0)) := block_at HB2.out (heap_at_alloc (by simp))
    refine ⟨?_, block_at HB2.out (alloc_at (alloc_at (heap_at_alloc (by simp)))), HG2.out, own_one e1 (Nat.le_refl _), own_empty (by omega) e2, by simp [Value.ownBlock], by simp [Value.ownBlock], by simp [Value.ownBlock], ⟨by decide, memE⟩, by omega, ?_⟩
    · rw [← HDC.out]; exact block_at HB2.out (alloc_at (alloc_at (alloc_at (heap_alloc_new _ _))))
    · exact bstep (keep_alloc (keep_alloc (keep_alloc (keep_alloc (Below.refl _ _) _) _) _) _) HB2.out
  obtain ⟨g8, hg8⟩ : ∃ g, g = w.heap.size + 1 + 1 + 1 + 1 := ⟨_, rfl⟩
  obtain ⟨Z, hZ⟩ : ∃ Z, Z = (#[.int .i64 0, .int .i64 0, .int .i64 0, .int .i64 0, .int .i64 0, .int .i64 0, .int .i64 0] : Array Value) := ⟨_, rfl⟩
  have HZS : Hid (Z.size = 7) := by show _ = _; rw [hZ]; rfl
  rw [← hg8, ← hZ] at HI
  rw [← hg8]
  clear hg8 hZ HG2
  go_loopw [9, 10, 11, 12] (fun x y z i wr => ∃ (k : Nat) (ps : List (List ByteArray)), i = .int .i64 k ∧ k ≤ l.length ∧ BInv d (buildOf d (l.take k)) ps ∧ ps.flatten.length ≤ k ∧ z = .int .i64 (buildOf d (l.take k)).last ∧ BuS w wr g8 d Z (buildOf d (l.take k)) x y) (fun _ _ _ i _ => l.length - (intOf i).toNat)
  case atStart => exact ⟨0, [], rfl, Nat.zero_le _, binv0 d, by simp, rfl, HI.out⟩
  case round =>
    obtain ⟨k, ps, rfl, hk, hB, hn, rfl, hS⟩ := hrel
    obtain ⟨s, hsd⟩ : ∃ s, s = buildOf d (l.take k) := ⟨_, rfl⟩
    rw [← hsd] at hB hS ⊢
    have HSD := Lib.hid hsd
    have HB := Lib.hid hB
    have HS := Lib.hid hS
    clear hB hS hsd
    obtain ⟨A6, c6, rfl, _, _⟩ := own_row HS.out.om
    obtain ⟨A7, c7, rfl, _, _⟩ := own_row HS.out.op
    obtain ⟨s', h, m, prs, last, rfl⟩ : ∃ (s' : Bs) (h : Hd) (m : List ByteArray) (prs : List Pr) (last : Int), s = ⟨h, m, prs, last⟩ := ⟨s, s.h, s.m, s.prs, s.last, rfl⟩
    dsimp only at HS HB ⊢
    by_cases hkl : k < l.length
    · obtain ⟨b, o, rfl, hb0, hc1⟩ := HSA.out (by omega)
      have hck := (HS.out.bel.cell (p := ⟨b, o + k, none⟩) hb0).trans (hc1 k hkl)
      have hb1 : b < wr.heap.size := Nat.lt_of_lt_of_le hb0 HS.out.bel.size
      have HRW : Hid (w.cell? ⟨b, o + k, none⟩ = some (.string (l.getD k ByteArray.empty)) ∧ b < w.heap.size) := ⟨hc1 k hkl, hb0⟩
      have HRK := HRZ.out k hkl
      obtain ⟨r, hr⟩ : ∃ r, r = l.getD k ByteArray.empty := ⟨_, rfl⟩
      have HTK : Hid (buildOf d (l.take (k + 1)) = stepB d ⟨h, m, prs, last⟩ r) := by
        show _ = _
        rw [HSD.out, hr]
        unfold buildOf
        rw [List.take_succ_eq_append_getElem hkl, List.foldl_append]
        simp [List.getD, hkl]
      rw [← hr] at hck HRK HRW
      obtain ⟨hc, hhc⟩ : ∃ hc, hc = h.cells := ⟨_, rfl⟩
      have hcz : hc.size = 7 := by rw [hhc]; exact h.size
      have HHC := Lib.hid hhc
      obtain ⟨⟨ah, ws, at1, er⟩, ha⟩ : ∃ a, a = appendOf m h d r := ⟨_, rfl⟩
      have HA := Lib.hid ha
      obtain ⟨ac, hac⟩ : ∃ ac, ac = ah.cells := ⟨_, rfl⟩
      have hacz : ac.size = 7 := by rw [hac]; exact ah.size
      have haco : Ones ac := by unfold Ones; rw [hac]; exact hd_one _
      have HAC := Lib.hid hac
      have HA1 : Hid (∀ w', Below wr.heap.size wr w' → Calls Tryd.prog 52 #[.iface 32 (.slice A6 m.length c6), .agg hc, .agg dc, .string r] w' fun e w'' => ∃ A9 c9, e = .returned (.tuple #[.agg ac, .slice A9 ws.length c9, .int .i64 at1, .int .i64 er]) ∧ RowA w'' A9 (wrCells ws) ∧ Below w'.heap.size w' w'') := by
        show ∀ _ _, _
        intro w' hb
        have := append_any A6 c6 m h d r w' (by have := HS.out.ms.1; dsimp only at this; omega) HS.out.ms.2 ((own_strsA HS.out.om).keep hb) (by omega)
        rw [← ha] at this
        rw [HHC.out, HDC.out, HAC.out]
        exact this
      have HGD : Hid (wr.heap[w.heap.size]? = some (.cells dc 23 (0, 0))) := by show _ = _; rw [HDC.out]; exact HS.out.hd
      have HGH : Hid (wr.heap[g8]? = some (.cells hc 30 (0, 0))) := by show _ = _; rw [HHC.out]; exact HS.out.hh
      have HCK : Hid (wr.cell? ⟨b, o + k, none⟩ = some (.string r) ∧ b < wr.heap.size) := ⟨hck, hb1⟩
      clear hr ha hac hc1 hhc
      have hi0 : (0 : Int) ≤ (k : Int) := by omega
      have hi1 : (k : Int) < (l.length : Int) := by omega
      go_upto_region 6 with fail
      have HKS : Hid (∀ w', Below wr.heap.size wr w' → Below wr.heap.size wr w' ∧ w'.heap[w.heap.size]? = some (.cells dc 23 (0, 0)) ∧ w'.heap[g8]? = some (.cells hc 30 (0, 0)) ∧ w'.cell? ⟨b, o + k, none⟩ = some (.string r)) := fun w' hb => ⟨hb, block_at hb HGD.out, block_at hb HGH.out, (hb.cell (p := ⟨b, o + k, none⟩) HCK.out.2).trans HCK.out.1⟩
      go_cut [13, 14, 15, 16] (fun v1 v2 v3 v4 wx => ∃ g A9 c9, v1 = .pointer (some ⟨g, 0, none⟩) ∧ v2 = .slice A9 ws.length c9 ∧ v3 = .int .i64 at1 ∧ v4 = .int .i64 er ∧ Laid wr wx g ac A9 ws)
      case first =>
        go_region_held_law (fun w' => Below wr.heap.size wr w' ∧ w'.heap[w.heap.size]? = some (.cells dc 23 (0, 0)) ∧ w'.heap[g8]? = some (.cells hc 30 (0, 0)) ∧ w'.cell? ⟨b, o + k, none⟩ = some (.string r))
          ((refine HKS.out _ ?_; first | with_reducible exact (Below.refl _ _).drew | with_reducible exact bstep (‹Below wr.heap.size wr _ ∧ _›).1 hb9 | with_reducible exact keep_alloc (‹Below wr.heap.size wr _ ∧ _›).1 _ | with_reducible exact keep_alloc_drew (‹Below wr.heap.size wr _ ∧ _›).1 _ | with_reducible exact keep_setRow (‹Below wr.heap.size wr _ ∧ _›).1 _ (by first | exact Nat.le_refl _ | (simp; done) | omega | (simp; omega)) _))
          (first | (go_at_call 52; with_reducible_and_instances refine (HA1.out _ (‹Below wr.heap.size wr _ ∧ _›).1).mono ?_; rintro e w9 ⟨A9, c9, rfl, hr9, hb9⟩; have hB9 := bstep (‹Below wr.heap.size wr _ ∧ _›).1 hb9; have hz9 : wr.heap.size ≤ w9.heap.size := hB9.size; first | (have hq9 : w9.heap[_]? = some (Obj.cells #[.int .i64 0, .int .i64 0, .int .i64 0, .int .i64 0, .int .i64 0, .int .i64 0, .int .i64 0] 30 (0, 0)) := block_at hb9 (heap_alloc_new _ (Obj.cells #[.int .i64 0, .int .i64 0, .int .i64 0, .int .i64 0, .int .i64 0, .int .i64 0, .int .i64 0] 30))) | skip))
        all_goals
          go_wp2
          go_meet
          refine ⟨_, _, _, rfl, rfl, rfl, rfl, ?_⟩
          first | exact Laid.behind hd0_nostr hr9 hB9 | exact Laid.ahead hq9 hd0_nostr hr9 hB9 (Nat.le_refl _)
      case rest =>
        obtain ⟨g9, A9, c9, rfl, rfl, rfl, rfl, hl9⟩ := hcut
        obtain ⟨wa, rfl⟩ : ∃ wa : World, wa = wc := ⟨_, rfl⟩
        have HL9 := Lib.hid hl9
        have HSa : Hid (BuS w wa g8 d Z ⟨h, m, prs, last⟩ (.slice A6 m.length c6) (.slice A7 prs.length c7)) := HS.out.keep hl9.bel
        have hcka : wa.cell? ⟨b, o + k, none⟩ = some (.string r) := (hl9.bel.cell (p := ⟨b, o + k, none⟩) hb1).trans hck
        have hlen : wa.cell? ⟨w.heap.size, 3, none⟩ = some (.int .i64 d.len) := (cell_of_row _ _ 3 _ _ _ HSa.out.hd).trans d.len_at
        have HB1A : Hid (b < wa.heap.size) := Nat.lt_of_lt_of_le hb1 hl9.bel.size
        clear hl9 hck hb1
        by_cases h1 : 1 ≤ r.size
        · by_cases h2 : (r.size : Int) ≤ d.len
          · obtain ⟨pg, he, hpz, hlt, hfin, hfl, hB'⟩ := HB.out.step HV.out HO.out (by omega) r h1 h2
            have hcn := HB.out.cl.cnt
            have hfn := HB.out.cl.fin
            have hpf := pages_few ps (fun i hi => (HB.out.cl.ok i hi).1)
            obtain ⟨n, hnn⟩ : ∃ n : Nat, n = (nextPs d.itv ps r).length := ⟨_, rfl⟩
            rw [← hnn] at he hfin
            dsimp only at he hlt hfin hcn hfn
            have e := HA.out
            rw [he] at e
            injection e with e1 e2 e3 e4
            subst e2 e4
            rw [← e3] at hlt
            have HAH := Lib.hid e1
            have HBN := Lib.hid hB'
            have HPZ := Lib.hid hpz
            have HAT : Hid (at1 ≤ 9223372036854775807 ∧ -9223372036854775808 ≤ at1) := by show _ ∧ _; rw [e3]; exact at_bound HB.out.cl HV.out (by omega) r
            have HST : Hid (stepB d ⟨h, m, prs, last⟩ r = ⟨ah, putOf m [((n : Int), pg)], prs ++ [(at1, r)], at1⟩) := by
              show _ = _
              unfold stepB
              rw [he, if_pos rfl, e1, e3]
            have hac1 : ac[1]? = some (.int .i64 (h.cnt + 1)) := by rw [HAC.out, e1]; rfl
            have hac2 : ac[2]? = some (.int .i64 (n : Int)) := by rw [HAC.out, e1]; rfl
            have q1 : wa.cell? ⟨g9, 1, none⟩ = some (.int .i64 (h.cnt + 1)) := (cell_of_row _ _ 1 _ _ _ HL9.out.row).trans hac1
            have q2 : wa.cell? ⟨g9, 2, none⟩ = some (.int .i64 (n : Int)) := (cell_of_row _ _ 2 _ _ _ HL9.out.row).trans hac2
            have q3 : wa.cell? ⟨g8, 1, none⟩ = some (.int .i64 h.cnt) := (cell_of_row _ _ 1 _ _ _ HSa.out.hh).trans h.cnt_at
            have q4 : wa.cell? ⟨g8, 2, none⟩ = some (.int .i64 h.fin) := (cell_of_row _ _ 2 _ _ _ HSa.out.hh).trans h.fin_at
            have hd1 : decide (1 ≤ (r.size : Int)) = true := decide_eq_true (by omega)
            have hd2 : decide ((r.size : Int) ≤ d.len) = true := decide_eq_true h2
            have hd3 : decide (at1 ≤ last) = false := decide_eq_false (by omega)
            have hd4 : decide ((n : Int) < h.fin) = false := decide_eq_false (by omega)
            have hd5 : ((h.cnt + 1) != (h.cnt + 1)) = false := by simp
            have hcb : 0 ≤ h.cnt ∧ h.cnt ≤ 9000 := by omega
            have HFL := Lib.hid hfl
            have HNN := Lib.hid hnn
            clear he e1 e3 hB' hpz hac1 hac2 hlt hfin hcn hfn hpf hfl hnn h1 h2
            go_upto_region 7 with fail
            go_quiet (fail)
            go_upto_region 12 with fail
            obtain ⟨wq, hwq⟩ : ∃ wq, wq = wa.drewN nq := ⟨_, rfl⟩
            rw [← hwq]
            have hbq : Below wa.heap.size wa wq := by rw [hwq]; exact below_drewN (Below.refl _ _) _
            have HSq := Lib.hid (HSa.out.keep hbq)
            have HLq := Lib.hid (HL9.out.keep hbq)
            have HPG : Hid (∀ q, (Value.slice A7 prs.length c7).ownBlock = some q → q ≠ g9) := fun q hq => by have := (World.ownsRow.lt HS.out.op q hq).2; have := HL9.out.le; omega
            clear hwq hbq q1 q2 q3 q4 hcka hlen hd1 hd2 hd3 hd4 hd5
            have HPUT : Hid (∀ w', Below wq.heap.size wq w' → Calls Tryd.prog 26 #[.slice A6 m.length c6, .slice A9 1 c9] w' fun e w'' => ∃ v, e = .returned v ∧ OwnS w'.heap.size w'' v (putOf m [((n : Int), pg)]) ∧ Below w'.heap.size w' w'') := fun w' hb => putM_any (.slice A6 m.length c6) m A9 c9 [((n : Int), pg)] w' HSq.out.ms.1 (fun w'' hb2 => cat_own (own_keep HSq.out.om (bstep hb hb2))) (by simp) (HLq.out.wr.keep hb)
            have HK12 : Hid (∀ w', Below w.heap.size w w' → w'.heap[g9]? = some (.cells ac 30 (0, 0)) → (Below w.heap.size w w' ∧ w'.heap[g9]? = some (.cells ac 30 (0, 0)) ∧ w'.cell? ⟨b, o + k, none⟩ = some (.string r))) := fun w' hb h2 => ⟨hb, h2, (hb.cell (p := ⟨b, o + k, none⟩) HRW.out.2).trans HRW.out.1⟩
            have HLN : Hid (prs.length + 1 ≤ maxLen ∧ (prs.length + 1) * 32 ≤ 140737488355328) := by
              have h1 := congrArg List.length HB.out.prs
              rw [addrs_length] at h1
              dsimp only at h1
              show _ ∧ _
              unfold maxLen
              omega
            have HDQ : Hid (wq.heap[w.heap.size]? = some (.cells d.cells 23 (0, 0)) ∧ wq.heap[w.heap.size + 1]? = some (.cells Z 30 (0, 0)) ∧ wq.heap[g8]? = some (.cells hc 30 (0, 0))) := ⟨HSq.out.hd, HSq.out.hz, by rw [HHC.out]; exact HSq.out.hh⟩
            have HLT : Hid (g8 < wq.heap.size ∧ w.heap.size + 1 < g8) := ⟨blk_lt HDQ.out.2.2, HSq.out.le⟩
            have HOP : Hid (∀ q, (Value.slice A7 prs.length c7).ownBlock = some q → w.heap.size + 1 + 1 ≤ q ∧ q < wq.heap.size) := fun q hq => World.ownsRow.lt HSq.out.op q hq
            go_region_held_law (fun w' => Below w.heap.size w w' ∧ w'.heap[g9]? = some (.cells ac 30 (0, 0)) ∧ w'.cell? ⟨b, o + k, none⟩ = some (.string r))
              (first | exact HK12.out _ HSq.out.bel.drew HLq.out.row | exact HK12.out _ HB66 HG66 | exact HK12.out _ (keep_alloc HB66 _) (alloc_at HG66) | exact HK12.out _ HB26 HG26 | exact HK12.out _ HB7 HG7 | exact HK12.out _ (below_setRow HB7 (by have := HLT.out; omega) _) (setRow_at HG7 (by have := HL9.out.le; have := blk_lt HGH.out; omega) _) | fail)
              (first
                | (go_at_call 26; refine (HPUT.out _ (Below.refl _ _).drew).mono ?_; rintro e w26 ⟨v26, rfl, hown26, hb26⟩; have HB26 := bstep HSq.out.bel.drew hb26; have HG26 := block_at hb26 HLq.out.row)
                | (go_at_call 66; refine (refSlot_any at1 _ HAT.out.1 HAT.out.2).mono ?_; rintro e w66 ⟨rfl, hb66⟩; have HB66 := bstep HB26 hb66; have HG66 := block_at hb66 HG26; have HQ66 := bstep (bstep (Below.refl _ wq).drew hb26) hb66)
                | (refine step_catG elemPair (by rfl) _ _ rfl (w.heap.size + 1 + 1) (.slice A7 prs.length c7) prs.length (prCells prs) rfl (World.ownsRow.alloc (own_keep HSq.out.op HQ66) _) (Nat.le_trans (by have := HLT.out; omega) (keep_alloc HQ66 _).size) (.slice (some ⟨w66.heap.size, 0, none⟩) 1 1) 1 [.string (keyOf at1), .string r] rfl (cat_block (cs := #[.string (keyOf at1), .string r]) (t := 48) (heap_alloc_new w66 _)) rfl (by simp [Value.oneCell']) HLN.out.1 HLN.out.2 ?_; intro v7 w7 hown7 hgr7 hat7; have HB7 := below_grown (keep_alloc HB66 _) hgr7 (own_mono (World.ownsRow.alloc (own_keep HSq.out.op HQ66) (.cells #[.string (keyOf at1), .string r] 48)) (by omega)); have HG7 := grown_at hgr7 (alloc_at HG66) (fun e => HPG.out _ e.symm rfl); have HH7 := grown_at hgr7 (alloc_at (block_at HQ66 HDQ.out.2.2)) (fun e => HSq.out.dp e.symm)))
            all_goals
              go_wp2
              refine ⟨⟨k + 1, nextPs d.itv ps r, by go_num, by omega, by rw [HTK.out]; exact HBN.out, by rw [HFL.out]; omega, by rw [HTK.out, HST.out], ?_⟩, by simp [intOf]; omega⟩
              rw [HTK.out, HST.out]
              have hl26 : ∀ q, v26.ownBlock = some q → wq.heap.size ≤ q ∧ q < w66.heap.size := fun q hq => World.ownsRow.lt (own_keep hown26 hb66) q hq
              have hat : ∀ q, v7.ownBlock = some q → (w.heap.size + 1 + 1 ≤ q ∧ q < wq.heap.size ∧ q ≠ g8) ∨ q = w66.heap.size + 1 := by
                intro q hq
                rcases hat7 with h7 | h7
                · rw [h7] at hq
                  exact .inl ⟨(HOP.out q hq).1, (HOP.out q hq).2, fun e => HSq.out.dp (by rw [← e]; exact hq)⟩
                · rw [h7] at hq
                  have := Option.some.inj hq
                  simp at this
                  exact .inr this.symm
              have hsz : wq.heap.size ≤ w66.heap.size := HQ66.size
              have h89 := HLT.out
              refine ⟨setRow_at (grown_at hgr7 (alloc_at (block_at HQ66 HDQ.out.1)) (fun e => by have := HOP.out _ e.symm; omega)) (by omega) _, setRow_at (grown_at hgr7 (alloc_at (block_at HQ66 HDQ.out.2.1)) (fun e => by have := HOP.out _ e.symm; omega)) (by omega) _, ?_, ?_, ?_, ?_, ?_, ?_, ?_, h89.2, below_setRow HB7 (by omega) _⟩
              · show _ = some (Obj.cells ah.cells 30 (0, 0))
                rw [← HAC.out]
                exact setRow_heap _ _ _ _ _ _ HH7
              · refine own_mono (own_setRow (B := wq.heap.size) (own_of_block (own_keep hown26 hb66) (fun q hq => ?_)) h89.1 _) (by omega)
                have := hl26 q hq
                exact (hgr7.block q (by simp; omega) (fun e => by have := HOP.out q e.symm; omega)).trans (Below.heap_alloc _ _ _ this.2)
              · rw [prCells_snoc, List.length_append, List.length_singleton]
                exact own_of_block hown7 (fun q hq => setRow_other _ _ _ _ (by rcases hat q hq with h | h <;> omega))
              · intro e
                have := hl26 _ e
                omega
              · intro e
                rcases hat _ e with h | h
                · exact h.2.2 rfl
                · omega
              · intro q hq e
                have := hl26 _ e
                rcases hat q hq with h | h <;> omega
              · exact ⟨putOf_le _ _ HSq.out.ms.1, putOf_small _ (fun x hx => by have : x = ((n : Int), pg) := by simpa using hx
                                                                                subst this
                                                                                have h1 := HPZ.out
                                                                                have h2 := (valid_itv HV.out).2.1
                                                                                dsimp only
                                                                                omega) _ HSq.out.ms.2⟩
          · have HRF := HB.out.refuse HV.out HO.out (by omega) r (by omega)
            have HST : Hid (stepB d ⟨h, m, prs, last⟩ r = ⟨h, m, prs, last⟩) := HRF.2
            obtain rfl : er = 2 := by have := HA.out; rw [HRF.1] at this; injection this
            have hd1 : decide (1 ≤ (r.size : Int)) = true := decide_eq_true (by omega)
            have hd2 : decide ((r.size : Int) ≤ d.len) = false := decide_eq_false h2
            clear h1 h2 HRF
            go_upto_region 7 with fail
            go_quiet (fail)
            go_wp2
            exact ⟨⟨k + 1, ps, by go_num, by omega, by rw [HTK.out, HST.out]; exact HB.out, by omega, by rw [HTK.out, HST.out], by rw [HTK.out, HST.out]; exact HSa.out.keep (below_drewN (Below.refl _ _) _)⟩, by simp [intOf]; omega⟩
        · have HRF := HB.out.refuse HV.out HO.out (by omega) r (by omega)
          have HST : Hid (stepB d ⟨h, m, prs, last⟩ r = ⟨h, m, prs, last⟩) := HRF.2
          obtain rfl : er = 2 := by have := HA.out; rw [HRF.1] at this; injection this
          have hd1 : decide (1 ≤ (r.size : Int)) = false := decide_eq_false (by omega)
          clear h1 HRF
          go_upto_region 7 with fail
          go_quiet (fail)
          go_wp2
          exact ⟨⟨k + 1, ps, by go_num, by omega, by rw [HTK.out, HST.out]; exact HB.out, by omega, by rw [HTK.out, HST.out], by rw [HTK.out, HST.out]; exact HSa.out.keep (below_drewN (Below.refl _ _) _)⟩, by simp [intOf]; omega⟩
    · have hkn : k = l.length := by omega
      have HBE : Hid (buildOf d l = ⟨h, m, prs, last⟩) := by show _ = _; rw [HSD.out, hkn, List.take_of_length_le (Nat.le_refl _)]
      obtain ⟨hc, hhc⟩ : ∃ hc, hc = h.cells := ⟨_, rfl⟩
      have hcz : hc.size = 7 := by rw [hhc]; exact h.size
      have hco : Ones hc := by unfold Ones; rw [hhc]; exact hd_one _
      have HHC := Lib.hid hhc
      have hgh : wr.heap[g8]? = some (.cells hc 30 (0, 0)) := by rw [hhc]; exact HS.out.hh
      have hgz := HS.out.hz
      have hzz := HZS.out
      clear hkn hhc
      go_wp2
      refine bodyPost_ret (v := .tuple #[.agg hc, .slice A6 m.length c6, .slice A7 prs.length c7, .bool true]) (results_cell4 (p := 4) (q := 5) (r := 6) (s := 7) rfl _ _ (w.heap.size + 1) 30 hc (0, 0) _ rfl (setRow_heap _ _ _ _ _ _ hgz) Tryd.underlying30 (by rw [hcz]; exact info30) _ _ _ rfl rfl rfl) rfl ?_
      rw [HBE.out, HHC.out]
      refine ⟨_, _, rfl, own_mono (own_setRow HS.out.om (by omega) _) (by omega), own_mono (own_setRow HS.out.op (by omega) _) (by omega), HS.out.dd, HS.out.ms, below_setRow HS.out.bel (by omega) _⟩
end Go.Proofs.YtnkhifgppcnmkaaDoor

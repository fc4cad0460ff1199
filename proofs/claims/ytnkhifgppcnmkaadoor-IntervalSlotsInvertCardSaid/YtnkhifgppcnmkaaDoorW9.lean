/- Walks: Decode's closure 'take'. -/
import Derived.Test.YtnkhifgppcnmkaaDoorW8
import Derived.Deep.RegionLaw
namespace Go.Proofs.YtnkhifgppcnmkaaDoor
open Go.RowKit Iv

/-- A slice of strings that the call owns. -/
def OwnS (B : Nat) (w : World) (v : Value) (l : List ByteArray) : Prop := w.ownsRow B 9 1 v l.length (l.map Value.string)

/-- Decode's boxes: where the records end (gA), the size (gS), the records (gO), the text (gD). -/
structure DS (w0 w : World) (gA gS gO gD : Nat) (size : Nat) (d : ByteArray) (v : Value) (l : List ByteArray) (a : Nat) : Prop where
  ca : w.heap[gA]? = some (.cells #[.int .i64 a] 3 (0, 0))
  cs : w.heap[gS]? = some (.cells #[.int .i64 size] 3 (0, 0))
  co : w.heap[gO]? = some (.cells #[v] 31 (0, 0))
  cd : w.heap[gD]? = some (.cells #[.string d] 9 (0, 0))
  own : OwnS w0.heap.size w v l
  nA : v.ownBlock ≠ some gA
  nS : v.ownBlock ≠ some gS
  nO : v.ownBlock ≠ some gO
  nD : v.ownBlock ≠ some gD
  lA : w0.heap.size ≤ gA
  lO : w0.heap.size ≤ gO
  nAS : gA ≠ gS
  nAO : gA ≠ gO
  nAD : gA ≠ gD
  nOS : gO ≠ gS
  nOD : gO ≠ gD
  bel : Below w0.heap.size w0 w

set_option maxRecDepth 100000 in
theorem info9 : ∃ i, Tryd.prog.info? 9 = some i ∧ i.zero = some (.string ByteArray.empty) ∧ i.size = 1 ∧ i.bytes = 16 := by
  refine ⟨_, rfl, ?_, ?_, ?_⟩ <;> kernel_rfl

section
variable {w0 w : World} {gA gS gO gD size a : Nat} {d : ByteArray} {v : Value} {l : List ByteArray}
theorem DS.drew (h : DS w0 w gA gS gO gD size d v l a) : DS w0 w.drew gA gS gO gD size d v l a :=
  ⟨h.ca, h.cs, h.co, h.cd, h.own, h.nA, h.nS, h.nO, h.nD, h.lA, h.lO, h.nAS, h.nAO, h.nAD, h.nOS, h.nOD, h.bel.drew⟩

theorem DS.keep (h : DS w0 w gA gS gO gD size d v l a) {w' : World} (hb : Below w.heap.size w w') : DS w0 w' gA gS gO gD size d v l a := by
  have hk : ∀ {g : Nat} {o : Obj}, w.heap[g]? = some o → w'.heap[g]? = some o := fun hg => (hb.block _ (blk_lt hg)).trans hg
  refine ⟨hk h.ca, hk h.cs, hk h.co, hk h.cd, ?_, h.nA, h.nS, h.nO, h.nD, h.lA, h.lO, h.nAS, h.nAO, h.nAD, h.nOS, h.nOD, bstep h.bel hb⟩
  refine World.ownsRow.kept h.own (row := none) ⟨hb.os, hb.tape, hb.output, hb.size, fun k hk _ => hb.block k hk⟩ ?_
  cases v.ownBlock <;> simp

theorem own_list (l : List ByteArray) (x : ByteArray) : l.map Value.string ++ [Value.string x] = (l ++ [x]).map Value.string := by simp

/-- Behind an append: the new slice is stored into its box. -/
theorem DS.appended (h : DS w0 w gA gS gO gD size d v l a) {w1 : World} {g cap : Nat} {x : ByteArray}
    (hown : w1.ownsRow w0.heap.size 9 1 (.slice (some ⟨g, 0, none⟩) (l.length + 1) cap) (l.length + 1) (l.map Value.string ++ [Value.string x]))
    (hgrow : w.grownBy w1 v.ownBlock) (hat : v.ownBlock = some g ∨ g = w.heap.size) :
    DS w0 (w1.setCell ⟨gO, 0, none⟩ (.slice (some ⟨g, 0, none⟩) (l.length + 1) cap)) gA gS gO gD size d (.slice (some ⟨g, 0, none⟩) (l.length + 1) cap) (l ++ [x]) a := by
  have far : ∀ {k : Nat} {o : Obj}, w.heap[k]? = some o → v.ownBlock ≠ some k → w1.heap[k]? = some o ∧ g ≠ k := fun hk hne => by
    refine ⟨(hgrow.block _ (blk_lt hk) (Ne.symm hne)).trans hk, ?_⟩
    rintro rfl
    rcases hat with h1 | h1
    · exact hne h1
    · have := blk_lt hk; omega
  obtain ⟨hA, nA⟩ := far h.ca h.nA
  obtain ⟨hS, nS⟩ := far h.cs h.nS
  obtain ⟨hO, nO⟩ := far h.co h.nO
  obtain ⟨hD, nD⟩ := far h.cd h.nD
  have hb1 : Below w0.heap.size w0 w1 := ⟨hgrow.os.trans h.bel.os, hgrow.tape.trans h.bel.tape, hgrow.output.trans h.bel.output, Nat.le_trans h.bel.size hgrow.size, fun k hk => by
    refine (hgrow.block k (Nat.lt_of_lt_of_le hk h.bel.size) ?_).trans (h.bel.block k hk)
    intro hv
    have := (World.ownsRow.lt h.own k hv.symm).1
    omega⟩
  refine ⟨?_, ?_, ?_, ?_, ?_, ?_, ?_, ?_, ?_, h.lA, h.lO, h.nAS, h.nAO, h.nAD, h.nOS, h.nOD, ?_⟩
  · rw [heap_setCell_other _ _ _ _ h.nAO]; exact hA
  · rw [heap_setCell_other _ _ _ _ (Ne.symm h.nOS)]; exact hS
  · rw [heap_setCell_same _ _ _ _ _ _ hO]; rfl
  · rw [heap_setCell_other _ _ _ _ (Ne.symm h.nOD)]; exact hD
  · have hg : w1.grownBy (w1.setCell ⟨gO, 0, none⟩ (.slice (some ⟨g, 0, none⟩) (l.length + 1) cap)) (some gO) :=
      ⟨rfl, rfl, rfl, by simp [World.setCell], fun k _ hn => Below.heap_setCell _ _ _ _ (fun e => hn (by rw [e]))⟩
    have := World.ownsRow.kept hown hg (.inr (by simpa [Value.ownBlock] using nO))
    rw [own_list] at this
    unfold OwnS
    rw [List.length_append]
    exact this
  · simpa [Value.ownBlock] using nA
  · simpa [Value.ownBlock] using nS
  · simpa [Value.ownBlock] using nO
  · simpa [Value.ownBlock] using nD
  · exact hb1.setCell h.lO _

/-- Where the records end is stored. -/
theorem DS.setA (h : DS w0 w gA gS gO gD size d v l a) (b : Nat) (z : Int) (hz : z = b) : DS w0 (w.setCell ⟨gA, 0, none⟩ (.int .i64 z)) gA gS gO gD size d v l b := by
  subst hz
  refine ⟨?_, ?_, ?_, ?_, ?_, h.nA, h.nS, h.nO, h.nD, h.lA, h.lO, h.nAS, h.nAO, h.nAD, h.nOS, h.nOD, h.bel.setCell h.lA _⟩
  · rw [heap_setCell_same _ _ _ _ _ _ h.ca]; rfl
  · rw [heap_setCell_other _ _ _ _ (Ne.symm h.nAS)]; exact h.cs
  · rw [heap_setCell_other _ _ _ _ (Ne.symm h.nAO)]; exact h.co
  · rw [heap_setCell_other _ _ _ _ (Ne.symm h.nAD)]; exact h.cd
  · have hg : w.grownBy (w.setCell ⟨gA, 0, none⟩ (.int .i64 b)) (some gA) :=
      ⟨rfl, rfl, rfl, by simp [World.setCell], fun k _ hn => Below.heap_setCell _ _ _ _ (fun e => hn (by rw [e]))⟩
    exact World.ownsRow.kept h.own hg (.inr h.nA)
end

set_option maxHeartbeats 3200000 in
set_option maxRecDepth 100000 in
theorem take_any (w0 w : World) (gA gS gO gD size : Nat) (d : ByteArray) (v : Value) (l : List ByteArray) (a n m : Nat) (h : DS w0 w gA gS gO gD size d v l a) (hd : d.size = size) (hs : size ≤ 512) (ha : a ≤ size) (hla : l.length ≤ a) (hn : n < 65536) (hm : m < 65536) :
    Calls Tryd.prog 84 #[.int .i64 n, .int .i64 m, .pointer (some ⟨gA, 0, none⟩), .pointer (some ⟨gS, 0, none⟩), .pointer (some ⟨gO, 0, none⟩), .pointer (some ⟨gD, 0, none⟩)] w fun e w' =>
      match takeN size d m n l a with
      | none => e = .returned (.bool false) ∧ Below w0.heap.size w0 w'
      | some (l', a') => e = .returned (.bool true) ∧ l'.length ≤ a' ∧ a' ≤ size ∧ ∃ v', DS w0 w' gA gS gO gD size d v' l' a' := by
  obtain ⟨R, hR⟩ : ∃ R, R = takeN size d m n l a := ⟨_, rfl⟩
  rw [← hR]
  go_enter Tryd.func84, Tryd.ntmps84
  go_wp2
  go_loopw [10] (fun x wr => ∃ (k a' : Nat) (l' : List ByteArray) (v' : Value), k ≤ n ∧ x = .int .i64 k ∧ R = takeN size d m (n - k) l' a' ∧ l'.length ≤ a' ∧ a' ≤ size ∧ DS w0 wr gA gS gO gD size d v' l' a') (fun x _ => n - (intOf x).toNat)
  case atStart => exact ⟨0, a, l, v, by omega, rfl, hR, hla, ha, h⟩
  case round =>
    obtain ⟨k, a', l', v', hk, rfl, hr, hla', ha', hds⟩ := hrel
    clear h hR
    by_cases hlt : k < n
    · have hstep : takeN size d m (n - k) l' a' = if m < 1 ∨ size < a' + m then none else takeN size d m (n - (k + 1)) (l' ++ [d.extract a' (a' + m)]) (a' + m) := by
        rw [show n - k = (n - (k + 1)) + 1 by omega, takeN]
      rw [hstep] at hr
      clear hstep
      have hca := cell_of_row _ _ 0 _ _ _ hds.ca
      have hcs := cell_of_row _ _ 0 _ _ _ hds.cs
      have hco := cell_of_row _ _ 0 _ _ _ hds.co
      have hcd := cell_of_row _ _ 0 _ _ _ hds.cd
      have HDS := Lib.hid hds
      clear hds
      by_cases hm1 : m < 1
      · rw [if_pos (.inl hm1)] at hr
        subst hr
        have hm0 : (m : Int) < 1 := by omega
        go_wp2
        go_ret
        exact ⟨rfl, HDS.out.bel⟩
      · by_cases hsz : size < a' + m
        · rw [if_pos (.inr hsz)] at hr
          subst hr
          go_wp2
          go_ret
          exact ⟨rfl, HDS.out.bel⟩
        · rw [if_neg (by omega)] at hr
          have HR := Lib.hid hr
          clear hr
          have hfa := frozen_of_row _ _ 0 _ _ HDS.out.ca
          have hfo := frozen_of_row _ _ 0 _ _ HDS.out.co
          have q1 : (a' : Int) ≤ (a' : Int) + (m : Int) := by omega
          have q2 : (a' : Int) + (m : Int) ≤ (d.size : Int) := by omega
          have q3 : IntKind.i64.wrap ((a' : Int) + (m : Int)) = (a' : Int) + (m : Int) := by rw [IntWalk.i64_in _ (by omega)]
          have q4 : ((a' : Int) + (m : Int)).toNat = a' + m := by omega
          have HAS := Lib.hid ha'
          have HD := Lib.hid hd
          clear hd ha'
          go_wp2
          obtain ⟨i9, hi9, hz9, hs9, hb9⟩ := info9
          have HI := Lib.hid hi9
          have HZ := Lib.hid hz9
          have HS9 := Lib.hid hs9
          have HB9 := Lib.hid hb9
          clear hi9 hz9 hs9 hb9
          have HLE : Hid (l'.length ≤ 512) := by show _ ≤ _; have := HAS.out; omega
          have HD1 : Hid (∀ o, DS w0 (wr.alloc o) gA gS gO gD size d v' l' a') := fun o => HDS.out.keep (Below.alloc (Below.refl _ _) (Nat.le_refl _) o)
          have hcoX : (wr.alloc (.cells #[.string (d.extract a' (a' + m))] 9)).cell? ⟨gO, 0, none⟩ = some v' := cell_of_row _ _ 0 _ _ _ (HD1.out (.cells #[.string (d.extract a' (a' + m))] 9)).co
          go_region_law
            (first
            | (refine step_append_lies _ rfl _ _ _ rfl w0.heap.size 9 i9 _ 1 16 Tryd.underlying31 HI.out HZ.out HS9.out HB9.out rfl (by decide) v' l'.length (l'.map Value.string) rfl (HD1.out _).own ⟨wr.heap.size, 0, none⟩ 1 1 [.string (d.extract a' (a' + m))] rfl rfl (cell_one_new wr _ 9) (by simp [Value.oneCell']) (by decide) (by have := HLE.out; unfold maxLen; omega) (by have := HLE.out; omega) (HD1.out (.cells #[.string (d.extract a' (a' + m))] 9)).bel.size _ rfl ?_
               intro g cap w1 hown hgrow hat hlt
               have hA1 := (hgrow.cell_far ⟨gA, 0, none⟩ (blk_lt (HD1.out _).ca) (Ne.symm (HD1.out (.cells #[.string (d.extract a' (a' + m))] 9)).nA)).trans (cell_of_row _ _ 0 _ _ _ (HD1.out (.cells #[.string (d.extract a' (a' + m))] 9)).ca)
               have hO1 := (hgrow.cell_far ⟨gO, 0, none⟩ (blk_lt (HD1.out _).co) (Ne.symm (HD1.out (.cells #[.string (d.extract a' (a' + m))] 9)).nO)).trans (cell_of_row _ _ 0 _ _ _ (HD1.out (.cells #[.string (d.extract a' (a' + m))] 9)).co)
               have hD1 := (hgrow.cell_far ⟨gD, 0, none⟩ (blk_lt (HD1.out _).cd) (Ne.symm (HD1.out (.cells #[.string (d.extract a' (a' + m))] 9)).nD)).trans (cell_of_row _ _ 0 _ _ _ (HD1.out (.cells #[.string (d.extract a' (a' + m))] 9)).cd)
               have hF1 := (hgrow.frozen_far ⟨gO, 0, none⟩ (blk_lt (HD1.out _).co) (Ne.symm (HD1.out (.cells #[.string (d.extract a' (a' + m))] 9)).nO)).trans (frozen_of_row _ _ 0 _ _ (HD1.out (.cells #[.string (d.extract a' (a' + m))] 9)).co)))
          all_goals
            have HDS2 := Lib.hid (DS.appended (HD1.out (.cells #[.string (d.extract a' (a' + m))] 9)).drew hown hgrow hat)
            clear hA1 hO1 hD1 hF1 hown hgrow hat hlt hca hcs hco hcd hcoX hfa hfo q2 q4
            obtain ⟨w2, hw2⟩ : ∃ w2, w2 = w1.setCell ⟨gO, 0, none⟩ (.slice (some ⟨g, 0, none⟩) (l'.length + 1) cap) := ⟨_, rfl⟩
            rw [← hw2] at HDS2 ⊢
            clear hw2
            have hca2 := cell_of_row _ _ 0 _ _ _ HDS2.out.ca
            have hfa2 := frozen_of_row _ _ 0 _ _ HDS2.out.ca
            go_wp2
            exact ⟨⟨k + 1, a' + m, l' ++ [d.extract a' (a' + m)], _, by omega, by go_num, HR.out, by rw [List.length_append, List.length_singleton]; omega, by omega, HDS2.out.setA (a' + m) _ (by omega)⟩, by simp [intOf]; omega⟩
    · have hkn : k = n := by omega
      rw [hkn, Nat.sub_self, takeN] at hr
      subst hr
      have HDS := Lib.hid hds
      have HL := Lib.hid hla'
      have HA := Lib.hid ha'
      clear hds hla' ha'
      go_wp2
      go_ret
      exact ⟨rfl, HL.out, HA.out, v', HDS.out⟩
end Go.Proofs.YtnkhifgppcnmkaaDoor

/- What the cards share: the witness; the arguments opened. -/
import Derived.Test.YtnkhifgppcnmkaaDoorRows
import Derived.Test.YtnkhifgppcnmkaaDoorA2
import Derived.Test.YtnkhifgppcnmkaaDoorB4
import Derived.Test.YtnkhifgppcnmkaaDoorC1
import Derived.ProofKit
import Derived.LaidMore
import Derived.OpenShut
import Derived.Stop.Joined
import Derived.Deep.DeepHandedRow
import Derived.SliceStrings
import Derived.DataReads
import Derived.Deep.Slices
import Derived.ChangeArms

/- What all cards of this seat share: a world for the witness that holds the two tables. -/
namespace Go.Proofs.YtnkhifgppcnmkaaDoor
open Go.ChangeShapes Go.WideShapes Go.ChangeAt Go.RowKit

theorem own : ownKnob Tryd.prog.godebug = none := by kernel_rfl
theorem laidOut : laidOutB Tryd.prog = true := by kernel_rfl

def firstCells : Array Value := (Go.Pinned.utf8FirstZ.map fun (n : Nat) => Value.int .u8 (Int.ofNat n)).toArray
def rangeCells : Array Value := (([128, 191, 160, 191, 128, 159, 144, 191, 128, 143] ++ List.replicate 22 0).map fun n : Nat => Value.int .u8 (n : Int)).toArray

def putCells (cs : Array Value) (o : Obj) : Obj := match o with
  | .cells _ t frozen => .cells cs t frozen
  | o => o

/-- The settled world, the two tables' blocks holding what their initialisers lay. -/
noncomputable def laidWorld (os : Os) : World :=
  { World.holding Tryd.prog os ⟨#[], #[], []⟩ with heap := ((World.holding Tryd.prog os ⟨#[], #[], []⟩).heap.modify 0 (putCells firstCells)).modify 1 (putCells rangeCells) }

abbrev bothLaid : List (String × DataW Unit) := [("unicode/utf8.acceptRanges", Rows.laid_unicode_utf8_acceptRanges), ("unicode/utf8.first", Rows.laid_unicode_utf8_first)]

theorem laid_met (os : Os) (args : Array Value) : laidMet Tryd.prog bothLaid ((laidWorld os).forCall (fun _ _ => 0) ⟨#[], args, []⟩).memory :=
  laidMet_of_run' 8 (by kernel_rfl) (by kernel_rfl)
theorem held_vars (os : Os) (args : Array Value) : ((laidWorld os).forCall (fun _ _ => 0) ⟨#[], args, []⟩).variablesB Tryd.prog = true := by kernel_rfl
theorem held_rest (os : Os) (args : Array Value) : (((laidWorld os).forCall (fun _ _ => 0) ⟨#[], args, []⟩).heap.toList.drop Tryd.checked.prog.globals.size).take ((begin Tryd.checked.prog (fun _ _ => 0) default).world.heap.size - Tryd.checked.prog.globals.size) =
      (begin Tryd.checked.prog (fun _ _ => 0) default).world.heap.toList.drop Tryd.checked.prog.globals.size := by kernel_rfl
end Go.Proofs.YtnkhifgppcnmkaaDoor

/- The arguments of the laws, opened: a slice of strings. -/
namespace Go.Proofs.YtnkhifgppcnmkaaDoor
open Go.ChangeShapes Go.WideShapes Go.ChangeAt Go.RowKit

theorem cells9 : Tryd.prog.cellsOf 9 = 1 := by kernel_rfl

theorem lt_of_cell {W : World} {a : Addr} {v : Value} (h : W.cell? a = some v) : a.block < W.heap.size := by
  unfold World.cell? at h
  rcases Nat.lt_or_ge a.block W.heap.size with hlt | hge
  · exact hlt
  · rw [Array.getElem?_eq_none hge] at h; cases h

set_option maxRecDepth 100000 in
theorem strs_arg {H : Type} {enc : TypeId × Value → H} {W : World} {v : Value} {d : DataW H} {p : List MemPlace} {base : Nat} (hv : Value.okWide Tryd.prog W .any base 31 v) (h : DataW.Trod enc Tryd.prog W 0 (fun _ => true) true 31 v d p) :
    ∃ A c l, v = .slice A l.length c ∧ StrsA W A l ∧ l.length ≤ c ∧ l.length ≤ 9223372036854775807 := by
  obtain ⟨a0, len0, cap0, rfl⟩ := okWide_slice Tryd.underlying31 hv
  obtain ⟨fuel, hf⟩ := h
  rcases open_strings Tryd.underlying31 Tryd.underlying9 cells9 hf with ⟨hcs, hx⟩ | ⟨a, len, cap, ss, hcs, hb, hl, hm, hz, hx, hcell, hsz⟩
  · obtain ⟨rfl, rfl, rfl⟩ : a0 = none ∧ len0 = 0 ∧ cap0 = 0 := by simpa [Value.cells] using hcs
    exact ⟨none, 0, [], rfl, fun h => by simp at h, by simp, by simp⟩
  · obtain ⟨rfl, rfl, rfl⟩ : a0 = some a ∧ len0 = len ∧ cap0 = cap := by simpa [Value.cells] using hcs
    rw [if_pos rfl] at hz
    have hm63 : len0 ≤ 9223372036854775807 := Nat.le_trans (Nat.le_trans hl hm) (by decide)
    have hlen : (ss.take len0).length = len0 := by rw [List.length_take]; omega
    refine ⟨some a, cap0, ss.take len0, by rw [hlen], fun h0 => ?_, by rw [hlen]; exact hl, by rw [hlen]; exact hm63⟩
    rw [hlen] at h0
    have h1 := hcell 0 (by omega)
    have hsp : a.spot = none := World.cell?_spot (show W.cell? a = _ from h1)
    have hlt : a.block < W.heap.size := lt_of_cell (show W.cell? a = _ from h1)
    obtain ⟨b, off, spot⟩ := a
    subst hsp
    refine ⟨b, off, rfl, hlt, fun i hi => ?_⟩
    rw [hlen] at hi
    have h2 := hcell i (by omega)
    have hadd : (⟨b, off, none⟩ : Addr).add i = ⟨b, off + i, none⟩ := by
      unfold Addr.add
      split
      · rename_i h; subst h; rfl
      · rfl
    rw [hadd] at h2
    rw [h2]
    simp [List.getD, hi]
end Go.Proofs.YtnkhifgppcnmkaaDoor

/- The arguments of the laws, opened: a slice of slots. -/
namespace Go.Proofs.YtnkhifgppcnmkaaDoor
open Go.ChangeShapes Go.WideShapes Go.ChangeAt Go.RowKit Go.Deep Iv

theorem cells68 : Tryd.prog.cellsOf 68 = 2 := by kernel_rfl
theorem cells4 : Tryd.prog.cellsOf 4 = 1 := by kernel_rfl

theorem two_of {α : Type} {l : List α} (h : l.length = 2) : ∃ a b, l = [a, b] := by
  rcases l with _ | ⟨a, _ | ⟨b, _ | ⟨c, l⟩⟩⟩
  · simp at h
  · simp at h
  · exact ⟨a, b, rfl⟩
  · simp at h

/-- A slot's two cells, out of its reading. -/
theorem slot_cells {H : Type} {enc : TypeId × Value → H} {W : World} {base n : Nat} {spare : Nat → Bool} {held : Bool} {cs : List Value} {x : DataW H × List MemPlace}
    (h : DataW.trod enc Tryd.prog W base spare held n 68 cs = some x) (hl : cs.length = 2) : ∃ (u : Bool) (r : ByteArray), cs = [.bool u, .string r] ∧ r.size ≤ maxLen := by
  obtain ⟨xs, m, _, _, _, hlen, hf⟩ := DataW.trod_struct Tryd.underlying68 h
  have h0 : DataW.trod enc Tryd.prog W base spare held m 4 ((cs.drop 0).take (Tryd.prog.cellsOf 4)) = xs[0]? := hf 0 _ rfl
  have h1 : DataW.trod enc Tryd.prog W base spare held m 9 ((cs.drop 1).take (Tryd.prog.cellsOf 9)) = xs[1]? := hf 1 _ rfl
  have hx : xs.length = 2 := hlen
  obtain ⟨c0, c1, rfl⟩ := two_of hl
  rw [cells4] at h0
  rw [cells9] at h1
  rw [List.getElem?_eq_getElem (by omega)] at h0 h1
  obtain ⟨u, hu, _⟩ := DataW.trod_bool Tryd.underlying4 h0
  obtain ⟨r, hr, _, hrs⟩ := DataW.trod_string Tryd.underlying9 h1
  refine ⟨u, r, ?_, hrs⟩
  simp at hu hr
  rw [hu, hr]

set_option maxRecDepth 100000 in
theorem slots_arg {H : Type} {enc : TypeId × Value → H} {W : World} {v : Value} {d : DataW H} {p : List MemPlace} {base : Nat} (hv : Value.okWide Tryd.prog W .any base 66 v) (h : DataW.Trod enc Tryd.prog W 0 (fun _ => true) true 66 v d p) :
    ∃ A c l, v = .slice A l.length c ∧ RowA W A (sltCells l) ∧ l.length ≤ c ∧ l.length ≤ 9223372036854775807 := by
  obtain ⟨a0, len0, cap0, rfl⟩ := okWide_slice Tryd.underlying66 hv
  obtain ⟨fuel, hf⟩ := h
  rcases open_slice Tryd.underlying66 hf with ⟨hcs, hx⟩ | ⟨a, len, cap, m, n, D, Pl, hcs, hb, hl, hm, hmm, hx, hi⟩
  · obtain ⟨rfl, rfl, rfl⟩ : a0 = none ∧ len0 = 0 ∧ cap0 = 0 := by simpa [Value.cells] using hcs
    exact ⟨none, 0, [], rfl, fun h => by simp [sltCells] at h, by simp, by simp⟩
  · obtain ⟨rfl, rfl, rfl⟩ : a0 = some a ∧ len0 = len ∧ cap0 = cap := by simpa [Value.cells] using hcs
    rw [if_pos rfl] at hmm
    rw [cells68] at hi
    have hm63 : len0 ≤ 9223372036854775807 := Nat.le_trans (Nat.le_trans hl hm) (by decide)
    have key : ∀ i, ∃ x : Slt, i < m → W.cell? (a.add (i * 2)) = some (.bool x.1) ∧ W.cell? ((a.add (i * 2)).add 1) = some (.string x.2) := by
      intro i
      by_cases him : i < m
      · obtain ⟨cs', hc, ht⟩ := hi i him
        obtain ⟨_, hcl, hat⟩ := World.cells?_some hc
        obtain ⟨u, r, rfl, _⟩ := slot_cells ht hcl
        refine ⟨(u, r), fun _ => ⟨?_, ?_⟩⟩
        · have := hat 0 (by omega)
          rwa [Addr.add_zero'] at this
        · exact hat 1 (by omega)
      · exact ⟨noSlt, fun h => absurd h him⟩
    let f : Nat → Slt := fun i => Classical.choose (key i)
    have hfk : ∀ i, i < m → W.cell? (a.add (i * 2)) = some (.bool (f i).1) ∧ W.cell? ((a.add (i * 2)).add 1) = some (.string (f i).2) := fun i him => Classical.choose_spec (key i) him
    clear_value f
    have hll : ((List.range len0).map f).length = len0 := by simp
    refine ⟨some a, cap0, (List.range len0).map f, by rw [hll], fun h0 => ?_, by rw [hll]; exact hl, by rw [hll]; exact hm63⟩
    rw [sltCells_length, hll] at h0
    have h1 := (hfk 0 (by omega)).1
    rw [Nat.zero_mul, Addr.add_zero'] at h1
    have hsp : a.spot = none := World.cell?_spot h1
    have hlt : a.block < W.heap.size := lt_of_cell h1
    obtain ⟨b, off, spot⟩ := a
    subst hsp
    have hadd : ∀ o i, (⟨b, o, none⟩ : Addr).add i = ⟨b, o + i, none⟩ := by
      intro o i
      unfold Addr.add
      split
      · rename_i h; subst h; rfl
      · rfl
    refine ⟨b, off, rfl, hlt, fun i hi' => ?_⟩
    rw [sltCells_length, hll] at hi'
    have hg := sltCells_get ((List.range len0).map f) (i / 2) (by rw [hll]; omega)
    have hfi : sltAt ((List.range len0).map f) (i / 2) = f (i / 2) := by
      have : i / 2 < len0 := by omega
      simp [sltAt, List.getD, this]
    rw [hfi] at hg
    have h2 := hfk (i / 2) (by omega)
    rw [hadd, hadd] at h2
    rcases Nat.mod_two_eq_zero_or_one i with h | h
    · conv => lhs; rw [show i = i / 2 * 2 by omega]
      conv => rhs; rw [show i = 2 * (i / 2) by omega]
      rw [h2.1, hg.1]
    · conv => lhs; rw [show i = i / 2 * 2 + 1 by omega]
      conv => rhs; rw [show i = 2 * (i / 2) + 1 by omega]
      rw [← Nat.add_assoc, h2.2, hg.2]
end Go.Proofs.YtnkhifgppcnmkaaDoor

/- The arguments of the laws, opened: descriptions, headers. -/
namespace Go.Proofs.YtnkhifgppcnmkaaDoor
open Go.ChangeShapes Go.WideShapes Go.ChangeAt Go.RowKit Iv

theorem cells3 : Tryd.prog.cellsOf 3 = 1 := by kernel_rfl
theorem take_one {α : Type} {L : List α} {i : Nat} {v : α} (h : (L.drop i).take 1 = [v]) : L[i]? = some v := by
  have := congrArg (fun l => l[0]?) h
  simpa [List.getElem?_take, List.getElem?_drop] using this
theorem arr_ext {α : Type} {n : Nat} {a b : Array α} (ha : a.size = n) (hb : b.size = n) (h : ∀ i, i < n → a.toList[i]? = b.toList[i]?) : a = b := by
  apply Array.ext (by omega)
  intro i h1 h2
  have := h i (by omega)
  rw [List.getElem?_eq_getElem (by simpa using h1), List.getElem?_eq_getElem (by simpa using h2)] at this
  simpa using this

section
variable {H : Type} {enc : TypeId × Value → H} {W : World} {base n : Nat} {spare : Nat → Bool} {held : Bool} {cs : List Value} {xs : List (DataW H × List MemPlace)} {i : Nat}
theorem cell_i (h : DataW.trod enc Tryd.prog W base spare held n 3 ((cs.drop i).take (Tryd.prog.cellsOf 3)) = xs[i]?) (hi : i < xs.length) : ∃ k : Int, cs[i]? = some (.int .i64 k) := by
  rw [cells3, List.getElem?_eq_getElem hi] at h
  obtain ⟨k, hk, _⟩ := DataW.trod_int Tryd.underlying3 h
  exact ⟨k, take_one hk⟩
theorem cell_b (h : DataW.trod enc Tryd.prog W base spare held n 4 ((cs.drop i).take (Tryd.prog.cellsOf 4)) = xs[i]?) (hi : i < xs.length) : ∃ k : Bool, cs[i]? = some (.bool k) := by
  rw [cells4, List.getElem?_eq_getElem hi] at h
  obtain ⟨k, hk, _⟩ := DataW.trod_bool Tryd.underlying4 h
  exact ⟨k, take_one hk⟩
theorem cell_s (h : DataW.trod enc Tryd.prog W base spare held n 9 ((cs.drop i).take (Tryd.prog.cellsOf 9)) = xs[i]?) (hi : i < xs.length) : ∃ k : ByteArray, cs[i]? = some (.string k) := by
  rw [cells9, List.getElem?_eq_getElem hi] at h
  obtain ⟨k, hk, _⟩ := DataW.trod_string Tryd.underlying9 h
  exact ⟨k, take_one hk⟩
end

set_option maxRecDepth 100000 in
theorem ds_arg {H : Type} {enc : TypeId × Value → H} {W : World} {v : Value} {d : DataW H} {p : List MemPlace} {base : Nat} (hv : Value.okWide Tryd.prog W .any base 23 v) (h : DataW.Trod enc Tryd.prog W 0 (fun _ => true) true 23 v d p) :
    ∃ x : Ds, v = .agg x.cells := by
  obtain ⟨cs, rfl, hsz⟩ := okWide_struct Tryd.underlying23 hv
  obtain ⟨fuel, hf⟩ := h
  obtain ⟨xs, m, _, _, hcl, hlen, hpart⟩ := DataW.trod_struct Tryd.underlying23 hf
  have hx : xs.length = 21 := hlen
  have hc : cs.size = 21 := by rw [hsz]; kernel_rfl
  obtain ⟨a0, h0⟩ := cell_i (i := 0) (hpart 0 _ rfl) (by omega)
  obtain ⟨a1, h1⟩ := cell_i (i := 1) (hpart 1 _ rfl) (by omega)
  obtain ⟨a2, h2⟩ := cell_i (i := 2) (hpart 2 _ rfl) (by omega)
  obtain ⟨a3, h3⟩ := cell_i (i := 3) (hpart 3 _ rfl) (by omega)
  obtain ⟨a4, h4⟩ := cell_i (i := 4) (hpart 4 _ rfl) (by omega)
  obtain ⟨a5, h5⟩ := cell_i (i := 5) (hpart 5 _ rfl) (by omega)
  obtain ⟨a6, h6⟩ := cell_i (i := 6) (hpart 6 _ rfl) (by omega)
  obtain ⟨a7, h7⟩ := cell_i (i := 7) (hpart 7 _ rfl) (by omega)
  obtain ⟨a8, h8⟩ := cell_i (i := 8) (hpart 8 _ rfl) (by omega)
  obtain ⟨a9, h9⟩ := cell_i (i := 9) (hpart 9 _ rfl) (by omega)
  obtain ⟨a10, h10⟩ := cell_i (i := 10) (hpart 10 _ rfl) (by omega)
  obtain ⟨a11, h11⟩ := cell_i (i := 11) (hpart 11 _ rfl) (by omega)
  obtain ⟨a12, h12⟩ := cell_i (i := 12) (hpart 12 _ rfl) (by omega)
  obtain ⟨a13, h13⟩ := cell_i (i := 13) (hpart 13 _ rfl) (by omega)
  obtain ⟨a14, h14⟩ := cell_b (i := 14) (hpart 14 _ rfl) (by omega)
  obtain ⟨a15, h15⟩ := cell_i (i := 15) (hpart 15 _ rfl) (by omega)
  obtain ⟨a16, h16⟩ := cell_s (i := 16) (hpart 16 _ rfl) (by omega)
  obtain ⟨a17, h17⟩ := cell_s (i := 17) (hpart 17 _ rfl) (by omega)
  obtain ⟨a18, h18⟩ := cell_i (i := 18) (hpart 18 _ rfl) (by omega)
  obtain ⟨a19, h19⟩ := cell_i (i := 19) (hpart 19 _ rfl) (by omega)
  obtain ⟨a20, h20⟩ := cell_b (i := 20) (hpart 20 _ rfl) (by omega)
  refine ⟨⟨a0, a1, a2, a3, a4, a5, a6, a7, a8, a9, a10, a11, a12, a13, a14, a15, a16, a17, a18, a19, a20⟩, ?_⟩
  congr 1
  refine arr_ext (n := 21) hc rfl (fun i hi => ?_)
  rcases i with _ | i
  · exact h0
  rcases i with _ | i
  · exact h1
  rcases i with _ | i
  · exact h2
  rcases i with _ | i
  · exact h3
  rcases i with _ | i
  · exact h4
  rcases i with _ | i
  · exact h5
  rcases i with _ | i
  · exact h6
  rcases i with _ | i
  · exact h7
  rcases i with _ | i
  · exact h8
  rcases i with _ | i
  · exact h9
  rcases i with _ | i
  · exact h10
  rcases i with _ | i
  · exact h11
  rcases i with _ | i
  · exact h12
  rcases i with _ | i
  · exact h13
  rcases i with _ | i
  · exact h14
  rcases i with _ | i
  · exact h15
  rcases i with _ | i
  · exact h16
  rcases i with _ | i
  · exact h17
  rcases i with _ | i
  · exact h18
  rcases i with _ | i
  · exact h19
  rcases i with _ | i
  · exact h20
  · omega

set_option maxRecDepth 100000 in
theorem hd_arg {H : Type} {enc : TypeId × Value → H} {W : World} {v : Value} {d : DataW H} {p : List MemPlace} {base : Nat} (hv : Value.okWide Tryd.prog W .any base 30 v) (h : DataW.Trod enc Tryd.prog W 0 (fun _ => true) true 30 v d p) :
    ∃ x : Hd, v = .agg x.cells := by
  obtain ⟨cs, rfl, hsz⟩ := okWide_struct Tryd.underlying30 hv
  obtain ⟨fuel, hf⟩ := h
  obtain ⟨xs, m, _, _, hcl, hlen, hpart⟩ := DataW.trod_struct Tryd.underlying30 hf
  have hx : xs.length = 7 := hlen
  have hc : cs.size = 7 := by rw [hsz]; kernel_rfl
  obtain ⟨a0, h0⟩ := cell_i (i := 0) (hpart 0 _ rfl) (by omega)
  obtain ⟨a1, h1⟩ := cell_i (i := 1) (hpart 1 _ rfl) (by omega)
  obtain ⟨a2, h2⟩ := cell_i (i := 2) (hpart 2 _ rfl) (by omega)
  obtain ⟨a3, h3⟩ := cell_i (i := 3) (hpart 3 _ rfl) (by omega)
  obtain ⟨a4, h4⟩ := cell_i (i := 4) (hpart 4 _ rfl) (by omega)
  obtain ⟨a5, h5⟩ := cell_i (i := 5) (hpart 5 _ rfl) (by omega)
  obtain ⟨a6, h6⟩ := cell_i (i := 6) (hpart 6 _ rfl) (by omega)
  refine ⟨⟨a0, a1, a2, a3, a4, a5, a6⟩, ?_⟩
  congr 1
  refine arr_ext (n := 7) hc rfl (fun i hi => ?_)
  rcases i with _ | i
  · exact h0
  rcases i with _ | i
  · exact h1
  rcases i with _ | i
  · exact h2
  rcases i with _ | i
  · exact h3
  rcases i with _ | i
  · exact h4
  rcases i with _ | i
  · exact h5
  rcases i with _ | i
  · exact h6
  · omega
end Go.Proofs.YtnkhifgppcnmkaaDoor

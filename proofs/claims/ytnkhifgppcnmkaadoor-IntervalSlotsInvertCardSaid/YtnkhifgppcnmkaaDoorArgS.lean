/- The arguments of the laws, opened: a slice of slots. -/
import Derived.Test.YtnkhifgppcnmkaaDoorArg
import Derived.Test.YtnkhifgppcnmkaaDoorW15
import Derived.Deep.Slices
import Derived.ChangeArms
namespace Go.Proofs.YtnkhifgppcnmkaaDoor
open Go.ChangeShapes Go.WideShapes Go.ChangeAt Go.RowKit Go.Deep Iv

theorem cells68 : Tryd.prog.cellsOf 68 = 2 := by kernel_rfl
theorem cells4 : Tryd.prog.cellsOf 4 = 1 := by kernel_rfl

theorem two_of {α : Type} {l : List α} (h : l.length = 2) : ∃ a b, l = [a, b] := by
  rcases l with _ | ⟨a, _ | ⟨b, _ | ⟨c, l⟩⟩⟩
  · simp at h
  · simp at h
  · exact ⟨a, b, rfl⟩
  · simp at h

/-- A slot's two cells, out of its reading. -/
theorem slot_cells {H : Type} {enc : TypeId × Value → H} {W : World} {base n : Nat} {spare : Nat → Bool} {held : Bool} {cs : List Value} {x : DataW H × List MemPlace}
    (h : DataW.trod enc Tryd.prog W base spare held n 68 cs = some x) (hl : cs.length = 2) : ∃ (u : Bool) (r : ByteArray), cs = [.bool u, .string r] ∧ r.size ≤ maxLen := by
  obtain ⟨xs, m, _, _, _, hlen, hf⟩ := DataW.trod_struct Tryd.underlying68 h
  have h0 : DataW.trod enc Tryd.prog W base spare held m 4 ((cs.drop 0).take (Tryd.prog.cellsOf 4)) = xs[0]? := hf 0 _ rfl
  have h1 : DataW.trod enc Tryd.prog W base spare held m 9 ((cs.drop 1).take (Tryd.prog.cellsOf 9)) = xs[1]? := hf 1 _ rfl
  have hx : xs.length = 2 := hlen
  obtain ⟨c0, c1, rfl⟩ := two_of hl
  rw [cells4] at h0
  rw [cells9] at h1
  rw [List.getElem?_eq_getElem (by omega)] at h0 h1
  obtain ⟨u, hu, _⟩ := DataW.trod_bool Tryd.underlying4 h0
  obtain ⟨r, hr, _, hrs⟩ := DataW.trod_string Tryd.underlying9 h1
  refine ⟨u, r, ?_, hrs⟩
  simp at hu hr
  rw [hu, hr]

set_option maxRecDepth 100000 in
theorem slots_arg {H : Type} {enc : TypeId × Value → H} {W : World} {v : Value} {d : DataW H} {p : List MemPlace} {base : Nat} (hv : Value.okWide Tryd.prog W .any base 66 v) (h : DataW.Trod enc Tryd.prog W 0 (fun _ => true) true 66 v d p) :
    ∃ A c l, v = .slice A l.length c ∧ RowA W A (sltCells l) ∧ l.length ≤ c ∧ l.length ≤ 9223372036854775807 := by
  obtain ⟨a0, len0, cap0, rfl⟩ := okWide_slice Tryd.underlying66 hv
  obtain ⟨fuel, hf⟩ := h
  rcases open_slice Tryd.underlying66 hf with ⟨hcs, hx⟩ | ⟨a, len, cap, m, n, D, Pl, hcs, hb, hl, hm, hmm, hx, hi⟩
  · obtain ⟨rfl, rfl, rfl⟩ : a0 = none ∧ len0 = 0 ∧ cap0 = 0 := by simpa [Value.cells] using hcs
    exact ⟨none, 0, [], rfl, fun h => by simp [sltCells] at h, by simp, by simp⟩
  · obtain ⟨rfl, rfl, rfl⟩ : a0 = some a ∧ len0 = len ∧ cap0 = cap := by simpa [Value.cells] using hcs
    rw [if_pos rfl] at hmm
    rw [cells68] at hi
    have hm63 : len0 ≤ 9223372036854775807 := Nat.le_trans (Nat.le_trans hl hm) (by decide)
    have key : ∀ i, ∃ x : Slt, i < m → W.cell? (a.add (i * 2)) = some (.bool x.1) ∧ W.cell? ((a.add (i * 2)).add 1) = some (.string x.2) := by
      intro i
      by_cases him : i < m
      · obtain ⟨cs', hc, ht⟩ := hi i him
        obtain ⟨_, hcl, hat⟩ := World.cells?_some hc
        obtain ⟨u, r, rfl, _⟩ := slot_cells ht hcl
        refine ⟨(u, r), fun _ => ⟨?_, ?_⟩⟩
        · have := hat 0 (by omega)
          rwa [Addr.add_zero'] at this
        · exact hat 1 (by omega)
      · exact ⟨noSlt, fun h => absurd h him⟩
    let f : Nat → Slt := fun i => Classical.choose (key i)
    have hfk : ∀ i, i < m → W.cell? (a.add (i * 2)) = some (.bool (f i).1) ∧ W.cell? ((a.add (i * 2)).add 1) = some (.string (f i).2) := fun i him => Classical.choose_spec (key i) him
    clear_value f
    have hll : ((List.range len0).map f).length = len0 := by simp
    refine ⟨some a, cap0, (List.range len0).map f, by rw [hll], fun h0 => ?_, by rw [hll]; exact hl, by rw [hll]; exact hm63⟩
    rw [sltCells_length, hll] at h0
    have h1 := (hfk 0 (by omega)).1
    rw [Nat.zero_mul, Addr.add_zero'] at h1
    have hsp : a.spot = none := World.cell?_spot h1
    have hlt : a.block < W.heap.size := lt_of_cell h1
    obtain ⟨b, off, spot⟩ := a
    subst hsp
    have hadd : ∀ o i, (⟨b, o, none⟩ : Addr).add i = ⟨b, o + i, none⟩ := by
      intro o i
      unfold Addr.add
      split
      · rename_i h; subst h; rfl
      · rfl
    refine ⟨b, off, rfl, hlt, fun i hi' => ?_⟩
    rw [sltCells_length, hll] at hi'
    have hg := sltCells_get ((List.range len0).map f) (i / 2) (by rw [hll]; omega)
    have hfi : sltAt ((List.range len0).map f) (i / 2) = f (i / 2) := by
      have : i / 2 < len0 := by omega
      simp [sltAt, List.getD, this]
    rw [hfi] at hg
    have h2 := hfk (i / 2) (by omega)
    rw [hadd, hadd] at h2
    rcases Nat.mod_two_eq_zero_or_one i with h | h
    · conv => lhs; rw [show i = i / 2 * 2 by omega]
      conv => rhs; rw [show i = 2 * (i / 2) by omega]
      rw [h2.1, hg.1]
    · conv => lhs; rw [show i = i / 2 * 2 + 1 by omega]
      conv => rhs; rw [show i = 2 * (i / 2) + 1 by omega]
      rw [← Nat.add_assoc, h2.2, hg.2]
end Go.Proofs.YtnkhifgppcnmkaaDoor

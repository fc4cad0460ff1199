/- The arguments of the laws, opened: a slice of strings. -/
import Derived.Test.YtnkhifgppcnmkaaDoorCd
import Derived.Test.YtnkhifgppcnmkaaDoorMem
import Derived.SliceStrings
import Derived.DataReads
namespace Go.Proofs.YtnkhifgppcnmkaaDoor
open Go.ChangeShapes Go.WideShapes Go.ChangeAt Go.RowKit

theorem cells9 : Tryd.prog.cellsOf 9 = 1 := by kernel_rfl

theorem lt_of_cell {W : World} {a : Addr} {v : Value} (h : W.cell? a = some v) : a.block < W.heap.size := by
  unfold World.cell? at h
  rcases Nat.lt_or_ge a.block W.heap.size with hlt | hge
  · exact hlt
  · rw [Array.getElem?_eq_none hge] at h; cases h

set_option maxRecDepth 100000 in
theorem strs_arg {H : Type} {enc : TypeId × Value → H} {W : World} {v : Value} {d : DataW H} {p : List MemPlace} {base : Nat} (hv : Value.okWide Tryd.prog W .any base 31 v) (h : DataW.Trod enc Tryd.prog W 0 (fun _ => true) true 31 v d p) :
    ∃ A c l, v = .slice A l.length c ∧ StrsA W A l ∧ l.length ≤ c ∧ l.length ≤ 9223372036854775807 := by
  obtain ⟨a0, len0, cap0, rfl⟩ := okWide_slice Tryd.underlying31 hv
  obtain ⟨fuel, hf⟩ := h
  rcases open_strings Tryd.underlying31 Tryd.underlying9 cells9 hf with ⟨hcs, hx⟩ | ⟨a, len, cap, ss, hcs, hb, hl, hm, hz, hx, hcell, hsz⟩
  · obtain ⟨rfl, rfl, rfl⟩ : a0 = none ∧ len0 = 0 ∧ cap0 = 0 := by simpa [Value.cells] using hcs
    exact ⟨none, 0, [], rfl, fun h => by simp at h, by simp, by simp⟩
  · obtain ⟨rfl, rfl, rfl⟩ : a0 = some a ∧ len0 = len ∧ cap0 = cap := by simpa [Value.cells] using hcs
    rw [if_pos rfl] at hz
    have hm63 : len0 ≤ 9223372036854775807 := Nat.le_trans (Nat.le_trans hl hm) (by decide)
    have hlen : (ss.take len0).length = len0 := by rw [List.length_take]; omega
    refine ⟨some a, cap0, ss.take len0, by rw [hlen], fun h0 => ?_, by rw [hlen]; exact hl, by rw [hlen]; exact hm63⟩
    rw [hlen] at h0
    have h1 := hcell 0 (by omega)
    have hsp : a.spot = none := World.cell?_spot (show W.cell? a = _ from h1)
    have hlt : a.block < W.heap.size := lt_of_cell (show W.cell? a = _ from h1)
    obtain ⟨b, off, spot⟩ := a
    subst hsp
    refine ⟨b, off, rfl, hlt, fun i hi => ?_⟩
    rw [hlen] at hi
    have h2 := hcell i (by omega)
    have hadd : (⟨b, off, none⟩ : Addr).add i = ⟨b, off + i, none⟩ := by
      unfold Addr.add
      split
      · rename_i h; subst h; rfl
      · rfl
    rw [hadd] at h2
    rw [h2]
    simp [List.getD, hi]
end Go.Proofs.YtnkhifgppcnmkaaDoor

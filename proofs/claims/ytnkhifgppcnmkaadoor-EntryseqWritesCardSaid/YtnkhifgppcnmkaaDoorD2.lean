/- The arguments of the laws, opened: a slice of numbers. -/
import Derived.Test.YtnkhifgppcnmkaaDoorD1
namespace Go.Proofs.YtnkhifgppcnmkaaDoor
open Go.ChangeShapes Go.WideShapes Go.ChangeAt Go.RowKit Go.Deep Iv

set_option maxRecDepth 100000 in
theorem ints_arg {H : Type} {enc : TypeId × Value → H} {W : World} {v : Value} {d : DataW H} {p : List MemPlace} {base : Nat} (hv : Value.okWide Tryd.prog W .any base 85 v) (h : DataW.Trod enc Tryd.prog W 0 (fun _ => true) true 85 v d p) :
    ∃ A c, ∃ l : List Int, v = .slice A l.length c ∧ RowA W A (l.map (Value.int .i64)) ∧ l.length ≤ c ∧ l.length ≤ 9223372036854775807 := by
  obtain ⟨a0, len0, cap0, rfl⟩ := okWide_slice Tryd.underlying85 hv
  obtain ⟨fuel, hf⟩ := h
  rcases open_slice Tryd.underlying85 hf with ⟨hcs, hx⟩ | ⟨a, len, cap, m, n, D, Pl, hcs, hb, hl, hm, hmm, hx, hi⟩
  · obtain ⟨rfl, rfl, rfl⟩ : a0 = none ∧ len0 = 0 ∧ cap0 = 0 := by simpa [Value.cells] using hcs
    exact ⟨none, 0, [], rfl, fun h => by simp at h, by simp, by simp⟩
  · obtain ⟨rfl, rfl, rfl⟩ : a0 = some a ∧ len0 = len ∧ cap0 = cap := by simpa [Value.cells] using hcs
    rw [if_pos rfl] at hmm
    rw [cells3] at hi
    have hm63 : len0 ≤ 9223372036854775807 := Nat.le_trans (Nat.le_trans hl hm) (by decide)
    have key : ∀ i, ∃ x : Int, i < m → W.cell? (a.add (i * 1)) = some (.int .i64 x) := by
      intro i
      by_cases him : i < m
      · obtain ⟨cs', hc, ht⟩ := hi i him
        obtain ⟨_, hcl, hat⟩ := World.cells?_some hc
        obtain ⟨k, rfl, _⟩ := DataW.trod_int Tryd.underlying3 ht
        refine ⟨k, fun _ => ?_⟩
        have := hat 0 (by omega)
        rwa [Addr.add_zero'] at this
      · exact ⟨0, fun h => absurd h him⟩
    let f : Nat → Int := fun i => Classical.choose (key i)
    have hfk : ∀ i, i < m → W.cell? (a.add (i * 1)) = some (.int .i64 (f i)) := fun i him => Classical.choose_spec (key i) him
    clear_value f
    have hll : ((List.range len0).map f).length = len0 := by simp
    refine ⟨some a, cap0, (List.range len0).map f, by rw [hll], fun h0 => ?_, by rw [hll]; exact hl, by rw [hll]; exact hm63⟩
    rw [List.length_map, hll] at h0
    have h1 := hfk 0 (by omega)
    rw [Nat.zero_mul, Addr.add_zero'] at h1
    have hsp : a.spot = none := World.cell?_spot h1
    have hlt : a.block < W.heap.size := lt_of_cell h1
    obtain ⟨b, off, spot⟩ := a
    subst hsp
    have hadd : ∀ o i, (⟨b, o, none⟩ : Addr).add i = ⟨b, o + i, none⟩ := by
      intro o i
      unfold Addr.add
      split
      · rename_i h; subst h; rfl
      · rfl
    refine ⟨b, off, rfl, hlt, fun i hi' => ?_⟩
    rw [List.length_map, hll] at hi'
    have h2 := hfk i (by omega)
    rw [hadd, Nat.mul_one] at h2
    rw [h2]
    simp [hi']
end Go.Proofs.YtnkhifgppcnmkaaDoor

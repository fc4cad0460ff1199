/- Words for memory. -/
import Derived.Test.YtnkhifgppcnmkaaDoorProg
import Derived.Below
import Derived.Deep.Draws
import Derived.Deep.AppendLies
import Derived.Maps.AppendAt
import Derived.OwnWalk
import Derived.WalkKit
import Derived.KernelRfl
import Derived.RowKit3
import Derived.Laws.BitsAllLaws
import Derived.Laws.Rows
import Derived.Laws.BytesArg
import Derived.Laws.MakeOwn
import Derived.Laws.OwnMore
import Derived.Lib.ConvBytes
import Derived.Lib.Hide
import Derived.Outline
import Derived.RegionTactic
import Derived.Deep.QuietTactic
import Derived.BigQuiet
import Derived.BigRegion
import Derived.Deep.RegionWith
import Derived.Deep.RegionHeld3
import Derived.WalkSmall
import Derived.OpenShut

/- Words for memory, for all walks of this seat. -/
namespace Go.Proofs.YtnkhifgppcnmkaaDoor
open Go.RowKit

theorem ret_int {k : IntKind} {a b : Int} (h : a = b) : Ending.returned (.int k a) = .returned (.int k b) := by rw [h]
theorem ret_bool {a b : Bool} (h : a = b) : Ending.returned (.bool a) = .returned (.bool b) := by rw [h]
theorem ret_string {a b : ByteArray} (h : a = b) : Ending.returned (.string a) = .returned (.string b) := by rw [h]

theorem bstep {W w w' : World} (h : Below W.heap.size W w) (h' : Below w.heap.size w w') : Below W.heap.size W w' := h.trans (h'.mono h.size)

theorem blk_lt {w : World} {g : Nat} {o : Obj} (h : w.heap[g]? = some o) : g < w.heap.size := by
  rcases Nat.lt_or_ge g w.heap.size with hlt | hge
  · exact hlt
  · rw [Array.getElem?_eq_none hge] at h; cases h

theorem heap_at_alloc {w : World} {o : Obj} {n : Nat} (h : w.heap.size = n) : (w.alloc o).heap[n]? = some o := by
  subst h; exact heap_alloc_new w o

/-- A slice's address leads to the strings l. -/
def StrsA (w : World) (A : Option Addr) (l : List ByteArray) : Prop :=
  0 < l.length → ∃ b o, A = some ⟨b, o, none⟩ ∧ b < w.heap.size ∧ ∀ i, i < l.length → w.cell? ⟨b, o + i, none⟩ = some (.string (l.getD i ByteArray.empty))

theorem StrsA.keep {w w' : World} {A : Option Addr} {l : List ByteArray} (h : StrsA w A l) (hb : Below w.heap.size w w') : StrsA w' A l := by
  intro h0
  obtain ⟨b, o, rfl, hlt, hc⟩ := h h0
  exact ⟨b, o, rfl, Nat.lt_of_lt_of_le hlt hb.size, fun i hi => (hb.cell (p := ⟨b, o + i, none⟩) hlt).trans (hc i hi)⟩

theorem StrsA.drop {w : World} {b o : Nat} {l : List ByteArray} (h : StrsA w (some ⟨b, o, none⟩) l) (k : Nat) (hk : k ≤ l.length) : StrsA w (some ⟨b, o + k, none⟩) (l.drop k) := by
  intro h0
  rw [List.length_drop] at h0
  obtain ⟨b', o', e, hlt, hc⟩ := h (by omega)
  simp only [Option.some.injEq, Addr.mk.injEq, and_true] at e
  obtain ⟨rfl, rfl⟩ := e
  refine ⟨b, o + k, rfl, hlt, fun i hi => ?_⟩
  rw [List.length_drop] at hi
  rw [Nat.add_assoc, hc (k + i) (by omega)]
  simp [List.getD]
end Go.Proofs.YtnkhifgppcnmkaaDoor

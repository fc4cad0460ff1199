/- Walks: the reference's lengths. -/
import Derived.Test.YtnkhifgppcnmkaaDoorW10
namespace Go.Proofs.YtnkhifgppcnmkaaDoor
open Go.RowKit Iv

theorem info3 : (Tryd.prog.info? 3).map (fun i => (i.zero, i.size, i.bytes)) = some (some (.int .i64 0), 1, 8) := by kernel_rfl

def ints (ns : List Nat) : List Value := ns.map fun (n : Nat) => Value.int .i64 (Int.ofNat n)
/-- A slice of numbers that the call owns. -/
def OwnI (B : Nat) (w : World) (v : Value) (ns : List Nat) : Prop := w.ownsRow B 3 1 v ns.length (ints ns)

theorem OwnI.keep {B : Nat} {w w' : World} {v : Value} {ns : List Nat} (h : OwnI B w v ns) (hb : Below w.heap.size w w') : OwnI B w' v ns :=
  World.ownsRow.kept h (row := none) ⟨hb.os, hb.tape, hb.output, hb.size, fun k hk _ => hb.block k hk⟩ (by cases v.ownBlock <;> simp)

theorem ints_snoc (ns : List Nat) (n : Nat) : ints ns ++ [Value.int .i64 (n : Int)] = ints (ns ++ [n]) := by simp [ints]

/-- What a growth leaves of the older blocks: only the call's own row may have changed. -/
theorem below_grown {w0 w w1 : World} {v : Value} {n e size : Nat} {xs : List Value} (hb : Below w0.heap.size w0 w) (hg : w.grownBy w1 v.ownBlock) (ho : w.ownsRow w0.heap.size e size v n xs) : Below w0.heap.size w0 w1 :=
  ⟨hg.os.trans hb.os, hg.tape.trans hb.tape, hg.output.trans hb.output, Nat.le_trans hb.size hg.size, fun k hk => by
    refine (hg.block k (Nat.lt_of_lt_of_le hk hb.size) ?_).trans (hb.block k hk)
    intro hv
    have := (World.ownsRow.lt ho k hv.symm).1
    omega⟩
end Go.Proofs.YtnkhifgppcnmkaaDoor

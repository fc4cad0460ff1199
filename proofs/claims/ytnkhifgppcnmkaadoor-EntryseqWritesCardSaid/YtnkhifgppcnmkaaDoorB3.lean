/- Rows of values. -/
import Derived.Test.YtnkhifgppcnmkaaDoorB2

/- Walks: the reference's lengths. -/
namespace Go.Proofs.YtnkhifgppcnmkaaDoor
open Go.RowKit Iv

theorem info3 : (Tryd.prog.info? 3).map (fun i => (i.zero, i.size, i.bytes)) = some (some (.int .i64 0), 1, 8) := by kernel_rfl

def ints (ns : List Nat) : List Value := ns.map fun (n : Nat) => Value.int .i64 (Int.ofNat n)
/-- A slice of numbers that the call owns. -/
def OwnI (B : Nat) (w : World) (v : Value) (ns : List Nat) : Prop := w.ownsRow B 3 1 v ns.length (ints ns)

theorem OwnI.keep {B : Nat} {w w' : World} {v : Value} {ns : List Nat} (h : OwnI B w v ns) (hb : Below w.heap.size w w') : OwnI B w' v ns :=
  World.ownsRow.kept h (row := none) ⟨hb.os, hb.tape, hb.output, hb.size, fun k hk _ => hb.block k hk⟩ (by cases v.ownBlock <;> simp)

theorem ints_snoc (ns : List Nat) (n : Nat) : ints ns ++ [Value.int .i64 (n : Int)] = ints (ns ++ [n]) := by simp [ints]

/-- What a growth leaves of the older blocks: only the call's own row may have changed. -/
theorem below_grown {w0 w w1 : World} {v : Value} {n e size : Nat} {xs : List Value} (hb : Below w0.heap.size w0 w) (hg : w.grownBy w1 v.ownBlock) (ho : w.ownsRow w0.heap.size e size v n xs) : Below w0.heap.size w0 w1 :=
  ⟨hg.os.trans hb.os, hg.tape.trans hb.tape, hg.output.trans hb.output, Nat.le_trans hb.size hg.size, fun k hk => by
    refine (hg.block k (Nat.lt_of_lt_of_le hk hb.size) ?_).trans (hb.block k hk)
    intro hv
    have := (World.ownsRow.lt ho k hv.symm).1
    omega⟩
end Go.Proofs.YtnkhifgppcnmkaaDoor

/- More words for memory: rows of values, rows that the call owns. -/
namespace Go.Proofs.YtnkhifgppcnmkaaDoor
open Go.RowKit Iv

/-- A slice's address leads to the cells xs. -/
def RowA (w : World) (A : Option Addr) (xs : List Value) : Prop :=
  0 < xs.length → ∃ b o, A = some ⟨b, o, none⟩ ∧ b < w.heap.size ∧ ∀ i, i < xs.length → w.cell? ⟨b, o + i, none⟩ = xs[i]?

theorem RowA.keep {w w' : World} {A : Option Addr} {xs : List Value} (h : RowA w A xs) (hb : Below w.heap.size w w') : RowA w' A xs := by
  intro h0
  obtain ⟨b, o, rfl, hlt, hc⟩ := h h0
  exact ⟨b, o, rfl, Nat.lt_of_lt_of_le hlt hb.size, fun i hi => (hb.cell (p := ⟨b, o + i, none⟩) hlt).trans (hc i hi)⟩

theorem addr_add (g j : Nat) : (⟨g, 0, none⟩ : Addr).add j = ⟨g, j, none⟩ := by unfold Addr.add; split <;> simp_all

/-- A row that the call owns is a slice that leads to its cells. -/
theorem own_row {B : Nat} {w : World} {e : TypeId} {size n : Nat} {v : Value} {xs : List Value} (h : w.ownsRow B e size v n xs) : ∃ A c, v = .slice A n c ∧ RowA w A xs ∧ n ≤ c := by
  have hl := h.1
  rcases h.2 with ⟨rfl, h0⟩ | ⟨g, cap, cur, rfl, hb, hg, hnc, hcm, hcs, htake⟩
  · subst h0
    exact ⟨none, 0, rfl, fun hp => by simp only [Nat.zero_mul] at hl; omega, by omega⟩
  · refine ⟨some ⟨g, 0, none⟩, cap, rfl, fun hp => ⟨g, 0, rfl, blk_lt hg, fun i hi => ?_⟩, hnc⟩
    have := World.ownsRow.cells h (g := g) rfl i xs[i] (List.getElem?_eq_getElem hi)
    rw [Nat.zero_add, List.getElem?_eq_getElem hi]
    rwa [addr_add] at this

theorem strs_row {w : World} {A : Option Addr} {l : List ByteArray} : StrsA w A l ↔ RowA w A (l.map Value.string) := by
  unfold StrsA RowA
  rw [List.length_map]
  constructor
  · intro h h0
    obtain ⟨b, o, rfl, hlt, hc⟩ := h h0
    exact ⟨b, o, rfl, hlt, fun i hi => by rw [hc i hi]; simp [List.getD, hi]⟩
  · intro h h0
    obtain ⟨b, o, rfl, hlt, hc⟩ := h h0
    exact ⟨b, o, rfl, hlt, fun i hi => by rw [hc i hi]; simp [List.getD, hi]⟩

/-- What the call owns stays its own. -/
theorem own_keep {B : Nat} {w w' : World} {e : TypeId} {size n : Nat} {v : Value} {xs : List Value} (h : w.ownsRow B e size v n xs) (hb : Below w.heap.size w w') : w'.ownsRow B e size v n xs :=
  World.ownsRow.kept h (row := none) ⟨hb.os, hb.tape, hb.output, hb.size, fun k hk _ => hb.block k hk⟩ (by cases v.ownBlock <;> simp)
/-- A slice type's element: its number, its cells and its bytes. -/
def Elem (t e size bytes : Nat) : Prop :=
  Tryd.prog.underlying t = some (.slice e) ∧ ∃ i z, Tryd.prog.info? e = some i ∧ i.zero = some z ∧ i.size = size ∧ i.bytes = bytes ∧ z.cells.size = size ∧ 0 < size

theorem elem_of {t e size bytes : Nat} {z : Value} (ht : Tryd.prog.underlying t = some (.slice e)) (h : (Tryd.prog.info? e).map (fun i => (i.zero, i.size, i.bytes)) = some (some z, size, bytes)) (hz : z.cells.size = size) (h0 : 0 < size) : Elem t e size bytes := by
  obtain ⟨i, hi, hz0, hs, hb⟩ := info_parts h
  exact ⟨ht, i, z, hi, hz0, hs, hb, hz, h0⟩

theorem elemInt : Elem 85 3 1 8 := elem_of (z := .int .i64 0) Tryd.underlying85 info3 rfl (by decide)
set_option maxRecDepth 100000 in
theorem elemStr : Elem 31 9 1 16 := elem_of (z := .string ByteArray.empty) Tryd.underlying31 (by kernel_rfl) rfl (by decide)
set_option maxRecDepth 100000 in
theorem elemMem : Elem 32 9 1 16 := elem_of (z := .string ByteArray.empty) (by kernel_rfl) (by kernel_rfl) rfl (by decide)
set_option maxRecDepth 100000 in
theorem elemSlot : Elem 66 68 2 24 := elem_of (z := .agg #[.bool false, .string ByteArray.empty]) Tryd.underlying66 (by kernel_rfl) rfl (by decide)
set_option maxRecDepth 100000 in
theorem elemWrite : Elem 36 97 2 24 := elem_of (z := .agg #[.int .i64 0, .string ByteArray.empty]) Tryd.underlying36 (by kernel_rfl) rfl (by decide)
set_option maxRecDepth 100000 in
theorem elemPair : Elem 44 48 2 32 := elem_of (z := .agg #[.string ByteArray.empty, .string ByteArray.empty]) Tryd.underlying44 (by kernel_rfl) rfl (by decide)

/-- One element is appended to a row that the call owns; the element lies in a block of its own. -/
theorem wpl_push {ops : Array Oper} {rest : List Oper} {o : Oper} {a : Act} {Q : Exit → Act → World → Prop} {t e size bytes : Nat} (E : Elem t e size bytes) (hgd : o.guard = none) (s x : Operand)
    (ho : o.op = .call { callee := .builtin .append, args := #[s, x], argTypes := #[t, t] })
    {w0 w : World} (v : Value) (n : Nat) (xs news : List Value) (hs : a.eval s = v) (hown : w.ownsRow w0.heap.size e size v n xs) (hb : Below w0.heap.size w0 w)
    (hx : a.eval x = .slice (some ⟨w.heap.size, 0, none⟩) 1 1) (hl : news.length = size) (h1 : ∀ u ∈ news, u.oneCell' = true) (h63 : n + 1 ≤ maxLen) (hbytes : (n + 1) * bytes ≤ 140737488355328)
    (h : ∀ g cap w', w'.ownsRow w0.heap.size e size (.slice (some ⟨g, 0, none⟩) (n + 1) cap) (n + 1) (xs ++ news) → Below w0.heap.size w0 w' → wpList Tryd.prog ops Q rest (a.put o.dst (.slice (some ⟨g, 0, none⟩) (n + 1) cap)) w') :
    wpList Tryd.prog ops Q (o :: rest) a (w.alloc (.cells news.toArray e)) := by
  obtain ⟨ht, i, z, hi, hz, hsz, hby, hzs, h0⟩ := E
  have hown2 : (w.alloc (.cells news.toArray e)).ownsRow w0.heap.size e size v n xs := World.ownsRow.alloc hown _
  have hnews := World.news_of_block (heap_alloc_new w (.cells news.toArray e))
  refine wpList_append_lies (w.alloc (.cells news.toArray e)) hgd s x t ho w0.heap.size e i z size bytes ht hi hz hsz hby hzs h0 v n xs hs hown2 ⟨w.heap.size, 0, none⟩ 1 1 news hx (by rw [hl, Nat.one_mul]) ?_ h1 (by decide) h63 hbytes (Nat.le_trans hb.size (by simp)) _ rfl ?_
  · intro j u hu
    exact hnews j u (by simpa using hu)
  · intro g cap w' hown' hgrow _ _
    exact h g cap w' hown' (below_grown (hb.alloc hb.size _) hgrow hown2)
end Go.Proofs.YtnkhifgppcnmkaaDoor

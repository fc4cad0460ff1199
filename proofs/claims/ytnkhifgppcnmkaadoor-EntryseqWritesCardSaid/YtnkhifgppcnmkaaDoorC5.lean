/- Rules for whole structs; plain laws of Put; awake. -/
import Derived.Test.YtnkhifgppcnmkaaDoorC3
import Derived.Deep.DrawnRows

/- Whole structs in regions that draw their order: rules for the walk. -/
namespace Go.Proofs.YtnkhifgppcnmkaaDoor
open Go.RowKit Iv

/-- The load of a whole struct. -/
def ldRow (t : TypeId) (v : Value) : Sem Next := do pure (.value (← Instr.loadAt t v))
/-- The store of a whole struct. -/
def stRow (t : TypeId) (p v : Value) : Sem Next := do Instr.storeAt t p v; pure .skip
def ldBad (t : TypeId) (v : Value) : Sem Next := ldRow t v
def stBad (t : TypeId) (p v : Value) : Sem Next := stRow t p v

theorem exec_ld (t : TypeId) (ρ : Operand → Value) (d : Option Tmp) (x : Operand) (ty : TypeId) (pos : String) (after : Array Edge) (g : Option (Nat × Bool)) : execOp ρ ⟨d, .load t x, ty, pos, after, g⟩ = ldRow t (ρ x) := rfl
theorem exec_st (t : TypeId) (ρ : Operand → Value) (d : Option Tmp) (x y : Operand) (ty : TypeId) (pos : String) (after : Array Edge) (g : Option (Nat × Bool)) : execOp ρ ⟨d, .store t x y, ty, pos, after, g⟩ = stRow t (ρ x) (ρ y) := rfl

theorem ldRow_run (t n : Nat) (fs : Array Field) (hu : Tryd.prog.underlying t = some (.struct fs)) (hi : (Tryd.prog.info? t).map (·.size) = some n) (g : Nat) (w : World) :
    (ldRow t (.pointer (some ⟨g, 0, none⟩))).run Tryd.prog w = match w.heap[g]? with
      | some (.cells cs _ _) => if cs.size = n then .ok (.value (.agg cs)) w else (ldBad t (.pointer (some ⟨g, 0, none⟩))).run Tryd.prog w
      | _ => (ldBad t (.pointer (some ⟨g, 0, none⟩))).run Tryd.prog w := by
  split
  · rename_i cs t' fr hg
    split
    · rename_i hn
      unfold ldRow
      simp only [Instr.loadAt, Instr.sureAddr, Sem.run_bind, Sem.run_pure, Result.andThen_ok, run_loadVar_row w g t' t cs fr (.struct fs) hg hu rfl (by rw [hi, hn])]
    · rfl
  · rfl

/-- Each is one cell. -/
def Ones (cs : Array Value) : Prop := cs.all (·.oneCell') = true
instance (cs : Array Value) : Decidable (Ones cs) := inferInstanceAs (Decidable (cs.all (·.oneCell') = true))

theorem stRow_run (t n : Nat) (hi : (Tryd.prog.info? t).map (·.size) = some n) (g : Nat) (cs : Array Value) (w : World) :
    (stRow t (.pointer (some ⟨g, 0, none⟩)) (.agg cs)).run Tryd.prog w = match w.heap[g]? with
      | some (.cells old _ fr) => if fr = (0, 0) ∧ old.size = n ∧ cs.size = n ∧ Ones cs then .ok .skip (w.setRow g cs) else (stBad t (.pointer (some ⟨g, 0, none⟩)) (.agg cs)).run Tryd.prog w
      | _ => (stBad t (.pointer (some ⟨g, 0, none⟩)) (.agg cs)).run Tryd.prog w := by
  split
  · rename_i old t' fr hg
    split
    · rename_i hn
      obtain ⟨rfl, h1, h2, h3⟩ := hn
      unfold stRow
      simp only [Instr.storeAt, Instr.sureAddr, Sem.run_bind, Sem.run_pure, Result.andThen_ok, run_storeVar_row w g t' t old cs hg (by rw [hi, h2]) (by rw [h1, h2]) h3]
    · rfl
  · rfl

/-- Descriptions (23), headers (30). -/
theorem exec_ld23 (ρ : Operand → Value) (d : Option Tmp) (x : Operand) (ty : TypeId) (pos : String) (after : Array Edge) (g : Option (Nat × Bool)) : execOp ρ ⟨d, .load 23 x, ty, pos, after, g⟩ = ldRow 23 (ρ x) := rfl
theorem exec_ld30 (ρ : Operand → Value) (d : Option Tmp) (x : Operand) (ty : TypeId) (pos : String) (after : Array Edge) (g : Option (Nat × Bool)) : execOp ρ ⟨d, .load 30 x, ty, pos, after, g⟩ = ldRow 30 (ρ x) := rfl
theorem exec_st23 (ρ : Operand → Value) (d : Option Tmp) (x y : Operand) (ty : TypeId) (pos : String) (after : Array Edge) (g : Option (Nat × Bool)) : execOp ρ ⟨d, .store 23 x y, ty, pos, after, g⟩ = stRow 23 (ρ x) (ρ y) := rfl
theorem exec_st30 (ρ : Operand → Value) (d : Option Tmp) (x y : Operand) (ty : TypeId) (pos : String) (after : Array Edge) (g : Option (Nat × Bool)) : execOp ρ ⟨d, .store 30 x y, ty, pos, after, g⟩ = stRow 30 (ρ x) (ρ y) := rfl
theorem ld23_run (g : Nat) (w : World) : (ldRow 23 (.pointer (some ⟨g, 0, none⟩))).run Tryd.prog w = match w.heap[g]? with
      | some (.cells cs _ _) => if cs.size = 21 then .ok (.value (.agg cs)) w else (ldBad 23 (.pointer (some ⟨g, 0, none⟩))).run Tryd.prog w
      | _ => (ldBad 23 (.pointer (some ⟨g, 0, none⟩))).run Tryd.prog w := ldRow_run 23 21 _ Tryd.underlying23 info23 g w
theorem st23_run (g : Nat) (cs : Array Value) (w : World) : (stRow 23 (.pointer (some ⟨g, 0, none⟩)) (.agg cs)).run Tryd.prog w = match w.heap[g]? with
      | some (.cells old _ fr) => if fr = (0, 0) ∧ old.size = 21 ∧ cs.size = 21 ∧ Ones cs then .ok .skip (w.setRow g cs) else (stBad 23 (.pointer (some ⟨g, 0, none⟩)) (.agg cs)).run Tryd.prog w
      | _ => (stBad 23 (.pointer (some ⟨g, 0, none⟩)) (.agg cs)).run Tryd.prog w := stRow_run 23 21 info23 g cs w
theorem ld30_run (g : Nat) (w : World) : (ldRow 30 (.pointer (some ⟨g, 0, none⟩))).run Tryd.prog w = match w.heap[g]? with
      | some (.cells cs _ _) => if cs.size = 7 then .ok (.value (.agg cs)) w else (ldBad 30 (.pointer (some ⟨g, 0, none⟩))).run Tryd.prog w
      | _ => (ldBad 30 (.pointer (some ⟨g, 0, none⟩))).run Tryd.prog w := ldRow_run 30 7 _ Tryd.underlying30 info30 g w
theorem st30_run (g : Nat) (cs : Array Value) (w : World) : (stRow 30 (.pointer (some ⟨g, 0, none⟩)) (.agg cs)).run Tryd.prog w = match w.heap[g]? with
      | some (.cells old _ fr) => if fr = (0, 0) ∧ old.size = 7 ∧ cs.size = 7 ∧ Ones cs then .ok .skip (w.setRow g cs) else (stBad 30 (.pointer (some ⟨g, 0, none⟩)) (.agg cs)).run Tryd.prog w
      | _ => (stBad 30 (.pointer (some ⟨g, 0, none⟩)) (.agg cs)).run Tryd.prog w := stRow_run 30 7 info30 g cs w

theorem equalIn_of {t : Nat} {fs : Array Field} {xs ys : Array Value} {r : Bool} (hu : Tryd.prog.underlying t = some (.struct fs)) (hp : Tryd.prog.stoodInHeld t = false) (w : World)
    (h : (Op.eqFields 9999 xs ys fs.toList).run Tryd.prog w = .ok r w) : (Op.equalIn 10000 t (.agg xs) (.agg ys)).run Tryd.prog w = .ok r w := by
  have hf : Tryd.prog.fieldsOf t = fs := by simp [Program.fieldsOf, hu]
  rw [run_equalIn_struct (P := Tryd.prog) w 9999 t xs ys (by rw [hf]; exact hu) hp, hf, h]
theorem equalIn_hd (a b : Hd) (w : World) : (Op.equalIn 10000 30 (.agg a.cells) (.agg b.cells)).run Tryd.prog w = .ok (decide (a = b)) w := by
  have h := equalIn_of (t := 30) Tryd.underlying30 (by kernel_rfl) w (xs := a.cells) (ys := b.cells)
    (eqf_cons (by decide) (i_part _ _ _ w rfl) (i_part _ _ _ w rfl) (i_eq 9998 a.app b.app w)
    (eqf_cons (by decide) (i_part _ _ _ w rfl) (i_part _ _ _ w rfl) (i_eq 9998 a.cnt b.cnt w)
    (eqf_cons (by decide) (i_part _ _ _ w rfl) (i_part _ _ _ w rfl) (i_eq 9998 a.fin b.fin w)
    (eqf_cons (by decide) (i_part _ _ _ w rfl) (i_part _ _ _ w rfl) (i_eq 9998 a.root b.root w)
    (eqf_cons (by decide) (i_part _ _ _ w rfl) (i_part _ _ _ w rfl) (i_eq 9998 a.ht b.ht w)
    (eqf_cons (by decide) (i_part _ _ _ w rfl) (i_part _ _ _ w rfl) (i_eq 9998 a.spl b.spl w)
    (eqf_cons (by decide) (i_part _ _ _ w rfl) (i_part _ _ _ w rfl) (i_eq 9998 a.areas b.areas w) eqf_nil)))))))
  rw [h, hd_eqb]
theorem eql_hd (a b : Hd) (w : World) : (binOp .eql 30 (.agg a.cells) (.agg b.cells)).run Tryd.prog w = .ok (.bool (decide (a = b))) w := by
  rw [run_eql_struct, equalIn_hd]; rfl

/-- A struct is built, by an operation that runs (its guard holds). -/
theorem wpl_buildW {ops : Array Oper} {rest : List Oper} {o : Oper} {a : Act} {w : World} {Q : Exit → Act → World → Prop} (t : TypeId) (parts : Array (Nat × Operand)) (ho : o.op = .build t parts) (hw : Region.wanted o (yielded ops a.tmps) = true) (vs : List (Nat × Value)) (cs : Array Value)
    (hv : (parts.map fun (i, x) => (i, a.eval x)).toList = vs) (hf : Tryd.prog.built t vs = some cs)
    (h : wpList Tryd.prog ops Q rest (a.put o.dst (.agg cs)) w) : wpList Tryd.prog ops Q (o :: rest) a w :=
  wpList_step fun K hK => by
    rw [if_pos hw]
    subst hv
    refine wp_build t parts ho (by rw [hf]; rfl) (hK _ _ ?_)
    rw [hf]
    exact h

/-- A block that is known stays as it is: behind a call, behind an alloc. -/
theorem block_at {W w : World} {q : Nat} {o : Obj} (hb : Below W.heap.size W w) (h : W.heap[q]? = some o) : w.heap[q]? = some o := (hb.block q (blk_lt h)).trans h
theorem alloc_at {W : World} {q : Nat} {o p : Obj} (h : W.heap[q]? = some o) : (W.alloc p).heap[q]? = some o := (Below.heap_alloc _ _ _ (blk_lt h)).trans h
/-- What is below stays so behind an alloc; the draw outermost. -/
theorem keep_alloc {w0 w : World} (h : Below w0.heap.size w0 w) (o : Obj) : Below w0.heap.size w0 (w.alloc o) := h.alloc h.size o
theorem keep_alloc_drew {w0 w : World} (h : Below w0.heap.size w0 w.drew) (o : Obj) : Below w0.heap.size w0 (w.alloc o).drew := h.alloc h.size o
theorem keep_setRow {w0 w : World} (h : Below w0.heap.size w0 w) (g : Nat) (hg : w0.heap.size ≤ g) (cs : Array Value) : Below w0.heap.size w0 (w.setRow g cs) := below_setRow h hg cs
theorem keep_setRow_new {w0 w : World} {o : Obj} (h : Below w0.heap.size w0 (w.alloc o)) (h2 : Below w0.heap.size w0 w) (cs : Array Value) : Below w0.heap.size w0 ((w.alloc o).setRow w.heap.size cs) := below_setRow h h2.size cs
end Go.Proofs.YtnkhifgppcnmkaaDoor

/- Plain laws of clusters: what Put leaves, what repeated appends leave. No walk. -/
namespace Go.Proofs.YtnkhifgppcnmkaaDoor
open Iv

theorem putOf_cons (p : List ByteArray) (x : Wr) (ws : List Wr) : putOf p (x :: ws) = putOf (putOne p x) ws := rfl
theorem putOf_nil (p : List ByteArray) : putOf p [] = p := rfl

theorem putOf_le (ws : List Wr) : ∀ p : List ByteArray, p.length ≤ 20000 → (putOf p ws).length ≤ 20000 := by
  induction ws with
  | nil => intro p h; exact h
  | cons x ws ih => intro p h; exact ih _ (putOne_le p x h)

theorem growOf_mem (p : List ByteArray) (n : Int) (s : ByteArray) (h : s ∈ growOf p n) : s ∈ p ∨ s = ByteArray.empty := by
  unfold growOf at h
  split at h
  · rcases List.mem_append.1 h with h | h
    · exact .inl h
    · exact .inr (List.eq_of_mem_replicate h)
  · exact .inl h

theorem putOne_mem (p : List ByteArray) (x : Wr) (s : ByteArray) (h : s ∈ putOne p x) : s ∈ p ∨ s = ByteArray.empty ∨ s = x.2 := by
  unfold putOne at h
  split at h
  · rcases List.mem_or_eq_of_mem_set h with h | h
    · rcases growOf_mem p _ s h with h | h
      · exact .inl h
      · exact .inr (.inl h)
    · exact .inr (.inr h)
  · rcases growOf_mem p _ s h with h | h
    · exact .inl h
    · exact .inr (.inl h)

theorem putOf_small (ws : List Wr) (hw : ∀ x ∈ ws, x.2.size ≤ 1000) : ∀ p : List ByteArray, (∀ s ∈ p, s.size ≤ 1000) → ∀ s ∈ putOf p ws, s.size ≤ 1000 := by
  induction ws with
  | nil => intro p h; exact h
  | cons x ws ih =>
    intro p h
    refine ih (fun y hy => hw y (by simp [hy])) _ (fun s hs => ?_)
    rcases putOne_mem p x s hs with h1 | rfl | rfl
    · exact h s h1
    · decide
    · exact hw x (by simp)

theorem encodeOf_small (size : Int) (l : List ByteArray) : (encodeOf size l).1.size ≤ 512 := by
  rcases hx : encodeOf size l with ⟨d, k⟩
  by_cases h0 : k = 0
  · subst h0
    have h1 := encode_size hx
    have h2 := (encode_ok hx).1
    dsimp only
    rcases isSz_cases h2 with h | h | h <;> omega
  · have : d = ByteArray.empty := by
      unfold encodeOf at hx
      split at hx
      · injection hx with h _; exact h.symm
      · split at hx
        · injection hx with h _; exact h.symm
        · split at hx
          · injection hx with h _; exact h.symm
          · injection hx with _ h; exact absurd h.symm h0
    subst this
    show ByteArray.empty.size ≤ 512
    decide

theorem append_ws (m : List ByteArray) (h : Hd) (d : Ds) (r : ByteArray) : (appendOf m h d r).ws.length ≤ 1 ∧ ∀ x ∈ (appendOf m h d r).ws, x.2.size ≤ 1000 := by
  unfold appendOf
  split
  · simp
  · split
    · simp
    · split
      · simp
      · refine ⟨by simp, fun x hx => ?_⟩
        have : x = _ := List.mem_singleton.1 hx
        subst this
        have := encodeOf_small d.itv (lastOf h.fin d.itv (endOfC m h d).1 r ++ [r])
        dsimp only
        omega
end Go.Proofs.YtnkhifgppcnmkaaDoor

/- Words for the regions of the laws: a call that answers a header and writes, its header laid in a box. -/
namespace Go.Proofs.YtnkhifgppcnmkaaDoor
open Go.RowKit Iv

theorem wrCells_two (ws : List Wr) (h : 0 < ws.length) : 1 < (wrCells ws).length ∧ ∃ s, (wrCells ws)[1]? = some (Value.string s) := by
  cases ws with
  | nil => simp at h
  | cons x ws => exact ⟨by simp [wrCells], x.2, rfl⟩

/-- A box of a header is stored into: rows of writes lie elsewhere. -/
theorem rowA_setRow {w : World} {A : Option Addr} {ws : List Wr} {g t : Nat} {Z : Array Value} (h : RowA w A (wrCells ws)) (hg : w.heap[g]? = some (.cells Z t (0, 0))) (hz : ∀ (i : Nat) (s : ByteArray), Z[i]? ≠ some (Value.string s)) (cs : Array Value) : RowA (w.setRow g cs) A (wrCells ws) := by
  intro h0
  obtain ⟨b, o, rfl, hlt, hc⟩ := h h0
  have hw : 0 < ws.length := by
    cases ws with
    | nil => simp [wrCells] at h0
    | cons x ws => simp
  obtain ⟨h1, s, hs⟩ := wrCells_two ws hw
  have hbg : b ≠ g := by
    rintro rfl
    have := hc 1 h1
    rw [hs, cell_of_row _ _ _ _ _ _ hg] at this
    exact hz _ _ this
  refine ⟨b, o, rfl, by simpa using hlt, fun i hi => ?_⟩
  rw [← hc i hi]
  simp only [World.cell?]
  rw [setRow_other w g b cs hbg]

theorem hd0_nostr : ∀ (i : Nat) (s : ByteArray), (#[.int .i64 0, .int .i64 0, .int .i64 0, .int .i64 0, .int .i64 0, .int .i64 0, .int .i64 0] : Array Value)[i]? ≠ some (Value.string s) := by
  intro i s
  rcases i with _ | _ | _ | _ | _ | _ | _ | i <;> simp
theorem hd_nostr (h : Hd) : ∀ (i : Nat) (s : ByteArray), h.cells[i]? ≠ some (Value.string s) := by
  intro i s
  unfold Hd.cells
  rcases i with _ | _ | _ | _ | _ | _ | _ | i <;> simp

/-- The header is laid, the writes lie: what a region leaves that calls and lays the header in a box of its own. -/
structure Laid (w0 w : World) (g : Nat) (hc : Array Value) (A : Option Addr) (ws : List Wr) : Prop where
  row : w.heap[g]? = some (.cells hc 30 (0, 0))
  wr : RowA w A (wrCells ws)
  bel : Below w0.heap.size w0 w
  le : w0.heap.size ≤ g

/-- The box was made ahead of the call. -/
theorem Laid.ahead {w0 w : World} {g : Nat} {hc Z : Array Value} {A : Option Addr} {ws : List Wr} (hg : w.heap[g]? = some (.cells Z 30 (0, 0))) (hz : ∀ (i : Nat) (s : ByteArray), Z[i]? ≠ some (Value.string s)) (hr : RowA w A (wrCells ws)) (hb : Below w0.heap.size w0 w) (hle : w0.heap.size ≤ g) : Laid w0 (w.setRow g hc) g hc A ws :=
  ⟨setRow_heap _ _ _ _ _ _ hg, rowA_setRow hr hg hz _, below_setRow hb hle _, hle⟩
/-- The box was made behind the call. -/
theorem Laid.behind {w0 w : World} {hc Z : Array Value} {A : Option Addr} {ws : List Wr} (hz : ∀ (i : Nat) (s : ByteArray), Z[i]? ≠ some (Value.string s)) (hr : RowA w A (wrCells ws)) (hb : Below w0.heap.size w0 w) : Laid w0 ((w.alloc (.cells Z 30)).setRow w.heap.size hc) w.heap.size hc A ws :=
  Laid.ahead (heap_alloc_new _ _) hz (hr.keep ((Below.refl _ _).alloc (Nat.le_refl _) _)) (hb.alloc hb.size _) hb.size
theorem Laid.drew {w0 w : World} {g : Nat} {hc : Array Value} {A : Option Addr} {ws : List Wr} (h : Laid w0 w g hc A ws) : Laid w0 w.drew g hc A ws :=
  ⟨h.row, h.wr.keep (Below.refl _ _).drew, h.bel.drew, h.le⟩
theorem Laid.keep {w0 w w' : World} {g : Nat} {hc : Array Value} {A : Option Addr} {ws : List Wr} (h : Laid w0 w g hc A ws) (hb : Below w.heap.size w w') : Laid w0 w' g hc A ws :=
  ⟨(hb.block _ (blk_lt h.row)).trans h.row, h.wr.keep hb, bstep h.bel hb, h.le⟩

/-- A whole struct goes into the block that was just made, its number given. -/
theorem wpl_store_freshN {ops : Array Oper} {rest : List Oper} {o : Oper} {a : Act} {W : World} {Q : Exit → Act → World → Prop} (hgd : o.guard = none) (ty : TypeId) (x y : Operand) (ho : o.op = .store ty x y)
    (cells : Array Value) (hy : a.eval y = .agg cells) (t : TypeId) (old : Array Value) (n : Nat) (hn : W.heap.size = n) (hx : a.eval x = .pointer (some ⟨n, 0, none⟩)) (hi : (Tryd.prog.info? ty).map (·.size) = some cells.size)
    (hold : old.size = cells.size) (h1 : cells.all (·.oneCell') = true)
    (h : ∀ w2, w2.heap[n]? = some (.cells cells t (0, 0)) → Below W.heap.size W w2 → w2.heap.size = n + 1 → wpList Tryd.prog ops Q rest (a.put o.dst undef) w2) :
    wpList Tryd.prog ops Q (o :: rest) a (W.alloc (.cells old t)) := by
  subst hn
  exact wpl_store_fresh hgd ty x y ho cells hy t old hx hi hold h1 h

/-- A slice literal of one string. -/
theorem own_one {B : Nat} {w : World} {H : Nat} {s : ByteArray} (h : w.heap[H]? = some (.cells #[.string s] 9 (0, 0))) (hB : B ≤ H) : OwnS B w (.slice (some ⟨H, 0, none⟩) 1 1) [s] :=
  ⟨by simp, .inr ⟨H, 1, #[.string s], rfl, hB, h, Nat.le_refl _, by decide, by simp, by simp⟩⟩
theorem own_strsA {B n c : Nat} {w : World} {A : Option Addr} {l : List ByteArray} (h : OwnS B w (.slice A n c) l) : StrsA w A l := by
  obtain ⟨A0, c0, he, hs, _⟩ := own_strs h
  cases he
  exact hs
theorem own_setRow {B : Nat} {w : World} {e size n : Nat} {v : Value} {xs : List Value} {g : Nat} (h : w.ownsRow B e size v n xs) (hg : g < B) (cs : Array Value) : (w.setRow g cs).ownsRow B e size v n xs :=
  own_of_block h (fun q hq => setRow_other _ _ _ _ (by have := (World.ownsRow.lt h q hq).1; omega))
theorem setRow_at {w : World} {q g : Nat} {o : Obj} (h : w.heap[q]? = some o) (hn : q ≠ g) (cs : Array Value) : (w.setRow g cs).heap[q]? = some o := (setRow_other _ _ _ _ hn).trans h
end Go.Proofs.YtnkhifgppcnmkaaDoor

/- Walks of chapter 18: awake. -/
namespace Go.Proofs.YtnkhifgppcnmkaaDoor
open Go.RowKit Iv
attribute [local go_sem ↓] Go.wp_at_zero Go.wp_at_succ exec_ld23 exec_ld30 exec_st23 exec_st30 heap_alloc_new heap_alloc_old
attribute [local go_sem] ld23_run ld30_run st23_run st30_run

theorem strE {w : World} {a : Nat} (h : w.heap[a]? = some (.cells #[.string ⟨#[]⟩] 9 (0, 0))) : StrsA w (some ⟨a, 0, none⟩) [⟨#[]⟩] := by
  intro _
  refine ⟨a, 0, rfl, blk_lt h, fun i hi => ?_⟩
  obtain rfl : i = 0 := by simpa using hi
  rw [cell_of_row _ _ _ _ _ _ h]
  rfl

set_option maxHeartbeats 1600000 in
set_option maxRecDepth 100000 in
theorem awakeE_any (w : World) : Calls Tryd.prog 50 #[] w fun e w' => e = .returned (.bool true) ∧ Below w.heap.size w w' := by
  have HPL : Hid (∀ a b w', StrsA w' (some ⟨a, 0, none⟩) [⟨#[]⟩] → RowA w' (some ⟨b, 0, none⟩) (([40, 40, 40, 60] : List Int).map (Value.int .i64)) → Calls Tryd.prog 58 #[.iface 32 (.slice (some ⟨a, 0, none⟩) 1 1), .agg hd0.cells, .agg ds0.cells, .slice (some ⟨b, 0, none⟩) 4 4] w' (PlTo w' ([128, 168, 256, 296], 0))) := by
    show ∀ _, _
    intro a b w' h1 h2
    have := places_any (some ⟨a, 0, none⟩) 1 [⟨#[]⟩] hd0 ds0 (some ⟨b, 0, none⟩) 4 [40, 40, 40, 60] w' (by decide) memE h1 (by decide) h2
    rw [places0] at this
    exact this
  obtain ⟨dc, hdc⟩ : ∃ dc, dc = ds0.cells := ⟨_, rfl⟩
  have HDS : Hid (dc.size = 21) := by show _ = _; rw [hdc]; exact ds0.size
  have HDO : Hid (dc.all (·.oneCell') = true) := by show _ = _; rw [hdc]; exact ds_one _
  have HDB : Hid (Tryd.prog.built 23 [(1, .int .i64 1), (7, .int .i64 128), (3, .int .i64 60)] = some dc) := by show _ = _; rw [hdc]; exact built_ds0
  rw [← hdc] at HPL
  have HDC := Lib.hid hdc
  clear hdc
  go_enter Tryd.func50, Tryd.ntmps50
  go_wp2_with (first | (refine wpl_build 23 _ rfl rfl [(1, .int .i64 1), (7, .int .i64 128), (3, .int .i64 60)] dc (by kernel_rfl) HDB.out ?_) | (refine wpl_build 30 _ rfl rfl [] hd0.cells (by kernel_rfl) built_hd0 ?_) | (refine wpl_store_fresh rfl 23 _ _ rfl dc rfl 23 _ rfl (by rw [HDS.out]; exact info23) (by rw [HDS.out]; rfl) HDO.out ?_; intro w2 hg2 hb2 hs2; have HG2 := Lib.hid hg2; have HB2 := Lib.hid hb2; have HS2 : Hid (w2.heap.size = w.heap.size + 1) := hs2; clear hg2 hb2 hs2) | (refine wpl_load_row 23 _ rfl rfl w.heap.size rfl 23 dc (0, 0) _ (by rw [Below.heap_alloc _ _ _ (by have := HS2.out; omega)]; exact HG2.out) Tryd.underlying23 (by rw [HDS.out]; exact info23) ?_) | fail)
  refine (HPL.out w2.heap.size (w2.heap.size + 1) _ ?_ ?_).mono ?_
  · intro _
    refine ⟨w2.heap.size, 0, rfl, by simp; omega, fun i hi => ?_⟩
    obtain rfl : i = 0 := by simpa using hi
    rw [cell_of_row _ _ _ _ _ _ ((Below.heap_alloc _ _ _ (by simp)).trans (heap_alloc_new w2 _))]
    rfl
  · intro _
    refine ⟨w2.heap.size + 1, 0, rfl, by simp, fun i hi => ?_⟩
    rw [Nat.zero_add, cell_of_row _ _ _ _ _ _ (heap_at_alloc (by simp))]
    simp
  rintro e w3 ⟨A3, c3, rfl, hr3, hb3⟩
  have HR3 := Lib.hid (own_rowA hr3)
  have HB3 : Hid (Below w.heap.size w w3) := bstep (((HB2.out).alloc (by have := HS2.out; omega) _).alloc (by have := HS2.out; simp; omega) _) hb3
  have HG3 : Hid (w3.heap[w.heap.size]? = some (.cells dc 23 (0, 0))) := (hb3.block _ (by have := HS2.out; simp; omega)).trans ((Below.heap_alloc _ _ _ (by have := HS2.out; simp; omega)).trans ((Below.heap_alloc _ _ _ (by have := HS2.out; omega)).trans HG2.out))
  clear hr3 hb3
  dsimp only
  go_upto_region 3 with fail
  obtain ⟨pg, hpg⟩ := append0 [⟨#[]⟩]
  obtain ⟨z, hz⟩ : ∃ z, z = zer 40 := ⟨_, rfl⟩
  have hzs : z.size ≤ 200 := by rw [hz, zer40]; decide
  have HT : Hid (∀ w', Calls Tryd.prog 104 #[.int .i64 40] w' fun e w'' => e = .returned (.string z) ∧ Below w'.heap.size w' w'') := fun w' => by rw [hz]; exact text_any 40 w' (by decide)
  obtain ⟨hc, hhc⟩ : ∃ hc, hc = (⟨0, 1, 1, 0, 0, 0, 0⟩ : Hd).cells := ⟨_, rfl⟩
  have hcz : hc.size = 7 := by rw [hhc]; rfl
  have hc1 : Ones hc := by unfold Ones; rw [hhc]; exact hd_one _
  have HHC := Lib.hid hhc
  have HAP : Hid (∀ a w', w'.heap[a]? = some (.cells #[.string ⟨#[]⟩] 9 (0, 0)) → Calls Tryd.prog 52 #[.iface 32 (.slice (some ⟨a, 0, none⟩) 1 1), .agg #[.int .i64 0, .int .i64 0, .int .i64 0, .int .i64 0, .int .i64 0, .int .i64 0, .int .i64 0], .agg dc, .string z] w' fun e w'' => ∃ A5 c5, e = .returned (.tuple #[.agg hc, .slice A5 1 c5, .int .i64 128, .int .i64 0]) ∧ RowA w'' A5 (wrCells [(1, pg)]) ∧ Below w'.heap.size w' w'') := by
    show ∀ _, _
    intro a w' h
    have := append_any (some ⟨a, 0, none⟩) 1 [⟨#[]⟩] hd0 ds0 z w' (by decide) memE (strE h) (by omega)
    rw [hz, hpg, ← HDC.out, ← hz] at this
    rw [HHC.out]
    exact this
  have HKS : Hid (∀ w', Below w3.heap.size w3 w' → Below w3.heap.size w3 w' ∧ w'.heap[w.heap.size]? = some (.cells dc 23 (0, 0))) := fun w' hb => ⟨hb, (hb.block _ (blk_lt HG3.out)).trans HG3.out⟩
  have hds := HDS.out
  clear hz hpg hzs hhc
  go_cut [4, 5, 6, 7] (fun v4 v5 v6 v7 wx => ∃ g A5 c5, v4 = .pointer (some ⟨g, 0, none⟩) ∧ v5 = .slice A5 1 c5 ∧ v6 = .int .i64 128 ∧ v7 = .int .i64 0 ∧ Laid w3 wx g hc A5 [(1, pg)])
  case first =>
    go_region_held_law (fun w' => Below w3.heap.size w3 w' ∧ w'.heap[w.heap.size]? = some (.cells dc 23 (0, 0)))
      ((refine HKS.out _ ?_; first | with_reducible exact (Below.refl _ _).drew | with_reducible exact bstep (‹Below w3.heap.size w3 _ ∧ _›).1 hb5 | with_reducible exact bstep (‹Below w3.heap.size w3 _ ∧ _›).1 hbT | with_reducible exact keep_alloc (‹Below w3.heap.size w3 _ ∧ _›).1 _ | with_reducible exact keep_alloc_drew (‹Below w3.heap.size w3 _ ∧ _›).1 _ | with_reducible exact keep_setRow (‹Below w3.heap.size w3 _ ∧ _›).1 _ (by first | exact Nat.le_refl _ | (simp; done) | omega | (simp; omega)) _))
      (first
        | (go_at_call 104; with_reducible_and_instances refine (HT.out _).mono ?_; rintro e wt ⟨rfl, hbT⟩; have hzT : w3.heap.size ≤ wt.heap.size := (bstep (‹Below w3.heap.size w3 _ ∧ _›).1 hbT).size)
        | (go_at_call 52; refine (HAP.out _ _ (by first | exact heap_at_alloc (o := Obj.cells #[.string ⟨#[]⟩] 9) (by first | rfl | (simp; done)) | exact alloc_at (heap_at_alloc (o := Obj.cells #[.string ⟨#[]⟩] 9) (by first | rfl | (simp; done))) | exact block_at hbT (heap_at_alloc (o := Obj.cells #[.string ⟨#[]⟩] 9) (by first | rfl | (simp; done))) | exact block_at hbT (alloc_at (heap_at_alloc (o := Obj.cells #[.string ⟨#[]⟩] 9) (by first | rfl | (simp; done)))) | exact alloc_at (block_at hbT (heap_at_alloc (o := Obj.cells #[.string ⟨#[]⟩] 9) (by first | rfl | (simp; done)))))).mono ?_; rintro e w5 ⟨A5, c5, rfl, hr5, hb5⟩; have hB5 := bstep (‹Below w3.heap.size w3 _ ∧ _›).1 hb5; have hz5 : w3.heap.size ≤ w5.heap.size := hB5.size; first | (have hq5 : w5.heap[_]? = some (Obj.cells #[.int .i64 0, .int .i64 0, .int .i64 0, .int .i64 0, .int .i64 0, .int .i64 0, .int .i64 0] 30 (0, 0)) := block_at hb5 (by first | exact heap_alloc_new _ (Obj.cells #[.int .i64 0, .int .i64 0, .int .i64 0, .int .i64 0, .int .i64 0, .int .i64 0, .int .i64 0] 30) | exact alloc_at (heap_alloc_new _ (Obj.cells #[.int .i64 0, .int .i64 0, .int .i64 0, .int .i64 0, .int .i64 0, .int .i64 0, .int .i64 0] 30)) | exact block_at hbT (heap_alloc_new _ (Obj.cells #[.int .i64 0, .int .i64 0, .int .i64 0, .int .i64 0, .int .i64 0, .int .i64 0, .int .i64 0] 30)) | exact block_at hbT (alloc_at (heap_alloc_new _ (Obj.cells #[.int .i64 0, .int .i64 0, .int .i64 0, .int .i64 0, .int .i64 0, .int .i64 0, .int .i64 0] 30))) | exact alloc_at (block_at hbT (heap_alloc_new _ (Obj.cells #[.int .i64 0, .int .i64 0, .int .i64 0, .int .i64 0, .int .i64 0, .int .i64 0, .int .i64 0] 30)))); try simp only [World.size_alloc] at hq5) | skip))
    all_goals
      go_wp2
      go_meet
      refine ⟨_, _, _, rfl, rfl, rfl, rfl, ?_⟩
      first | exact Laid.behind hd0_nostr hr5 hB5 | exact Laid.ahead hq5 hd0_nostr hr5 hB5 (by first | exact Nat.le_refl _ | (simp; done) | omega | (simp; omega))
  case rest =>
    obtain ⟨g, A5, c5, rfl, rfl, rfl, rfl, hld⟩ := hcut
    have HLD := Lib.hid hld
    have HBC : Hid (Below w.heap.size w wc) := bstep HB3.out hld.bel
    obtain ⟨b, o, rfl, hb1, hcl⟩ := hld.wr (by simp [wrCells])
    have hc0 : wc.cell? ⟨b, o, none⟩ = some (.int .i64 1) := hcl 0 (by simp [wrCells])
    have HCB : Hid (∀ w', Below wc.heap.size wc w' → w'.cell? ⟨b, o, none⟩ = some (.int .i64 1)) := fun w' hb => (hb.cell (p := ⟨b, o, none⟩) hb1).trans hc0
    have HINT : Hid (∀ w' q, Below wc.heap.size wc w' → w'.heap[q]? = some (.cells #[.int .i64 128, .int .i64 168, .int .i64 256, .int .i64 296] 3 (0, 0)) → Calls Tryd.prog 63 #[.slice A3 4 c3, .slice (some ⟨q, 0, none⟩) 4 4] w' fun e w'' => e = .returned (.bool true) ∧ Below w'.heap.size w' w'') := by
      show ∀ _ _, _
      intro w' q hb hq
      exact sameInts_any A3 (some ⟨q, 0, none⟩) c3 4 [128, 168, 256, 296] [128, 168, 256, 296] w' (by decide) ((HR3.out.keep HLD.out.bel).keep hb) (fun _ => ⟨q, 0, rfl, blk_lt hq, fun i _ => by rw [Nat.zero_add, cell_of_row _ _ _ _ _ _ hq]; simp⟩)
    have HBH : Hid (Tryd.prog.built 30 [(1, .int .i64 1), (2, .int .i64 1)] = some hc) := by show _ = _; rw [HHC.out]; kernel_rfl
    have heq : ∀ w, (binOp .eql 30 (.agg hc) (.agg hc)).run Tryd.prog w = .ok (.bool true) w := fun w => by rw [HHC.out, eql_hd]; simp
    have heq2 : ∀ w, (Op.equalIn 10000 30 (.agg hc) (.agg hc)).run Tryd.prog w = .ok true w := fun w => by rw [HHC.out, equalIn_hd]; simp
    clear hld hcl hc0
    go_wp2_with (first
      | (go_at_call 63; refine (HINT.out _ wc.heap.size (keep_alloc (Below.refl _ _) _) (heap_alloc_new _ _)).mono ?_; rintro e w6 ⟨rfl, hb6⟩; have HB6 : Hid (Below wc.heap.size wc w6) := bstep (keep_alloc (Below.refl _ _) _) hb6; have hcc := HCB.out w6 HB6.out; have HL6 := Lib.hid (HLD.out.keep HB6.out); clear hb6)
      | (refine wpl_buildW 30 _ rfl rfl [(1, .int .i64 1), (2, .int .i64 1)] hc (by kernel_rfl) HBH.out ?_)
      | (refine wpl_load_row 30 _ rfl rfl g rfl 30 hc (0, 0) _ HL6.out.row Tryd.underlying30 (by rw [hcz]; exact info30) ?_) | fail)
    go_ret
    exact ⟨rfl, bstep HBC.out HB6.out⟩
end Go.Proofs.YtnkhifgppcnmkaaDoor

/- Walks: EncodeSlots. -/
import Derived.Test.YtnkhifgppcnmkaaDoorMemB
import Derived.Test.YtnkhifgppcnmkaaDoorIvE
import Derived.Test.YtnkhifgppcnmkaaDoorShelf
namespace Go.Proofs.YtnkhifgppcnmkaaDoor
open Go.RowKit Iv

/-- The cells of slots. -/
def sltCells (l : List Slt) : List Value := l.flatMap fun x => [.bool x.1, .string x.2]

theorem sltCells_length (l : List Slt) : (sltCells l).length = 2 * l.length := by
  induction l with
  | nil => rfl
  | cons x l ih => rw [show sltCells (x :: l) = [.bool x.1, .string x.2] ++ sltCells l from rfl, List.length_append, ih]; simp; omega

theorem sltCells_get (l : List Slt) (i : Nat) (h : i < l.length) : (sltCells l)[2 * i]? = some (.bool (sltAt l i).1) ∧ (sltCells l)[2 * i + 1]? = some (.string (sltAt l i).2) := by
  induction l generalizing i with
  | nil => simp at h
  | cons x l ih =>
    have e : sltCells (x :: l) = .bool x.1 :: .string x.2 :: sltCells l := rfl
    rw [e]
    cases i with
    | zero => exact ⟨rfl, rfl⟩
    | succ i =>
      have := ih i (by simpa using h)
      rw [show 2 * (i + 1) = 2 * i + 1 + 1 by omega, List.getElem?_cons_succ, List.getElem?_cons_succ, List.getElem?_cons_succ, List.getElem?_cons_succ]
      exact this

theorem slots_at {w : World} {A : Option Addr} {l : List Slt} (h : RowA w A (sltCells l)) (i : Nat) (hi : i < l.length) :
    ∃ b o, A = some ⟨b, o, none⟩ ∧ b < w.heap.size ∧ w.cell? ⟨b, o + i * 2, none⟩ = some (.bool (sltAt l i).1) ∧ w.cell? ⟨b, o + i * 2 + 1, none⟩ = some (.string (sltAt l i).2) := by
  have hl := sltCells_length l
  obtain ⟨b, o, rfl, hlt, hc⟩ := h (by omega)
  obtain ⟨h1, h2⟩ := sltCells_get l i hi
  refine ⟨b, o, rfl, hlt, ?_, ?_⟩
  · rw [hc (i * 2) (by omega), Nat.mul_comm i 2, h1]
  · rw [Nat.add_assoc, hc (i * 2 + 1) (by omega), Nat.mul_comm i 2, h2]

theorem fieldC_any (w : World) (g bb size : Nat) (cs f : List UInt8) (c n : Nat) (ci ni : Int) (hci : ci = c) (hni : ni = n) (h : PgC w g bb size cs f) (hf : cs.length + f.length + 7 ≤ size) (hs : size ≤ 1000) (hc : c < 256) (hn : n < 65536) :
    Calls Tryd.prog 93 #[.pointer (some ⟨g, 0, none⟩), .int .u8 ci, .int .i64 ni] w fun e w' => e = .returned (.tuple #[]) ∧ PgC w' g bb size cs (fld c n ++ f) ∧ Chg (PS g bb) w w' := by
  subst hci
  subst hni
  refine (field_any w g bb size _ _ _ n c h (by omega) (by omega) hs hc hn).mono ?_
  rintro e w' ⟨rfl, hp, hch⟩
  refine ⟨rfl, ?_, hch⟩
  have e : ∀ (l : Nat) (x : List UInt8), 3 ≤ l → set2 ((cs ++ (List.replicate l 0 ++ x)).set (cs.length + l - 3) (UInt8.ofNat c)) (cs.length + l - 3 + 1) n = cs ++ (List.replicate (l - 3) 0 ++ (fld c n ++ x)) := by
    intro l x hl
    have := field_text l c n x hl
    unfold set2 at this ⊢
    rw [List.set_append_right _ _ (by omega), List.set_append_right _ _ (by omega), List.set_append_right _ _ (by omega)]
    rw [show cs.length + l - 3 - cs.length = l - 3 by omega, show cs.length + l - 3 + 1 - cs.length = l - 3 + 1 by omega, show cs.length + l - 3 + 1 + 1 - cs.length = l - 3 + 1 + 1 by omega, this]
  rw [show size - 4 - f.length - 3 = cs.length + (size - 4 - cs.length - f.length) - 3 by omega, e _ _ (by omega)] at hp
  unfold PgC
  rw [List.length_append, fld_length, show size - 4 - cs.length - (3 + f.length) = size - 4 - cs.length - f.length - 3 by omega, show size - 4 - (3 + f.length) = cs.length + (size - 4 - cs.length - f.length) - 3 by omega, List.append_assoc]
  exact hp

theorem repeat_zeros (c : Nat) : Lib.repeatL (ByteArray.mk #[0]).data.toList c = List.replicate c 0 := by
  induction c with
  | zero => rfl
  | succ c ih => rw [List.replicate_succ, ← ih]; rfl

theorem repeat_any (c : Nat) (ci : Int) (hci : ci = c) (w : World) (hc : c ≤ 1000) :
    Calls Tryd.prog 101 #[.string { data := #[0] }, .int .i64 ci] w fun e w' => e = .returned (.string (ofL (List.replicate c 0))) ∧ Below w.heap.size w w' := by
  subst hci
  have := Tryd.strings_Repeat ⟨#[0]⟩ c w (by omega) (by show 1 * c ≤ _; omega)
  rw [repeat_zeros] at this
  exact this
end Go.Proofs.YtnkhifgppcnmkaaDoor

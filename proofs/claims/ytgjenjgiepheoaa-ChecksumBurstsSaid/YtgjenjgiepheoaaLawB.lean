/- The laws on numbers, seals and bursts: what Open answers, and the walks. -/
import Derived.Test.YtgjenjgiepheoaaWalksE
import Derived.Test.YtgjenjgiepheoaaMathB
import Derived.Test.YtgjenjgiepheoaaLawA
namespace Go.Proofs.Ytgjenjgiepheoaa
open Go.RowKit Crc

theorem numOf_bytes (n : Nat) (h : n < 4294967296) : numOf (bytesOf n) = n := by
  unfold numOf
  rw [dif_pos (bytesOf_size n)]
  show (UInt8.ofNat n).toNat + 256 * (UInt8.ofNat (n / 256)).toNat + 65536 * (UInt8.ofNat (n / 65536)).toNat + 16777216 * (UInt8.ofNat (n / 16777216)).toNat = n
  simp only [UInt8.toNat_ofNat']
  omega

theorem four (t : ByteArray) (h : t.size = 4) : ∃ a b c d, t = ⟨#[a, b, c, d]⟩ := by
  obtain ⟨⟨l⟩⟩ := t
  match l, h with
  | [a, b, c, d], _ => exact ⟨a, b, c, d, rfl⟩

theorem numOf_four (a b c d : UInt8) : numOf ⟨#[a, b, c, d]⟩ = num4 a b c d := rfl

theorem bytes_numOf (t : ByteArray) (h : t.size = 4) : bytesOf (numOf t) = t := by
  obtain ⟨a, b, c, d, rfl⟩ := four t h
  rw [numOf_four]
  have ha := a.toNat_lt; have hb := b.toNat_lt; have hc := c.toNat_lt; have hd := d.toNat_lt
  unfold bytesOf num4
  congr 1
  simp only [Array.mk.injEq, List.cons.injEq, and_true]
  refine ⟨?_, ?_, ?_, ?_⟩ <;> (apply UInt8.toNat_inj.1; simp only [UInt8.toNat_ofNat']; omega)

theorem split_at (s : ByteArray) (n : Nat) (hn : s.size = n + 4) : s.extract 0 n ++ s.extract n (n + 4) = s := by
  apply ByteArray.ext
  simp [← hn]

theorem data_front (s : ByteArray) (n : Nat) : (s.extract 0 n).data.toList = s.data.toList.take n := by simp

theorem append_inj {a b c : ByteArray} (h : a ++ b = a ++ c) : b = c := by
  have h1 := congrArg (fun x : ByteArray => x.data.toList) h
  simp at h1
  exact ByteArray.ext h1

/-- A sealed text is the seal of its front. -/
theorem sealed_seal (s : ByteArray) (n : Nat) (hn : s.size = n + 4) : isSealed s n ↔ sealOf (s.extract 0 n) = s := by
  have hb : (s.extract n (n + 4)).size = 4 := by rw [ByteArray.size_extract]; omega
  unfold isSealed sealOf
  rw [data_front]
  constructor
  · intro h
    rw [← h, bytes_numOf _ hb]
    exact split_at s n hn
  · intro h
    have h1 := append_inj (h.trans (split_at s n hn).symm)
    rw [← h1, numOf_bytes _ (sum_lt _)]

theorem seal_size (s : ByteArray) : (sealOf s).size = s.size + 4 := by
  unfold sealOf
  rw [ByteArray.size_append, bytesOf_size]

theorem seal_front (s : ByteArray) : (sealOf s).extract 0 s.size = s := by
  unfold sealOf
  apply ByteArray.ext
  simp

theorem seal_sealed (s : ByteArray) : isSealed (sealOf s) s.size :=
  (sealed_seal _ _ (seal_size s)).2 (by rw [seal_front])

/-- What Open answers. -/
noncomputable def openOf (s : ByteArray) : ByteArray × Int := by
  classical
  exact if 4 ≤ s.size ∧ isSealed s (s.size - 4) then (s.extract 0 (s.size - 4), 0) else (ByteArray.empty, 11)

theorem openOf_good {s : ByteArray} {n : Nat} (hn : s.size = n + 4) (h : isSealed s n) : openOf s = (s.extract 0 n, 0) := by
  unfold openOf
  rw [show s.size - 4 = n by omega, if_pos ⟨by omega, h⟩]
theorem openOf_bad {s : ByteArray} {n : Nat} (hn : s.size = n + 4) (h : ¬ isSealed s n) : openOf s = (ByteArray.empty, 11) := by
  unfold openOf
  rw [show s.size - 4 = n by omega, if_neg (fun x => h x.2)]
theorem openOf_short {s : ByteArray} (hn : s.size < 4) : openOf s = (ByteArray.empty, 11) := by
  unfold openOf
  rw [if_neg (fun x => by have := x.1; omega)]

theorem open_any (s : ByteArray) (w : World) (hs : s.size ≤ 900) :
    Calls Try.prog 21 #[.string s] w fun e w' => e = .returned (.tuple #[.string (openOf s).1, .int .i64 (openOf s).2]) ∧ Below w.heap.size w w' := by
  by_cases h4 : s.size < 4
  · rw [openOf_short h4]; exact open_short s w h4
  · obtain ⟨n, hn⟩ : ∃ n, s.size = n + 4 := ⟨s.size - 4, by omega⟩
    by_cases hg : isSealed s n
    · rw [openOf_good hn hg]; exact open_good s n w hn (by omega) hg
    · rw [openOf_bad hn hg]; exact open_bad s n w hn (by omega) hg

theorem refOpen_any (s : ByteArray) (w : World) (hs : s.size ≤ 900) :
    Calls Try.prog 22 #[.string s] w fun e w' => e = .returned (.tuple #[.string (openOf s).1, .int .i64 (openOf s).2]) ∧ Below w.heap.size w w' := by
  by_cases h4 : s.size < 4
  · rw [openOf_short h4]; exact refOpen_short s w h4
  · obtain ⟨n, hn⟩ : ∃ n, s.size = n + 4 := ⟨s.size - 4, by omega⟩
    by_cases hg : isSealed s n
    · rw [openOf_good hn hg]; exact refOpen_good s n w hn (by omega) ((sealed_seal s n hn).1 hg)
    · rw [openOf_bad hn hg]; exact refOpen_bad s n w hn (by omega) (fun e => hg ((sealed_seal s n hn).2 e))

theorem open_seal (s : ByteArray) : openOf (sealOf s) = (s, 0) := by
  rw [openOf_good (seal_size s) (seal_sealed s), seal_front]

/-- What comes out of an opened text seals to it. -/
theorem open_cases (s : ByteArray) : (openOf s = (ByteArray.empty, 11)) ∨ ((openOf s).2 = 0 ∧ sealOf (openOf s).1 = s ∧ (openOf s).1.size ≤ s.size) := by
  by_cases h4 : s.size < 4
  · exact .inl (openOf_short h4)
  · obtain ⟨n, hn⟩ : ∃ n, s.size = n + 4 := ⟨s.size - 4, by omega⟩
    by_cases hg : isSealed s n
    · rw [openOf_good hn hg]
      exact .inr ⟨rfl, (sealed_seal s n hn).1 hg, by rw [ByteArray.size_extract]; omega⟩
    · exact .inl (openOf_bad hn hg)
end Go.Proofs.Ytgjenjgiepheoaa

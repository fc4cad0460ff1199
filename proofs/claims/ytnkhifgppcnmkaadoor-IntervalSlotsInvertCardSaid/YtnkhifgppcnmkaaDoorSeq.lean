/- Equality of structs: slots, writes, pairs, headers. -/
import Derived.Test.YtnkhifgppcnmkaaDoorMemB
import Derived.Laws.StructEq
namespace Go.Proofs.YtnkhifgppcnmkaaDoor
open Go.RowKit

section
variable {P : Program} {d : Nat} {xs ys : Array Value} {f : Field} {fs : List Field} {a b : Value} {r s : Bool} {w : World}
theorem eqf_cons (hn : (f.name == "_") = false) (ha : (part f.type xs f.offset).run P w = .ok a w) (hb : (part f.type ys f.offset).run P w = .ok b w) (he : (Op.equalIn d f.type a b).run P w = .ok r w) (hr : (Op.eqFields d xs ys fs).run P w = .ok s w) : (Op.eqFields d xs ys (f :: fs)).run P w = .ok (r && s) w := by
  have hn' : f.name ≠ "_" := by simpa using hn
  rw [Op.eqFields]
  simp only [if_pos hn', Sem.run_bind, ha, hb, he, Result.andThen_ok]
  cases r
  · simp
  · simpa using hr
theorem eqf_nil : (Op.eqFields d xs ys []).run P w = .ok true w := by simp [Op.eqFields]
end
theorem part_one (t : Nat) (xs : Array Value) (off : Nat) (v : Value) (w : World) (ha : (isAgg t).run Tryd.prog w = .ok false w) (hv : xs[off]? = some v) : (part t xs off).run Tryd.prog w = .ok v w := by
  simp [part, ha, hv]

/-- What an equation of structs answers, out of the fields' answers. -/
theorem neq_of {t : Nat} {fs : Array Field} {xs ys : Array Value} {r : Bool} (hu : Tryd.prog.underlying t = some (.struct fs)) (hp : Tryd.prog.stoodInHeld t = false) (w : World)
    (h : (Op.eqFields 9999 xs ys fs.toList).run Tryd.prog w = .ok r w) : (binOp .neq t (.agg xs) (.agg ys)).run Tryd.prog w = .ok (.bool !r) w := by
  have hf : Tryd.prog.fieldsOf t = fs := by simp [Program.fieldsOf, hu]
  rw [run_neq_struct, run_equalIn_struct (P := Tryd.prog) w 9999 t xs ys (by rw [hf]; exact hu) hp, hf, h]
  rfl

theorem i_part (xs : Array Value) (off : Nat) (v : Value) (w : World) (hv : xs[off]? = some v) : (part 3 xs off).run Tryd.prog w = .ok v w := part_one 3 xs off v w (Tryd.isAgg3 w) hv
theorem s_part (xs : Array Value) (off : Nat) (v : Value) (w : World) (hv : xs[off]? = some v) : (part 9 xs off).run Tryd.prog w = .ok v w := part_one 9 xs off v w (Tryd.isAgg9 w) hv
theorem b_part (xs : Array Value) (off : Nat) (v : Value) (w : World) (hv : xs[off]? = some v) : (part 4 xs off).run Tryd.prog w = .ok v w := part_one 4 xs off v w (Tryd.isAgg4 w) hv
theorem i_eq (d : Nat) (a b : Int) (w : World) : (Op.equalIn (d + 1) 3 (.int .i64 a) (.int .i64 b)).run Tryd.prog w = .ok (a == b) w := run_equalIn_int w d 3 .i64 .i64 a b Tryd.underlying3
theorem s_eq (d : Nat) (a b : ByteArray) (w : World) : (Op.equalIn (d + 1) 9 (.string a) (.string b)).run Tryd.prog w = .ok (a.toList == b.toList) w := run_equalIn_string w d 9 a b Tryd.underlying9
theorem b_eq (d : Nat) (a b : Bool) (w : World) : (Op.equalIn (d + 1) 4 (.bool a) (.bool b)).run Tryd.prog w = .ok (a == b) w := run_equalIn_bool' w d 4 a b Tryd.underlying4

theorem strEq_dec (a b : ByteArray) : (a.toList == b.toList) = decide (a = b) := by
  rw [ByteArray.toList_eq, ByteArray.toList_eq]
  by_cases h : a = b
  · subst h; simp
  · rw [decide_eq_false h, beq_eq_false_iff_ne]
    exact fun e => h (ByteArray.ext (Array.toList_inj.1 e))

/-- Two slots, '!='. -/
theorem neq_slot (a c : Bool) (b d : ByteArray) (w : World) : (binOp .neq 68 (.agg #[.bool a, .string b]) (.agg #[.bool c, .string d])).run Tryd.prog w = .ok (.bool !decide ((a, b) = (c, d))) w := by
  have h := neq_of (t := 68) Tryd.underlying68 (by kernel_rfl) w (xs := #[.bool a, .string b]) (ys := #[.bool c, .string d])
    (eqf_cons (by decide) (b_part _ _ _ w rfl) (b_part _ _ _ w rfl) (b_eq 9998 a c w) (eqf_cons (by decide) (s_part _ _ _ w rfl) (s_part _ _ _ w rfl) (s_eq 9998 b d w) eqf_nil))
  have e : (a == c && (b.toList == d.toList && true)) = decide ((a, b) = (c, d)) := by
    rw [strEq_dec]
    by_cases h1 : a = c <;> by_cases h2 : b = d <;> simp [h1, h2]
  rw [h, e]

/-- Two writes, '!='. -/
theorem neq_write (a c : Int) (b d : ByteArray) (w : World) : (binOp .neq 97 (.agg #[.int .i64 a, .string b]) (.agg #[.int .i64 c, .string d])).run Tryd.prog w = .ok (.bool !decide ((a, b) = (c, d))) w := by
  have h := neq_of (t := 97) Tryd.underlying97 (by kernel_rfl) w (xs := #[.int .i64 a, .string b]) (ys := #[.int .i64 c, .string d])
    (eqf_cons (by decide) (i_part _ _ _ w rfl) (i_part _ _ _ w rfl) (i_eq 9998 a c w) (eqf_cons (by decide) (s_part _ _ _ w rfl) (s_part _ _ _ w rfl) (s_eq 9998 b d w) eqf_nil))
  have e : (a == c && (b.toList == d.toList && true)) = decide ((a, b) = (c, d)) := by
    rw [strEq_dec]
    by_cases h1 : a = c <;> by_cases h2 : b = d <;> simp [h1, h2]
  rw [h, e]

/-- Two pairs, '!='. -/
theorem neq_pair (a c b d : ByteArray) (w : World) : (binOp .neq 48 (.agg #[.string a, .string b]) (.agg #[.string c, .string d])).run Tryd.prog w = .ok (.bool !decide ((a, b) = (c, d))) w := by
  have h := neq_of (t := 48) Tryd.underlying48 (by kernel_rfl) w (xs := #[.string a, .string b]) (ys := #[.string c, .string d])
    (eqf_cons (by decide) (s_part _ _ _ w rfl) (s_part _ _ _ w rfl) (s_eq 9998 a c w) (eqf_cons (by decide) (s_part _ _ _ w rfl) (s_part _ _ _ w rfl) (s_eq 9998 b d w) eqf_nil))
  have e : (a.toList == c.toList && (b.toList == d.toList && true)) = decide ((a, b) = (c, d)) := by
    rw [strEq_dec, strEq_dec]
    by_cases h1 : a = c <;> by_cases h2 : b = d <;> simp [h1, h2]
  rw [h, e]
end Go.Proofs.YtnkhifgppcnmkaaDoor

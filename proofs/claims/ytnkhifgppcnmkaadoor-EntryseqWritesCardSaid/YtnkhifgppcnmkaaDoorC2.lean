/- Walks of chapter 18: pages, Append. -/
import Derived.Test.YtnkhifgppcnmkaaDoorC1
import Derived.Test.YtnkhifgppcnmkaaDoorB5
import Derived.Test.YtnkhifgppcnmkaaDoorA3
import Derived.Laws.CopyOwn
import Derived.Deep.RegionHeldLaw
import Derived.Deep.RegionLaw
import Derived.Deep.CutRange
import Derived.Deep.DeepCutAuto

/- Walks of chapter 18: a cluster that is opened. -/
namespace Go.Proofs.YtnkhifgppcnmkaaDoor
open Go.RowKit Iv

/-- The cells of a cluster. -/
def clCells (p : Value) (h : Hd) (d : Ds) : Array Value := #[p, .int .i64 h.app, .int .i64 h.cnt, .int .i64 h.fin, .int .i64 h.root, .int .i64 h.ht, .int .i64 h.spl, .int .i64 h.areas, .int .i64 d.id, .int .i64 d.org, .int .i64 d.fmt, .int .i64 d.len, .int .i64 d.blk, .int .i64 d.kat, .int .i64 d.klen, .int .i64 d.itv, .int .i64 d.area, .int .i64 d.fint, .int .i64 d.farea, .int .i64 d.base, .int .i64 d.aat, .int .i64 d.alen, .bool d.uniq, .int .i64 d.cls, .string d.vol, .string d.owner, .int .i64 d.cre, .int .i64 d.expi, .bool d.arch]
noncomputable def zeroCl : Array Value := (Tryd.prog.built 146 []).getD #[]

theorem clCells_size (p : Value) (h : Hd) (d : Ds) : (clCells p h d).size = 29 := rfl
theorem zeroCl_size : zeroCl.size = 29 := by kernel_rfl
theorem zeroCl_one : zeroCl.all (·.oneCell') = true := by kernel_rfl
/-- Pages in memory, as the interface holds them. -/
def memV (A : Option Addr) (n c : Nat) : Value := .iface 32 (.slice A n c)
theorem built_cl (A : Option Addr) (n c : Nat) (h : Hd) (d : Ds) : Tryd.prog.built 146 [(0, memV A n c), (1, .agg h.cells), (2, .agg d.cells)] = some (clCells (memV A n c) h d) := by kernel_rfl
theorem clCells_one (A : Option Addr) (n c : Nat) (h : Hd) (d : Ds) : (clCells (memV A n c) h d).all (·.oneCell') = true := by kernel_rfl
theorem built_zero : Tryd.prog.built 146 [] = some zeroCl := by kernel_rfl
theorem info146 : (Tryd.prog.info? 146).map (·.size) = some 29 := by kernel_rfl

/-- A struct is built. -/
theorem wpl_build {ops : Array Oper} {rest : List Oper} {o : Oper} {a : Act} {w : World} {Q : Exit → Act → World → Prop} (t : TypeId) (parts : Array (Nat × Operand)) (ho : o.op = .build t parts) (hg : o.guard = none) (vs : List (Nat × Value)) (cs : Array Value)
    (hv : (parts.map fun (i, x) => (i, a.eval x)).toList = vs) (hf : Tryd.prog.built t vs = some cs)
    (h : wpList Tryd.prog ops Q rest (a.put o.dst (.agg cs)) w) : wpList Tryd.prog ops Q (o :: rest) a w := by
  subst hv
  refine wpList_build hg t parts ho (by rw [hf]; rfl) ?_
  rw [hf]
  exact h

/-- A result that lies in a cell, and a second one. -/
theorem results_cell2 {fn : Func} {p q : Tmp} {ty : TypeId} (h : fn.results = #[.cell p ty, .tmp q]) (tmps : Array Value) (w : World) (g : Nat) (t : TypeId) (cs : Array Value) (fr : Nat × Nat) (fs : Array Field)
    (hp : tmps.getD p undef = .pointer (some ⟨g, 0, none⟩)) (hg : w.heap[g]? = some (.cells cs t fr))
    (hu : Tryd.prog.underlying ty = some (.struct fs)) (hi : (Tryd.prog.info? ty).map (·.size) = some cs.size) (v : Value) (hq : tmps.getD q undef = v) :
    (results fn tmps).run Tryd.prog w = .ok (.tuple #[.agg cs, v]) w := by
  subst hq
  have hp' : tmps[p]?.getD undef = .pointer (some ⟨g, 0, none⟩) := by simpa using hp
  simp [results, h, hp', asAddr, run_loadVar_row w g t ty cs fr _ hg hu rfl hi]
/-- What open answers. -/
def OpenTo (p : Value) (h : Hd) (d : Ds) (w : World) (k : Int) (e : Ending) (w' : World) : Prop :=
  ∃ cs, e = .returned (.tuple #[.agg cs, .int .i64 k]) ∧ (k = 0 → cs = clCells p h d) ∧ (k ≠ 0 → cs = zeroCl) ∧ Below w.heap.size w w'

set_option maxHeartbeats 800000 in
set_option maxRecDepth 100000 in
theorem open_any (A : Option Addr) (n c : Nat) (h : Hd) (d : Ds) (w : World) : Calls Tryd.prog 105 #[memV A n c, .agg h.cells, .agg d.cells] w (OpenTo (memV A n c) h d w (doorOf h d 1)) := by
  have HG : Hid (((w.alloc (.cells h.cells 30)).alloc (.cells d.cells 23)).heap[w.heap.size + 1]? = some (.cells d.cells 23 (0, 0))) := heap_at_alloc (by simp)
  have hds := d.size
  have hhs := h.size
  obtain ⟨r, hr⟩ : ∃ r, r = doorOf h d 1 := ⟨_, rfl⟩
  have HR1 : Hid (validOf d = false → r = 1) := by
    show _ → _
    intro e; rw [hr]; unfold doorOf; rw [if_pos (.inl e)]
  have HR2 : Hid (plainOf h = false → r = 1) := by
    show _ → _
    intro e; rw [hr]; unfold doorOf; rw [if_pos (.inr e)]
  have HR3 : Hid (validOf d = true → plainOf h = true → r = if d.org ≠ 1 then 7 else 0) := by
    show _ → _ → _
    intro e e2; rw [hr]; unfold doorOf; rw [if_neg (by simp [e, e2])]
  rw [← hr]
  clear hr
  obtain ⟨pv, hpv⟩ : ∃ pv, pv = memV A n c := ⟨_, rfl⟩
  have HPV := Lib.hid hpv
  rw [← hpv]
  clear hpv
  have HONE : Hid (∀ h d, (clCells pv h d).all (·.oneCell') = true) := by show ∀ _ _, _; intro h d; rw [HPV.out]; exact clCells_one A n c h d
  have HBU : Hid (Tryd.prog.built 146 [(0, pv), (1, .agg h.cells), (2, .agg d.cells)] = some (clCells pv h d)) := by show _ = _; rw [HPV.out]; exact built_cl A n c h d
  go_enter Tryd.func105, Tryd.ntmps105
  go_wp2_with (first | (refine wpl_load_row 23 _ rfl rfl (w.heap.size + 1) rfl 23 d.cells (0, 0) _ (by rw [Below.heap_alloc _ _ _ (by simp)]; exact HG.out) Tryd.underlying23 (by rw [Ds.size]; exact info23) ?_) | fail)
  refine (valid_at d _).mono ?_
  rintro e w1 ⟨rfl, hb1⟩
  have hgh : w1.heap[w.heap.size]? = some (.cells h.cells 30 (0, 0)) := (hb1.block _ (by simp; omega)).trans (by rw [Below.heap_alloc _ _ _ (by simp; omega), Below.heap_alloc _ _ _ (by simp)]; exact heap_alloc_new w _)
  have hgd : w1.heap[w.heap.size + 1]? = some (.cells d.cells 23 (0, 0)) := (hb1.block _ (by simp)).trans (by rw [Below.heap_alloc _ _ _ (by simp)]; exact HG.out)
  have hgz : ∃ Z : Array Value, Z.size = 29 ∧ w1.heap[w.heap.size + 1 + 1]? = some (.cells Z 146 (0, 0)) := ⟨_, rfl, (hb1.block _ (by simp)).trans (heap_at_alloc (by simp))⟩
  obtain ⟨Z, hZ, hgz⟩ := hgz
  have HB1 := Lib.hid (bstep ((((Below.refl _ _).alloc (Nat.le_refl _) _).alloc (by simp) _).alloc (by simp; omega) _) hb1)
  have hcn := cell_of_row _ _ 1 _ _ _ hgh
  have hfi := cell_of_row _ _ 2 _ _ _ hgh
  have hog := cell_of_row _ _ 1 _ _ _ hgd
  rw [Hd.cnt_at] at hcn
  rw [Hd.fin_at] at hfi
  rw [Ds.org_at] at hog
  have HGH := Lib.hid hgh
  have HGD := Lib.hid hgd
  have HGZ := Lib.hid hgz
  have HZ := Lib.hid hZ
  clear hb1 hgh hgd hgz hZ
  have HERR : Hid (∀ k, r = k → k ≠ 0 → OpenTo pv h d w r (.returned (.tuple #[.agg zeroCl, .int .i64 k])) (w1.setRow (w.heap.size + 1 + 1) zeroCl)) := by
    show ∀ _, _
    intro k e hk
    subst e
    exact ⟨_, rfl, fun h => absurd h hk, fun _ => rfl, below_setRow HB1.out (by omega) _⟩
  cases hv : validOf d with
  | false =>
    have HV := Lib.hid (HR1.out hv)
    clear hv
    go_wp2_with (first | (refine wpl_build 146 _ rfl rfl [] zeroCl (by kernel_rfl) built_zero ?_) | (refine wpList_store_row rfl 146 _ _ rfl (w.heap.size + 1 + 1) zeroCl rfl rfl 146 Z HGZ.out (by rw [zeroCl_size]; exact info146) (by rw [HZ.out, zeroCl_size]) zeroCl_one ?_) | fail)
    exact bodyPost_ret (v := .tuple #[.agg zeroCl, .int .i64 1]) (results_cell2 (p := 6) (q := 7) rfl _ _ (w.heap.size + 1 + 1) 146 zeroCl (0, 0) _ rfl (setRow_heap _ _ _ _ _ _ HGZ.out) Tryd.underlying146 (by rw [zeroCl_size]; exact info146) _ rfl) rfl (HERR.out _ HV.out (by decide))
  | true =>
    have HV := Lib.hid hv
    clear hv
    cases hp : plainOf h with
    | false =>
      have HP := Lib.hid (HR2.out hp)
      have hways : h.cnt < 0 ∨ (0 ≤ h.cnt ∧ 16777216 < h.cnt) ∨ (0 ≤ h.cnt ∧ h.cnt ≤ 16777216 ∧ h.fin < 0) ∨ (0 ≤ h.cnt ∧ h.cnt ≤ 16777216 ∧ 0 ≤ h.fin ∧ 16777216 < h.fin) := by
        unfold plainOf at hp
        simp at hp
        omega
      clear hp
      rcases hways with h1 | ⟨h1, h2⟩ | ⟨h1, h2, h3⟩ | ⟨h1, h2, h3, h4⟩
      · go_wp2_with (first | (refine wpl_build 146 _ rfl rfl [] zeroCl (by kernel_rfl) built_zero ?_) | (refine wpList_store_row rfl 146 _ _ rfl (w.heap.size + 1 + 1) zeroCl rfl rfl 146 Z HGZ.out (by rw [zeroCl_size]; exact info146) (by rw [HZ.out, zeroCl_size]) zeroCl_one ?_) | fail)
        exact bodyPost_ret (v := .tuple #[.agg zeroCl, .int .i64 1]) (results_cell2 (p := 6) (q := 7) rfl _ _ (w.heap.size + 1 + 1) 146 zeroCl (0, 0) _ rfl (setRow_heap _ _ _ _ _ _ HGZ.out) Tryd.underlying146 (by rw [zeroCl_size]; exact info146) _ rfl) rfl (HERR.out _ HP.out (by decide))
      · go_wp2_with (first | (refine wpl_build 146 _ rfl rfl [] zeroCl (by kernel_rfl) built_zero ?_) | (refine wpList_store_row rfl 146 _ _ rfl (w.heap.size + 1 + 1) zeroCl rfl rfl 146 Z HGZ.out (by rw [zeroCl_size]; exact info146) (by rw [HZ.out, zeroCl_size]) zeroCl_one ?_) | fail)
        exact bodyPost_ret (v := .tuple #[.agg zeroCl, .int .i64 1]) (results_cell2 (p := 6) (q := 7) rfl _ _ (w.heap.size + 1 + 1) 146 zeroCl (0, 0) _ rfl (setRow_heap _ _ _ _ _ _ HGZ.out) Tryd.underlying146 (by rw [zeroCl_size]; exact info146) _ rfl) rfl (HERR.out _ HP.out (by decide))
      · go_wp2_with (first | (refine wpl_build 146 _ rfl rfl [] zeroCl (by kernel_rfl) built_zero ?_) | (refine wpList_store_row rfl 146 _ _ rfl (w.heap.size + 1 + 1) zeroCl rfl rfl 146 Z HGZ.out (by rw [zeroCl_size]; exact info146) (by rw [HZ.out, zeroCl_size]) zeroCl_one ?_) | fail)
        exact bodyPost_ret (v := .tuple #[.agg zeroCl, .int .i64 1]) (results_cell2 (p := 6) (q := 7) rfl _ _ (w.heap.size + 1 + 1) 146 zeroCl (0, 0) _ rfl (setRow_heap _ _ _ _ _ _ HGZ.out) Tryd.underlying146 (by rw [zeroCl_size]; exact info146) _ rfl) rfl (HERR.out _ HP.out (by decide))
      · go_wp2_with (first | (refine wpl_build 146 _ rfl rfl [] zeroCl (by kernel_rfl) built_zero ?_) | (refine wpList_store_row rfl 146 _ _ rfl (w.heap.size + 1 + 1) zeroCl rfl rfl 146 Z HGZ.out (by rw [zeroCl_size]; exact info146) (by rw [HZ.out, zeroCl_size]) zeroCl_one ?_) | fail)
        exact bodyPost_ret (v := .tuple #[.agg zeroCl, .int .i64 1]) (results_cell2 (p := 6) (q := 7) rfl _ _ (w.heap.size + 1 + 1) 146 zeroCl (0, 0) _ rfl (setRow_heap _ _ _ _ _ _ HGZ.out) Tryd.underlying146 (by rw [zeroCl_size]; exact info146) _ rfl) rfl (HERR.out _ HP.out (by decide))
    | true =>
      have HP := Lib.hid (HR3.out HV.out hp)
      have hpl : (0 ≤ h.cnt ∧ h.cnt ≤ 16777216) ∧ (0 ≤ h.fin ∧ h.fin ≤ 16777216) := by
        unfold plainOf at hp
        simpa using hp
      obtain ⟨⟨h1, h2⟩, h3, h4⟩ := hpl
      clear hp
      by_cases ho : d.org = 1
      · have hn : (d.org != 1) = false := by simp [ho]
        have HO : Hid (r = 0) := by
          show _ = _
          rw [HP.out, if_neg (by simp [ho])]
        clear ho
        have HOK : Hid (OpenTo pv h d w r (.returned (.tuple #[.agg (clCells pv h d), .int .i64 0])) (w1.setRow (w.heap.size + 1 + 1) (clCells pv h d))) := by
          show OpenTo _ _ _ _ _ _ _
          rw [HO.out]
          exact ⟨_, rfl, fun _ => rfl, fun h => absurd rfl h, below_setRow HB1.out (by omega) _⟩
        go_wp2_with (first | (refine wpl_load_row 30 _ rfl rfl w.heap.size rfl 30 h.cells (0, 0) _ HGH.out Tryd.underlying30 (by rw [Hd.size]; exact info30) ?_) | (refine wpl_load_row 23 _ rfl rfl (w.heap.size + 1) rfl 23 d.cells (0, 0) _ HGD.out Tryd.underlying23 (by rw [Ds.size]; exact info23) ?_) | (refine wpl_build 146 _ rfl rfl [(0, pv), (1, .agg h.cells), (2, .agg d.cells)] (clCells pv h d) (by kernel_rfl) HBU.out ?_) | (refine wpList_store_row rfl 146 _ _ rfl (w.heap.size + 1 + 1) (clCells pv h d) rfl rfl 146 Z HGZ.out (by rw [clCells_size]; exact info146) (by rw [HZ.out, clCells_size]) (HONE.out h d) ?_) | fail)
        exact bodyPost_ret (v := .tuple #[.agg (clCells pv h d), .int .i64 0]) (results_cell2 (p := 6) (q := 7) rfl _ _ (w.heap.size + 1 + 1) 146 (clCells pv h d) (0, 0) _ rfl (setRow_heap _ _ _ _ _ _ HGZ.out) Tryd.underlying146 (by rw [clCells_size]; exact info146) _ rfl) rfl HOK.out
      · have hn : (d.org != 1) = true := by simp [ho]
        have HO : Hid (r = 7) := by
          show _ = _
          rw [HP.out, if_pos ho]
        clear ho
        go_wp2_with (first | (refine wpl_build 146 _ rfl rfl [] zeroCl (by kernel_rfl) built_zero ?_) | (refine wpList_store_row rfl 146 _ _ rfl (w.heap.size + 1 + 1) zeroCl rfl rfl 146 Z HGZ.out (by rw [zeroCl_size]; exact info146) (by rw [HZ.out, zeroCl_size]) zeroCl_one ?_) | fail)
        exact bodyPost_ret (v := .tuple #[.agg zeroCl, .int .i64 7]) (results_cell2 (p := 6) (q := 7) rfl _ _ (w.heap.size + 1 + 1) 146 zeroCl (0, 0) _ rfl (setRow_heap _ _ _ _ _ _ HGZ.out) Tryd.underlying146 (by rw [zeroCl_size]; exact info146) _ rfl) rfl (HERR.out _ HO.out (by decide))
end Go.Proofs.YtnkhifgppcnmkaaDoor

/- Walks of chapter 18: a page, and its records. -/
namespace Go.Proofs.YtnkhifgppcnmkaaDoor
open Go.RowKit Iv

theorem page_err (m : List ByteArray) (n : Int) (h : (pageOf m n).2 ≠ 0) : pageOf m n = (ByteArray.empty, 2) := by
  unfold pageOf at h ⊢
  split at h
  · rename_i hc; rw [if_pos hc]
  · exact absurd rfl h

set_option maxHeartbeats 800000 in
theorem page_any (A : Option Addr) (c : Nat) (m : List ByteArray) (n : Int) (w : World) (hm : m.length ≤ 9223372036854775807) (hs : StrsA w A m) :
    Calls Tryd.prog 147 #[.slice A m.length c, .int .i64 n] w fun e w' => e = .returned (.tuple #[.string (pageOf m n).1, .int .i64 (pageOf m n).2]) ∧ w = w' := by
  by_cases h : n < 0 ∨ (m.length : Int) ≤ n
  · have he : pageOf m n = (ByteArray.empty, 2) := by unfold pageOf; rw [if_pos h]
    rw [he]
    rcases h with h | h
    · go_enter Tryd.func147, Tryd.ntmps147
      go_wp2
      go_ret2
      exact ⟨rfl, rfl⟩
    · have h0 : 0 ≤ n := by omega
      go_enter Tryd.func147, Tryd.ntmps147
      go_wp2
      go_ret2
      exact ⟨rfl, rfl⟩
  · obtain ⟨k, rfl⟩ : ∃ k : Nat, n = k := ⟨n.toNat, by omega⟩
    have hk : k < m.length := by omega
    have he : pageOf m k = (m.getD k ByteArray.empty, 0) := by unfold pageOf; rw [if_neg h]; rfl
    rw [he]
    obtain ⟨b, o, rfl, hb, hc⟩ := hs (by omega)
    have hck := hc k hk
    obtain ⟨s, hs'⟩ : ∃ s, s = m.getD k ByteArray.empty := ⟨_, rfl⟩
    rw [← hs'] at hck ⊢
    clear hs' hc he h hs
    go_enter Tryd.func147, Tryd.ntmps147
    go_wp2
    go_ret2
    exact ⟨rfl, rfl⟩

theorem page_size (m : List ByteArray) (n : Int) (hz : ∀ s ∈ m, s.size ≤ 1000) : (pageOf m n).1.size ≤ 1000 := by
  unfold pageOf
  split
  · simp
  · rename_i h
    have : n.toNat < m.length := by omega
    simp only [List.getD, List.getElem?_eq_getElem this, Option.getD_some]
    exact hz _ (List.getElem_mem this)

/-- What load answers. -/
theorem load_cases (m : List ByteArray) (d : Ds) (n : Int) :
    ((pageOf m n).2 = 2 ∧ loadOf m d n = ([], 2)) ∨ ((pageOf m n).2 = 0 ∧ (decodeOf d.itv (pageOf m n).1).2 ≠ 0 ∧ (decodeOf d.itv (pageOf m n).1).1 = [] ∧ loadOf m d n = ([], 11)) ∨
      ((pageOf m n).2 = 0 ∧ (decodeOf d.itv (pageOf m n).1).2 = 0 ∧ (decodeOf d.itv (pageOf m n).1).1 = [] ∧ loadOf m d n = ([], 11)) ∨
      ((pageOf m n).2 = 0 ∧ (decodeOf d.itv (pageOf m n).1).2 = 0 ∧ (decodeOf d.itv (pageOf m n).1).1 ≠ [] ∧ loadOf m d n = ((decodeOf d.itv (pageOf m n).1).1, 0)) := by
  by_cases h1 : (pageOf m n).2 = 0
  · by_cases h2 : (decodeOf d.itv (pageOf m n).1).2 = 0
    · by_cases h3 : (decodeOf d.itv (pageOf m n).1).1 = []
      · exact .inr (.inr (.inl ⟨h1, h2, h3, by unfold loadOf; rw [if_neg (by simp [h1]), if_pos (.inr h3)]⟩))
      · exact .inr (.inr (.inr ⟨h1, h2, h3, by unfold loadOf; rw [if_neg (by simp [h1]), if_neg (by simp [h2, h3])]⟩))
    · exact .inr (.inl ⟨h1, h2, decode_err h2, by unfold loadOf; rw [if_neg (by simp [h1]), if_pos (.inl h2)]⟩)
  · refine .inl ⟨?_, ?_⟩
    · rw [page_err m n h1]
    · unfold loadOf; rw [if_pos h1, page_err m n h1]

set_option maxHeartbeats 800000 in
set_option maxRecDepth 100000 in
theorem refLoad_any (A : Option Addr) (c : Nat) (m : List ByteArray) (d : Ds) (n : Int) (w : World) (hm : m.length ≤ 9223372036854775807) (hz : ∀ s ∈ m, s.size ≤ 1000) (hs : StrsA w A m) :
    Calls Tryd.prog 110 #[.slice A m.length c, .agg d.cells, .int .i64 n] w fun e w' => DecodedO w (loadOf m d n) e w' := by
  have HPZ := Lib.hid (page_size m n hz)
  have HPG : Hid (∀ w', Below w.heap.size w w' → Calls Tryd.prog 147 #[.slice A m.length c, .int .i64 n] w' fun e w'' => e = .returned (.tuple #[.string (pageOf m n).1, .int .i64 (pageOf m n).2]) ∧ w' = w'') := fun w' hb => page_any A c m n w' hm (hs.keep hb)
  have hcs := load_cases m d n
  have HDE : Hid (∀ w', Calls Tryd.prog 32 #[.int .i64 d.itv, .string (pageOf m n).1] w' fun e w'' => DecodedO w' (decodeOf d.itv (pageOf m n).1) e w'') := fun w' => refDecode_own d.itv _ w' HPZ.out
  obtain ⟨⟨s, k⟩, hp⟩ : ∃ r, r = pageOf m n := ⟨_, rfl⟩
  rw [← hp] at HPG HDE hcs
  obtain ⟨⟨l, q⟩, hq⟩ : ∃ r, r = decodeOf d.itv (s, k).1 := ⟨_, rfl⟩
  rw [← hq] at HDE hcs
  obtain ⟨ans, hans⟩ : ∃ r, r = loadOf m d n := ⟨_, rfl⟩
  rw [← hans] at hcs ⊢
  dsimp only at HPG HDE hcs
  have HBX := Lib.hid ((Below.refl w.heap.size w).alloc (Nat.le_refl _) (.cells d.cells 23))
  have hci : (w.alloc (.cells d.cells 23)).cell? ⟨w.heap.size, 7, none⟩ = some (.int .i64 d.itv) := by rw [cell_of_row _ _ 7 _ _ _ (heap_alloc_new w _)]; exact d.itv_at
  have hds := d.size
  clear hp hq hans hz hs
  rcases hcs with ⟨h1, h2⟩ | ⟨h1, h2, h3, h4⟩ | ⟨h1, h2, h3, h4⟩ | ⟨h1, h2, h3, h4⟩
  · subst h1
    have HA := Lib.hid h2
    clear h2
    go_enter Tryd.func110, Tryd.ntmps110
    go_wp2_with fail
    refine (HPG.out _ HBX.out).mono ?_
    rintro e w1 ⟨rfl, rfl⟩
    go_wp2
    go_ret2
    rw [HA.out]
    exact decodedO_err _ _ _ HBX.out
  all_goals
    subst h1
    have HA := Lib.hid h4
    clear h4
    go_enter Tryd.func110, Tryd.ntmps110
    go_wp2_with fail
    refine (HPG.out _ HBX.out).mono ?_
    rintro e w1 ⟨rfl, rfl⟩
    go_wp2_with fail
    refine (HDE.out _).mono ?_
    rintro e w2 ⟨v, rfl, hown, hb2⟩
    have HO := Lib.hid (own_mono hown HBX.out.size)
    have HB2 := Lib.hid (bstep HBX.out hb2)
    clear hown hb2
    dsimp only
  · have hen : (q != 0) = true := by simp [h2]
    clear h2 h3
    go_wp2
    go_ret2
    rw [HA.out]
    exact decodedO_err _ _ _ HB2.out
  · subst h2
    have h3' : l = [] := h3
    subst h3'
    obtain ⟨A2, c2, rfl, _, _⟩ := own_row HO.out
    clear h3
    go_wp2
    go_ret2
    rw [HA.out]
    exact decodedO_err _ _ _ HB2.out
  · subst h2
    obtain ⟨A2, c2, rfl, _, _⟩ := own_row HO.out
    have hne : ((l.length : Int) == 0) = false := by
      cases l with
      | nil => exact absurd rfl h3
      | cons a t => simp; omega
    clear h3
    go_wp2
    go_ret2
    rw [HA.out]
    exact ⟨_, rfl, HO.out, HB2.out⟩

theorem method_page (A : Option Addr) (n c : Nat) (w : World) : (method 344 32 (.slice A n c) "Page").run Tryd.prog w = .ok (147, .slice A n c) w := by kernel_rfl
theorem call147 (args : Array Value) (w : World) : (callFunc 147 args).run Tryd.prog w = .ok (.enter 147 args) w := by kernel_rfl

/-- The cells of a cluster that are read. -/
theorem cl_p (p : Value) (h : Hd) (d : Ds) : (clCells p h d)[0]? = some p := rfl
theorem cl_cnt (p : Value) (h : Hd) (d : Ds) : (clCells p h d)[2]? = some (.int .i64 h.cnt) := rfl
theorem cl_fin (p : Value) (h : Hd) (d : Ds) : (clCells p h d)[3]? = some (.int .i64 h.fin) := rfl
theorem cl_len (p : Value) (h : Hd) (d : Ds) : (clCells p h d)[11]? = some (.int .i64 d.len) := rfl
theorem cl_itv (p : Value) (h : Hd) (d : Ds) : (clCells p h d)[15]? = some (.int .i64 d.itv) := rfl

set_option maxHeartbeats 800000 in
set_option maxRecDepth 100000 in
theorem load_any (A : Option Addr) (c : Nat) (m : List ByteArray) (h : Hd) (d : Ds) (n : Int) (w : World) (hm : m.length ≤ 9223372036854775807) (hz : ∀ s ∈ m, s.size ≤ 1000) (hs : StrsA w A m) :
    Calls Tryd.prog 144 #[.agg (clCells (memV A m.length c) h d), .int .i64 n] w fun e w' => DecodedO w (loadOf m d n) e w' := by
  have HPZ := Lib.hid (page_size m n hz)
  have HPG : Hid (∀ w', Below w.heap.size w w' → Calls Tryd.prog 147 #[.slice A m.length c, .int .i64 n] w' fun e w'' => e = .returned (.tuple #[.string (pageOf m n).1, .int .i64 (pageOf m n).2]) ∧ w' = w'') := fun w' hb => page_any A c m n w' hm (hs.keep hb)
  have hcs := load_cases m d n
  have HDE : Hid (∀ w', Calls Tryd.prog 31 #[.int .i64 d.itv, .string (pageOf m n).1] w' fun e w'' => DecodedO w' (decodeOf d.itv (pageOf m n).1) e w'') := fun w' => decode_own d.itv _ w' HPZ.out
  obtain ⟨⟨s, k⟩, hp⟩ : ∃ r, r = pageOf m n := ⟨_, rfl⟩
  rw [← hp] at HPG HDE hcs
  obtain ⟨⟨l, q⟩, hq⟩ : ∃ r, r = decodeOf d.itv (s, k).1 := ⟨_, rfl⟩
  rw [← hq] at HDE hcs
  obtain ⟨ans, hans⟩ : ∃ r, r = loadOf m d n := ⟨_, rfl⟩
  rw [← hans] at hcs ⊢
  dsimp only at HPG HDE hcs
  obtain ⟨pv, hpv⟩ : ∃ pv, pv = memV A m.length c := ⟨_, rfl⟩
  rw [← hpv]
  have HPV := Lib.hid hpv
  have HBX := Lib.hid ((Below.refl w.heap.size w).alloc (Nat.le_refl _) (.cells (clCells pv h d) 146))
  have hci : (w.alloc (.cells (clCells pv h d) 146)).cell? ⟨w.heap.size, 15, none⟩ = some (.int .i64 d.itv) := by rw [cell_of_row _ _ 15 _ _ _ (heap_alloc_new w _)]; rfl
  have hcp : (w.alloc (.cells (clCells pv h d) 146)).cell? ⟨w.heap.size, 0, none⟩ = some (.iface 32 (.slice A m.length c)) := by rw [cell_of_row _ _ 0 _ _ _ (heap_alloc_new w _), cl_p, hpv]; rfl
  have hds := clCells_size pv h d
  clear hp hq hans hz hs hpv
  rcases hcs with ⟨h1, h2⟩ | ⟨h1, h2, h3, h4⟩ | ⟨h1, h2, h3, h4⟩ | ⟨h1, h2, h3, h4⟩
  · subst h1
    have HA := Lib.hid h2
    clear h2
    have hme := fun w => method_page A m.length c w
    have hca := call147
    go_enter Tryd.func144, Tryd.ntmps144
    go_wp2_with fail
    refine (HPG.out _ HBX.out).mono ?_
    rintro e w1 ⟨rfl, rfl⟩
    go_wp2
    go_ret2
    rw [HA.out]
    exact decodedO_err _ _ _ HBX.out
  all_goals
    subst h1
    have HA := Lib.hid h4
    clear h4
    have hme := fun w => method_page A m.length c w
    have hca := call147
    go_enter Tryd.func144, Tryd.ntmps144
    go_wp2_with fail
    refine (HPG.out _ HBX.out).mono ?_
    rintro e w1 ⟨rfl, rfl⟩
    clear hme hca
    go_wp2_with fail
    refine (HDE.out _).mono ?_
    rintro e w2 ⟨v, rfl, hown, hb2⟩
    have HO := Lib.hid (own_mono hown HBX.out.size)
    have HB2 := Lib.hid (bstep HBX.out hb2)
    clear hown hb2
    dsimp only
  · have hen : (q != 0) = true := by simp [h2]
    clear h2 h3
    go_wp2
    go_ret2
    rw [HA.out]
    exact decodedO_err _ _ _ HB2.out
  · subst h2
    have h3' : l = [] := h3
    subst h3'
    obtain ⟨A2, c2, rfl, _, _⟩ := own_row HO.out
    clear h3
    go_wp2
    go_ret2
    rw [HA.out]
    exact decodedO_err _ _ _ HB2.out
  · subst h2
    obtain ⟨A2, c2, rfl, _, _⟩ := own_row HO.out
    have hne : ((l.length : Int) == 0) = false := by
      cases l with
      | nil => exact absurd rfl h3
      | cons a t => simp; omega
    clear h3
    go_wp2
    go_ret2
    rw [HA.out]
    exact ⟨_, rfl, HO.out, HB2.out⟩
end Go.Proofs.YtnkhifgppcnmkaaDoor

/- Walks of chapter 18: the end of a cluster. -/
namespace Go.Proofs.YtnkhifgppcnmkaaDoor
open Go.RowKit Iv

set_option maxHeartbeats 400000 in
set_option maxRecDepth 100000 in
theorem allowedC_any (p : Value) (h : Hd) (d : Ds) (n : Int) (w : World) :
    Calls Tryd.prog 106 #[.agg (clCells p h d), .int .i64 n] w fun e w' => e = .returned (.bool (inB n 1 d.len)) ∧ Below w.heap.size w w' := by
  have hci : (w.alloc (.cells (clCells p h d) 146)).cell? ⟨w.heap.size, 11, none⟩ = some (.int .i64 d.len) := by rw [cell_of_row _ _ 11 _ _ _ (heap_alloc_new w _)]; rfl
  have hds := clCells_size p h d
  by_cases h1 : 1 ≤ n
  · by_cases h2 : n ≤ d.len
    · go_enter Tryd.func106, Tryd.ntmps106
      go_wp2
      go_ret
      exact ⟨ret_bool (by unfold inB; simp; omega), (Below.refl _ _).alloc (Nat.le_refl _) _⟩
    · have h2' : d.len < n := by omega
      go_enter Tryd.func106, Tryd.ntmps106
      go_wp2
      go_ret
      exact ⟨ret_bool (by unfold inB; simp; omega), (Below.refl _ _).alloc (Nat.le_refl _) _⟩
  · have h1' : n < 1 := by omega
    go_enter Tryd.func106, Tryd.ntmps106
    go_wp2
    go_ret
    exact ⟨ret_bool (by unfold inB; simp; omega), (Below.refl _ _).alloc (Nat.le_refl _) _⟩

/-- The cells of the end of a cluster. -/
def enCells (p : Value) (h : Hd) (d : Ds) (v : Value) : Array Value := #[p, .int .i64 h.app, .int .i64 h.cnt, .int .i64 h.fin, .int .i64 h.root, .int .i64 h.ht, .int .i64 h.spl, .int .i64 h.areas, .int .i64 d.id, .int .i64 d.org, .int .i64 d.fmt, .int .i64 d.len, .int .i64 d.blk, .int .i64 d.kat, .int .i64 d.klen, .int .i64 d.itv, .int .i64 d.area, .int .i64 d.fint, .int .i64 d.farea, .int .i64 d.base, .int .i64 d.aat, .int .i64 d.alen, .bool d.uniq, .int .i64 d.cls, .string d.vol, .string d.owner, .int .i64 d.cre, .int .i64 d.expi, .bool d.arch, v]
theorem enCells_size (p : Value) (h : Hd) (d : Ds) (v : Value) : (enCells p h d v).size = 30 := rfl
theorem info150 : (Tryd.prog.info? 150).map (·.size) = some 30 := by kernel_rfl
theorem built_en (A : Option Addr) (n c : Nat) (h : Hd) (d : Ds) (B : Option Addr) (k q : Nat) : Tryd.prog.built 150 [(0, .agg (clCells (memV A n c) h d)), (1, .slice B k q)] = some (enCells (memV A n c) h d (.slice B k q)) := by kernel_rfl
theorem enCells_one (A : Option Addr) (n c : Nat) (h : Hd) (d : Ds) (B : Option Addr) (k q : Nat) : (enCells (memV A n c) h d (.slice B k q)).all (·.oneCell') = true := by kernel_rfl

/-- What theEnd answers. -/
def EndTo (p : Value) (h : Hd) (d : Ds) (w : World) (r : List ByteArray × Int) (e : Ending) (w' : World) : Prop :=
  ∃ v, e = .returned (.tuple #[.agg (enCells p h d v), .int .i64 r.2]) ∧ OwnS w.heap.size w' v r.1 ∧ Below w.heap.size w w'

set_option maxHeartbeats 1600000 in
set_option maxRecDepth 100000 in
theorem theEnd_any (A : Option Addr) (c : Nat) (m : List ByteArray) (h : Hd) (d : Ds) (w : World) (hm : m.length ≤ 9223372036854775807) (hz : ∀ s ∈ m, s.size ≤ 1000) (hs : StrsA w A m) :
    Calls Tryd.prog 107 #[.agg (clCells (memV A m.length c) h d)] w (EndTo (memV A m.length c) h d w (endOfC m h d)) := by
  have HLD : Hid (∀ w', Below w.heap.size w w' → Calls Tryd.prog 144 #[.agg (clCells (memV A m.length c) h d), .int .i64 h.fin] w' fun e w'' => DecodedO w' (loadOf m d h.fin) e w'') := fun w' hb => load_any A c m h d h.fin w' hm hz (hs.keep hb)
  have HBE : Hid (∀ B k q, Tryd.prog.built 150 [(0, .agg (clCells (memV A m.length c) h d)), (1, .slice B k q)] = some (enCells (memV A m.length c) h d (.slice B k q))) := fun B k q => built_en A m.length c h d B k q
  have HON : Hid (∀ B k q, (enCells (memV A m.length c) h d (.slice B k q)).all (·.oneCell') = true) := fun B k q => enCells_one A m.length c h d B k q
  obtain ⟨pv, hpv⟩ : ∃ pv, pv = memV A m.length c := ⟨_, rfl⟩
  rw [← hpv] at HLD HBE HON ⊢
  clear hpv hs hz
  have HGC : Hid ((w.alloc (.cells (clCells pv h d) 146)).heap[w.heap.size]? = some (.cells (clCells pv h d) 146 (0, 0))) := heap_alloc_new w _
  have hds := clCells_size pv h d
  have hcf : (clCells pv h d)[3]'(by rw [hds]; decide) = .int .i64 h.fin := rfl
  by_cases h0 : h.fin = 0
  · have he : endOfC m h d = ([], 0) := by unfold endOfC; rw [if_pos h0]
    rw [he]
    have hz0 : (h.fin == 0) = true := by simp [h0]
    clear he h0
    go_enter Tryd.func107, Tryd.ntmps107
    go_wp2_with (first | (refine wpl_load_row 146 _ rfl rfl w.heap.size rfl 146 (clCells pv h d) (0, 0) _ (by rw [Below.heap_alloc _ _ _ (by simp)]; exact HGC.out) Tryd.underlying146 (by rw [clCells_size]; exact info146) ?_) | (refine wpl_build 150 _ rfl rfl [(0, .agg (clCells pv h d)), (1, .slice none 0 0)] (enCells pv h d (.slice none 0 0)) (by kernel_rfl) (HBE.out _ _ _) ?_) | (refine wpList_store_row rfl 150 _ _ rfl (w.heap.size + 1) (enCells pv h d (.slice none 0 0)) rfl rfl 150 _ (heap_at_alloc (by simp)) (by rw [enCells_size]; exact info150) rfl (HON.out _ _ _) ?_) | fail)
    refine bodyPost_ret (v := .tuple #[.agg (enCells pv h d (.slice none 0 0)), .int .i64 0]) (results_cell2 (p := 2) (q := 3) rfl _ _ (w.heap.size + 1) 150 (enCells pv h d (.slice none 0 0)) (0, 0) _ rfl (setRow_heap _ _ _ _ _ _ (heap_at_alloc (by simp))) Tryd.underlying150 (by rw [enCells_size]; exact info150) _ rfl) rfl ?_
    exact ⟨_, rfl, World.ownsRow_nil _ _ _ _, below_setRow (((Below.refl _ _).alloc (Nat.le_refl _) _).alloc (by simp) _) (by omega) _⟩
  · have he : endOfC m h d = loadOf m d h.fin := by unfold endOfC; rw [if_neg h0]
    rw [he]
    have hz0 : (h.fin == 0) = false := by simp [h0]
    clear he h0
    obtain ⟨⟨l, k⟩, hr⟩ : ∃ r, r = loadOf m d h.fin := ⟨_, rfl⟩
    rw [← hr] at HLD ⊢
    clear hr
    go_enter Tryd.func107, Tryd.ntmps107
    go_wp2_with (first | (refine wpl_load_row 146 _ rfl rfl w.heap.size rfl 146 (clCells pv h d) (0, 0) _ (by rw [Below.heap_alloc _ _ _ (by simp)]; exact HGC.out) Tryd.underlying146 (by rw [clCells_size]; exact info146) ?_) | fail)
    refine (HLD.out _ (((Below.refl _ _).alloc (Nat.le_refl _) _).alloc (by simp) _)).mono ?_
    rintro e w2 ⟨v, rfl, hown, hb2⟩
    have hgc : w2.heap[w.heap.size]? = some (.cells (clCells pv h d) 146 (0, 0)) := (hb2.block _ (by simp; omega)).trans (by rw [Below.heap_alloc _ _ _ (by simp)]; exact HGC.out)
    have hgz : ∃ Z : Array Value, Z.size = 30 ∧ w2.heap[w.heap.size + 1]? = some (.cells Z 150 (0, 0)) := ⟨_, rfl, (hb2.block _ (by simp)).trans (heap_at_alloc (by simp))⟩
    obtain ⟨Z, hZ, hgz⟩ := hgz
    have HGC2 := Lib.hid hgc
    have HGZ := Lib.hid hgz
    have HZ := Lib.hid hZ
    have HB2 := Lib.hid (bstep (((Below.refl _ _).alloc (Nat.le_refl _) _).alloc (by simp) _) hb2)
    have HO := Lib.hid hown
    obtain ⟨A2, c2, rfl, _, _⟩ := own_row hown
    have hne : (Value.slice A2 l.length c2).ownBlock ≠ some (w.heap.size + 1) := by
      intro hv
      have := (World.ownsRow.lt hown _ hv).1
      simp at this
      omega
    have HNE := Lib.hid hne
    clear hgc hgz hZ hb2 hown hne hcf hds
    dsimp only
    dsimp only at HO HNE
    go_wp2_with (first | (refine wpl_load_row 146 _ rfl rfl w.heap.size rfl 146 (clCells pv h d) (0, 0) _ HGC2.out Tryd.underlying146 (by rw [clCells_size]; exact info146) ?_) | (refine wpl_build 150 _ rfl rfl [(0, .agg (clCells pv h d)), (1, .slice A2 l.length c2)] (enCells pv h d (.slice A2 l.length c2)) (by kernel_rfl) (HBE.out _ _ _) ?_) | (refine wpList_store_row rfl 150 _ _ rfl (w.heap.size + 1) (enCells pv h d (.slice A2 l.length c2)) rfl rfl 150 Z HGZ.out (by rw [enCells_size]; exact info150) (by rw [HZ.out, enCells_size]) (HON.out _ _ _) ?_) | fail)
    refine bodyPost_ret (v := .tuple #[.agg (enCells pv h d (.slice A2 l.length c2)), .int .i64 k]) (results_cell2 (p := 2) (q := 3) rfl _ _ (w.heap.size + 1) 150 (enCells pv h d (.slice A2 l.length c2)) (0, 0) _ rfl (setRow_heap _ _ _ _ _ _ HGZ.out) Tryd.underlying150 (by rw [enCells_size]; exact info150) _ rfl) rfl ?_
    refine ⟨_, rfl, ?_, below_setRow HB2.out (by omega) _⟩
    have hg : w2.grownBy (w2.setRow (w.heap.size + 1) (enCells pv h d (.slice A2 l.length c2))) (some (w.heap.size + 1)) :=
      ⟨rfl, rfl, rfl, by simp, fun q _ hn => setRow_other _ _ q _ (fun e => hn (by rw [e]))⟩
    exact own_mono (World.ownsRow.kept HO.out hg (.inr HNE.out)) (by simp; omega)
end Go.Proofs.YtnkhifgppcnmkaaDoor

/- Walks of chapter 18: a record added to the end of a cluster. -/
namespace Go.Proofs.YtnkhifgppcnmkaaDoor
open Go.RowKit Iv

theorem clone_any (A : Option Addr) (c : Nat) (l : List ByteArray) (w : World) (hl : l.length ≤ 1000) (hs : StrsA w A l) :
    Calls Tryd.prog 145 #[.slice A l.length c] w fun e w' => ∃ v', e = .returned v' ∧ OwnS w.heap.size w' v' l ∧ Below w.heap.size w w' := by
  rcases Nat.eq_zero_or_pos l.length with h0 | h0
  · have hn : l = [] := List.eq_nil_of_length_eq_zero h0
    subst hn
    cases A with
    | none =>
      refine (Tryd.slices_Clone_string_nil 0 c w).mono ?_
      rintro e w' ⟨rfl, rfl⟩
      exact ⟨_, rfl, World.ownsRow_nil _ _ _ _, Below.refl _ _⟩
    | some a =>
      refine (Tryd.slices_Clone_string_zero a c w).mono ?_
      rintro e w' ⟨v', rfl, h1, _, h2⟩
      exact ⟨_, rfl, h1, h2⟩
  · obtain ⟨b, o, rfl, hlt, hc⟩ := hs h0
    refine (Tryd.slices_Clone_string b o l.length c l w (Nat.le_refl _) (by omega) hc).mono ?_
    rintro e w' ⟨v', rfl, h1, _, h2⟩
    rw [List.take_of_length_le (Nat.le_refl _)] at h1
    exact ⟨_, rfl, h1, h2⟩

/-- One element is appended in a region that draws its order; the element lies in the block H. -/
theorem step_push {ops : Array Oper} {o : Oper} {a : Act} {K : Act → World → Prop} {Q : Exit → Act → World → Prop} {X : Prop} {t e size bytes : Nat} (E : Elem t e size bytes) (hgd : Region.wanted o (yielded ops a.tmps) = true) (s x : Operand)
    (ho : o.op = .call { callee := .builtin .append, args := #[s, x], argTypes := #[t, t] })
    {w0 w : World} (v : Value) (n : Nat) (xs news : List Value) (hs : a.eval s = v) (hown : w.ownsRow w0.heap.size e size v n xs) (hb : Below w0.heap.size w0 w)
    (H : Nat) (hH : w.heap[H]? = some (.cells news.toArray e (0, 0))) (hx : a.eval x = .slice (some ⟨H, 0, none⟩) 1 1) (hl : news.length = size) (h1 : ∀ u ∈ news, u.oneCell' = true) (h63 : n + 1 ≤ maxLen) (hbytes : (n + 1) * bytes ≤ 140737488355328)
    (h : ∀ g cap w', w'.ownsRow w0.heap.size e size (.slice (some ⟨g, 0, none⟩) (n + 1) cap) (n + 1) (xs ++ news) → Below w0.heap.size w0 w' → K (a.put o.dst (.slice (some ⟨g, 0, none⟩) (n + 1) cap)) w') :
    if Region.wanted o (yielded ops a.tmps) = true then Oper.wp Tryd.prog o a w K Q else X := by
  rw [if_pos hgd]
  obtain ⟨ht, i, z, hi, hz, hsz, hby, hzs, h0⟩ := E
  have hnews := World.news_of_block hH
  refine wp_append_lies w s x t ho w0.heap.size e i z size bytes ht hi hz hsz hby hzs h0 v n xs hs hown ⟨H, 0, none⟩ 1 1 news hx (by rw [hl, Nat.one_mul]) ?_ h1 (by decide) h63 hbytes hb.size _ rfl ?_
  · intro j u hu
    exact hnews j u (by simpa using hu)
  · intro g cap w' hown' hgrow _ _
    exact h g cap w' hown' (below_grown hb hgrow hown)

/-- One element is appended to a row that the call owns: with what the growth leaves. -/
theorem wpl_pushG {ops : Array Oper} {rest : List Oper} {o : Oper} {a : Act} {Q : Exit → Act → World → Prop} {t e size bytes : Nat} (E : Elem t e size bytes) (hgd : o.guard = none) (s x : Operand)
    (ho : o.op = .call { callee := .builtin .append, args := #[s, x], argTypes := #[t, t] })
    {w : World} (B : Nat) (v : Value) (n : Nat) (xs news : List Value) (hs : a.eval s = v) (hown : w.ownsRow B e size v n xs) (hb : B ≤ w.heap.size)
    (H : Nat) (hH : w.heap.size = H) (hx : a.eval x = .slice (some ⟨H, 0, none⟩) 1 1) (hl : news.length = size) (h1 : ∀ u ∈ news, u.oneCell' = true) (h63 : n + 1 ≤ maxLen) (hbytes : (n + 1) * bytes ≤ 140737488355328)
    (h : ∀ g cap w', w'.ownsRow B e size (.slice (some ⟨g, 0, none⟩) (n + 1) cap) (n + 1) (xs ++ news) → (w.alloc (.cells news.toArray e)).grownBy w' v.ownBlock → (v.ownBlock = some g ∨ g = w.heap.size + 1) → wpList Tryd.prog ops Q rest (a.put o.dst (.slice (some ⟨g, 0, none⟩) (n + 1) cap)) w') :
    wpList Tryd.prog ops Q (o :: rest) a (w.alloc (.cells news.toArray e)) := by
  subst hH
  obtain ⟨ht, i, z, hi, hz, hsz, hby, hzs, h0⟩ := E
  have hown2 : (w.alloc (.cells news.toArray e)).ownsRow B e size v n xs := World.ownsRow.alloc hown _
  have hnews := World.news_of_block (heap_alloc_new w (.cells news.toArray e))
  refine wpList_append_lies (w.alloc (.cells news.toArray e)) hgd s x t ho B e i z size bytes ht hi hz hsz hby hzs h0 v n xs hs hown2 ⟨w.heap.size, 0, none⟩ 1 1 news hx (by rw [hl, Nat.one_mul]) ?_ h1 (by decide) h63 hbytes (Nat.le_trans hb (by simp)) _ rfl ?_
  · intro j u hu
    exact hnews j u (by simpa using hu)
  · intro g cap w' hown' hgrow hat _
    exact h g cap w' hown' hgrow (by simpa using hat)

/-- What add leaves: the end of the cluster in block g, its records v, all else as it was. -/
structure EnRow (w0 : World) (w : World) (g : Nat) (p : Value) (h : Hd) (d : Ds) (v : Value) (l : List ByteArray) : Prop where
  row : w.heap[g]? = some (.cells (enCells p h d v) 150 (0, 0))
  own : OwnS w0.heap.size w v l
  ne : v.ownBlock ≠ some g
  bel : Below w0.heap.size w0 w
  le : w0.heap.size ≤ g

theorem EnRow.keep {w0 w w' : World} {g : Nat} {p : Value} {h : Hd} {d : Ds} {v : Value} {l : List ByteArray} (H : EnRow w0 w g p h d v l) (hb : Below w.heap.size w w') : EnRow w0 w' g p h d v l :=
  ⟨(hb.block _ (blk_lt H.row)).trans H.row, own_keep H.own hb, H.ne, bstep H.bel hb, H.le⟩

theorem own_setCell {B : Nat} {w : World} {e : TypeId} {size n g i : Nat} {v u : Value} {xs : List Value} (h : w.ownsRow B e size v n xs) (hn : v.ownBlock ≠ some g) : (w.setCell ⟨g, i, none⟩ u).ownsRow B e size v n xs := by
  have hg : w.grownBy (w.setCell ⟨g, i, none⟩ u) (some g) := ⟨rfl, rfl, rfl, by simp [World.setCell], fun k _ hn => Below.heap_setCell _ _ _ _ (fun e => hn (by rw [e]))⟩
  exact World.ownsRow.kept h hg (.inr hn)

theorem content_le (n : Nat) (l : List ByteArray) (h : ∀ s ∈ l, s.size ≤ n) : (content l).length ≤ l.length * n := by
  induction l with
  | nil => simp [content]
  | cons s l ih =>
    rw [content_cons, List.length_append, List.length_cons, Nat.succ_mul]
    have := ih (fun x hx => h x (by simp [hx]))
    have h2 := h s (by simp)
    have e : s.data.toList.length = s.size := Array.length_toList
    omega
theorem content_takeS (l : List ByteArray) (k : Nat) (hk : k < l.length) : (content (l.take (k + 1))).length = (content (l.take k)).length + (l.getD k ByteArray.empty).size := by
  rw [content_take _ _ hk, List.length_append]
  rfl
theorem pageSum (l : List ByteArray) (hl : l.length ≤ 512) (h : ∀ s ∈ l, s.size ≤ 512) (k : Nat) : (content (l.take k)).length ≤ 262144 := by
  have := content_le 512 (l.take k) (fun s hs => h s (List.mem_of_mem_take hs))
  have h2 : (l.take k).length ≤ 512 := by rw [List.length_take]; omega
  have : (l.take k).length * 512 ≤ 512 * 512 := Nat.mul_le_mul_right _ h2
  omega

theorem fits_own (size : Int) (A : Option Addr) (c B : Nat) (l : List ByteArray) (r : ByteArray) (w : World) (hl : l.length ≤ 512) (hlz : ∀ s ∈ l, s.size ≤ 512) (hr : r.size ≤ 200)
    (ho : w.ownsRow B 9 1 (.slice A (l.length + 1) c) (l.length + 1) (l.map Value.string ++ [Value.string r])) :
    Calls Tryd.prog 41 #[.int .i64 size, .slice A (l.length + 1) c] w fun e w' => e = .returned (.bool (fitsOf size (l ++ [r]))) ∧ Below w.heap.size w w' := by
  have ho2 : OwnS B w (.slice A (l.length + 1) c) (l ++ [r]) := by unfold OwnS; simpa using ho
  obtain ⟨A0, c0, he, hs, hc⟩ := own_strs ho2
  have e : (l ++ [r]).length = l.length + 1 := by simp
  rw [e] at he hc
  cases he
  have := fits_any size A c (l ++ [r]) w (by omega) (by
    intro s hm
    rcases List.mem_append.1 hm with hm | hm
    · have := hlz s hm; omega
    · have : s = r := by simpa using hm
      subst this; omega) (by rw [e]; exact hc) hs
  rw [e] at this
  exact this

set_option maxHeartbeats 1600000 in
set_option maxRecDepth 100000 in
theorem add_any (w0 w : World) (g : Nat) (p : Value) (h : Hd) (d : Ds) (A : Option Addr) (c : Nat) (l : List ByteArray) (r : ByteArray) (H : EnRow w0 w g p h d (.slice A l.length c) l)
    (hl : l.length ≤ 512) (hlz : ∀ s ∈ l, s.size ≤ 512) (hr : r.size ≤ 200) (hf0 : 0 ≤ h.fin) (hf1 : h.fin ≤ 20000000) (hc0 : 0 ≤ h.cnt) (hc1 : h.cnt ≤ 20000000) (hi0 : 1 ≤ d.itv) (hi1 : d.itv ≤ 512) :
    Calls Tryd.prog 108 #[.pointer (some ⟨g, 0, none⟩), .string r] w fun e w' => e = .returned (.int .i64 (atOf h.fin d.itv l r)) ∧
      ∃ v, EnRow w0 w' g p { h with cnt := h.cnt + 1, fin := finOf h.fin d.itv l r } d v (lastOf h.fin d.itv l r ++ [r]) ∧
        (∀ q, q < w.heap.size → q ≠ g → some q ≠ (Value.slice A l.length c).ownBlock → w'.heap[q]? = w.heap[q]?) ∧
        ∀ q, q < w.heap.size → v.ownBlock = some q → (Value.slice A l.length c).ownBlock = some q := by
  obtain ⟨A0, c0, he0, hs0, hlc⟩ := own_strs H.own
  cases he0
  have HH := Lib.hid H
  have HLZ := Lib.hid hlz
  have HCL : Hid (∀ w', Below w.heap.size w w' → Calls Tryd.prog 145 #[.slice A l.length c] w' fun e w'' => ∃ v', e = .returned v' ∧ OwnS w'.heap.size w'' v' l ∧ Below w'.heap.size w' w'') := fun w' hb => clone_any A c l w' (by omega) (hs0.keep hb)
  have hk3 : w.cell? ⟨g, 3, none⟩ = some (.int .i64 h.fin) := cell_of_row _ _ 3 _ _ _ H.row
  have hk15 : w.cell? ⟨g, 15, none⟩ = some (.int .i64 d.itv) := cell_of_row _ _ 15 _ _ _ H.row
  have hk29 : w.cell? ⟨g, 29, none⟩ = some (.slice A l.length c) := cell_of_row _ _ 29 _ _ _ H.row
  have hgl := blk_lt H.row
  clear H hlz hs0 hlc
  go_enter Tryd.func108, Tryd.ntmps108
  go_upto_region 1 with fail
  go_cut [32] (fun v32 wx => v32 = .bool (freshOf h.fin d.itv l r) ∧ Below w.heap.size w wx)
  case first =>
    by_cases h0 : h.fin = 0
    · have hz : (h.fin == 0) = true := by simp [h0]
      have HF : Hid (true = freshOf h.fin d.itv l r) := by show _ = _; unfold freshOf; simp [h0]
      clear h0
      go_quiet (fail)
      go_wp2
      go_meet
      exact ⟨by rw [← HF.out], below_drewN (Below.refl _ _) _⟩
    · have hz : (h.fin == 0) = false := by simp [h0]
      have HF : Hid ((!fitsOf d.itv (l ++ [r])) = freshOf h.fin d.itv l r) := by show _ = _; unfold freshOf; simp [h0]
      clear h0
      have HFT : Hid (∀ A' c' w', w'.ownsRow w.heap.size 9 1 (.slice A' (l.length + 1) c') (l.length + 1) (l.map Value.string ++ [Value.string r]) → Calls Tryd.prog 41 #[.int .i64 d.itv, .slice A' (l.length + 1) c'] w' fun e w'' => e = .returned (.bool (fitsOf d.itv (l ++ [r]))) ∧ Below w'.heap.size w' w'') := fun A' c' w' ho => fits_own d.itv A' c' _ l r w' hl HLZ.out hr ho
      obtain ⟨gb, hgb⟩ : ∃ gb, gb = fitsOf d.itv (l ++ [r]) := ⟨_, rfl⟩
      rw [← hgb] at HF HFT
      clear hgb
      have HL1 : Hid (l.length + 1 ≤ maxLen ∧ (l.length + 1) * 16 ≤ 140737488355328) := by show _ ∧ _; unfold maxLen; omega
      have HK : Hid (∀ w', Below w.heap.size w w' → w'.cell? ⟨g, 3, none⟩ = some (.int .i64 h.fin) ∧ w'.cell? ⟨g, 15, none⟩ = some (.int .i64 d.itv) ∧ w'.cell? ⟨g, 29, none⟩ = some (.slice A l.length c)) := fun w' hBB => ⟨(hBB.cell (p := ⟨g, 3, none⟩) hgl).trans hk3, (hBB.cell (p := ⟨g, 15, none⟩) hgl).trans hk15, (hBB.cell (p := ⟨g, 29, none⟩) hgl).trans hk29⟩
      go_region_held_law (fun w' => w'.cell? ⟨g, 3, none⟩ = some (.int .i64 h.fin) ∧ w'.cell? ⟨g, 15, none⟩ = some (.int .i64 d.itv) ∧ w'.cell? ⟨g, 29, none⟩ = some (.slice A l.length c))
        (first | exact HK.out _ (Below.refl _ w) | exact HK.out _ (Below.refl _ w).drew | exact HK.out _ (((Below.refl _ w).alloc (Nat.le_refl _) _).drew) | exact HK.out _ ((Below.refl _ w).alloc (Nat.le_refl _) _) | exact HK.out _ (((Below.refl _ w).drew).alloc (by simp) _) | exact HK.out _ hBB | exact HK.out _ (hBB.alloc hBB.size _))
        (first
          | (go_at_call 145; with_reducible_and_instances refine (HCL.out _ (by first | exact (Below.refl _ w).drew | exact ((Below.refl _ w).alloc (Nat.le_refl _) _).drew)).mono ?_; rintro e wz ⟨v', rfl, hownC, hbC⟩; first | have hBB := bstep ((Below.refl _ w).drew) hbC | have hBB := bstep (((Below.refl _ w).alloc (Nat.le_refl _) _).drew) hbC)
          | (refine step_push elemStr (by rfl) _ _ rfl (w0 := w) v' l.length (l.map Value.string) [.string r] rfl (World.ownsRow.alloc (own_mono hownC (by simp)) _) (hBB.alloc hBB.size _) wz.heap.size (heap_alloc_new wz _) rfl rfl (by simp [Value.oneCell']) HL1.out.1 HL1.out.2 ?_; intro gn cap w1 hownN hBB)
          | (refine step_push elemStr (by rfl) _ _ rfl (w0 := w) v' l.length (l.map Value.string) [.string r] rfl (own_mono hownC (by simp)) hBB w.heap.size ((hbC.block _ (by simp)).trans (heap_at_alloc (by simp))) rfl rfl (by simp [Value.oneCell']) HL1.out.1 HL1.out.2 ?_; intro gn cap w1 hownN hBB)
          | (go_at_call 41; with_reducible_and_instances refine (HFT.out _ _ _ hownN).mono ?_; rintro e wf ⟨rfl, hbF⟩; have hBB := bstep hBB hbF))
      all_goals
        go_wp2
        go_meet
        exact ⟨by rw [← HF.out], hBB⟩
  case rest =>
    obtain ⟨rfl, hbx⟩ := hcut
    have HX := Lib.hid (HH.out.keep hbx)
    have HBX := Lib.hid hbx
    have HSZ : Hid (w.heap.size ≤ wc.heap.size) := hbx.size
    have hk3c : wc.cell? ⟨g, 3, none⟩ = some (.int .i64 h.fin) := cell_of_row _ _ 3 _ _ _ HX.out.row
    have hk2c : wc.cell? ⟨g, 2, none⟩ = some (.int .i64 h.cnt) := cell_of_row _ _ 2 _ _ _ HX.out.row
    have hk15c : wc.cell? ⟨g, 15, none⟩ = some (.int .i64 d.itv) := cell_of_row _ _ 15 _ _ _ HX.out.row
    have hk29c : wc.cell? ⟨g, 29, none⟩ = some (.slice A l.length c) := cell_of_row _ _ 29 _ _ _ HX.out.row
    have hkf29 : wc.frozen? ⟨g, 29, none⟩ = false := frozen_of_row _ _ 29 _ _ HX.out.row
    have hkf3 : wc.frozen? ⟨g, 3, none⟩ = false := frozen_of_row _ _ 3 _ _ HX.out.row
    clear hk3 hk15 hk29 hbx HCL
    obtain ⟨fr, hfr⟩ : ∃ fr, fr = freshOf h.fin d.itv l r := ⟨_, rfl⟩
    rw [← hfr]
    have HFR := Lib.hid hfr
    clear hfr
    cases fr with
    | true =>
      go_wp2
      have HT : Hid (EnRow w0 ((wc.setCell ⟨g, 29, none⟩ (.slice none 0 0)).setCell ⟨g, 3, none⟩ (.int .i64 (h.fin + 1))) g p { h with fin := h.fin + 1 } d (.slice none 0 0) []) :=
        ⟨by rw [heap_setCell_same _ _ _ _ _ _ (heap_setCell_same _ _ _ _ _ _ HX.out.row)]; rfl, World.ownsRow_nil _ _ _ _, by simp [Value.ownBlock], (HX.out.bel.setCell HX.out.le _).setCell HX.out.le _, HX.out.le⟩
      have HKP : Hid (∀ q, q < w.heap.size → q ≠ g → ((wc.setCell ⟨g, 29, none⟩ (.slice none 0 0)).setCell ⟨g, 3, none⟩ (.int .i64 (h.fin + 1))).heap[q]? = w.heap[q]?) := fun q hq hn => by
        rw [heap_setCell_other _ _ _ _ hn, heap_setCell_other _ _ _ _ hn]; exact HBX.out.block q hq
      obtain ⟨wt, hwt⟩ : ∃ wt, wt = (wc.setCell ⟨g, 29, none⟩ (.slice none 0 0)).setCell ⟨g, 3, none⟩ (.int .i64 (h.fin + 1)) := ⟨_, rfl⟩
      rw [← hwt] at HT HKP
      rw [← hwt]
      have HSW : Hid (w.heap.size ≤ wt.heap.size) := by show _ ≤ _; rw [hwt]; simpa [World.setCell] using HSZ.out
      obtain ⟨A2, c2, l2, hl2, hl2l, hl2z, ht, hob⟩ : ∃ A2 c2 l2, l2 = lastOf h.fin d.itv l r ∧ l2.length ≤ 512 ∧ (∀ s ∈ l2, s.size ≤ 512) ∧ EnRow w0 wt g p { h with fin := h.fin + 1 } d (.slice A2 l2.length c2) l2 ∧ ∀ q, some q ≠ (Value.slice A l.length c).ownBlock → some q ≠ (Value.slice A2 l2.length c2).ownBlock :=
        ⟨none, 0, [], by unfold lastOf; rw [← HFR.out]; rfl, by simp, by simp, HT.out, by simp [Value.ownBlock]⟩
      obtain ⟨F, hF, hF0, hF1⟩ : ∃ F, F = h.fin + 1 ∧ 0 ≤ F ∧ F ≤ 20000001 := ⟨_, rfl, by omega, by omega⟩
      have HFF : Hid (F = finOf h.fin d.itv l r) := by show _ = _; unfold finOf; rw [← HFR.out]; exact hF
      rw [← hF] at ht
      have HT2 := Lib.hid ht
      have HL2 := Lib.hid hl2
      have HLZ2 := Lib.hid hl2z
      have HOB := Lib.hid hob
      have hk3t : wt.cell? ⟨g, 3, none⟩ = some (.int .i64 F) := cell_of_row _ _ 3 _ _ _ ht.row
      have hk15t : wt.cell? ⟨g, 15, none⟩ = some (.int .i64 d.itv) := cell_of_row _ _ 15 _ _ _ ht.row
      obtain ⟨K, hK⟩ : ∃ K, K = F * d.itv := ⟨_, rfl⟩
      have hK0 : 0 ≤ K := by rw [hK]; exact Int.mul_nonneg hF0 (by omega)
      have hK1 : K ≤ 10240000512 := by
        have := Int.mul_le_mul hF1 hi1 (by omega) (by omega : (0:Int) ≤ 20000001)
        rw [hK]; omega
      have hK2 := hK.symm
      have HKK := Lib.hid hK
      clear hwt hF hl2 hl2z ht hob hk2c hk3c hk15c hk29c hkf29 hkf3 hK HX HBX HSZ HFR
      go_quiet (fail)
      obtain ⟨wq, hwq⟩ : ∃ wq, wq = wt.drewN nq := ⟨_, rfl⟩
      rw [← hwq]
      have HQ : Hid (EnRow w0 wq g p { h with fin := F } d (.slice A2 l2.length c2) l2) := by show EnRow _ _ _ _ _ _ _ _; rw [hwq]; exact HT2.out.keep (below_drewN (Below.refl _ _) _)
      have HKQ : Hid (∀ q, q < w.heap.size → q ≠ g → wq.heap[q]? = w.heap[q]?) := fun q h1 h2 => by rw [hwq, (below_drewN (Below.refl wt.heap.size wt) nq).block q (Nat.lt_of_lt_of_le h1 HSW.out)]; exact HKP.out q h1 h2
      have HSQ : Hid (w.heap.size ≤ wq.heap.size) := by show _ ≤ _; rw [hwq]; exact Nat.le_trans HSW.out (below_drewN (Below.refl wt.heap.size wt) nq).size
      obtain ⟨A3, c3, he3, hs3, _⟩ := own_strs HQ.out.own
      cases he3
      have HS3 := Lib.hid hs3
      have hk29q : wq.cell? ⟨g, 29, none⟩ = some (.slice A2 l2.length c2) := cell_of_row _ _ 29 _ _ _ HQ.out.row
      clear hwq hk3t hk15t hs3 HT2 HKP hK2
      go_wp2
      go_loopw [5, 65] (fun x y wr => ∃ k : Nat, x = .int .i64 (K + ((content (l2.take k)).length : Int)) ∧ y = .int .i64 k ∧ k ≤ l2.length ∧ wq = wr) (fun _ y _ => l2.length - (intOf y).toNat)
      case atStart => exact ⟨0, by simp [content], rfl, Nat.zero_le _, rfl⟩
      case round =>
        obtain ⟨k, rfl, rfl, hk, rfl⟩ := hrel
        obtain ⟨a, ha⟩ : ∃ a, a = (content (l2.take k)).length := ⟨_, rfl⟩
        have ha1 : a ≤ 262144 := by rw [ha]; exact pageSum l2 hl2l HLZ2.out k
        by_cases hkl : k < l2.length
        · obtain ⟨b, o, hA, hlt, hc⟩ := HS3.out (by omega)
          have hck := hc k hkl
          have HCT : Hid ((content (l2.take (k + 1))).length = a + (l2.getD k ByteArray.empty).size) := by show _ = _; rw [content_takeS _ _ hkl, ← ha]
          have hsz : (l2.getD k ByteArray.empty).size ≤ 512 := HLZ2.out _ (by simp [List.getD, hkl])
          obtain ⟨s, hs⟩ : ∃ s, s = l2.getD k ByteArray.empty := ⟨_, rfl⟩
          rw [← hs] at hck HCT hsz
          subst hA
          rw [← ha]
          clear hs hc ha
          go_wp2
          refine ⟨⟨k + 1, ?_, by go_num, by omega, trivial⟩, by simp [intOf]; omega⟩
          rw [HCT.out]
          go_num
        · obtain rfl : k = l2.length := by omega
          have HCA : Hid (a = (content l2).length) := by show _ = _; rw [ha, List.take_of_length_le (Nat.le_refl _)]
          rw [← ha]
          clear ha HS3
          obtain ⟨n2, hn2⟩ : ∃ n2, n2 = l2.length := ⟨_, rfl⟩
          have HN2 : Hid (n2 + 1 ≤ maxLen ∧ (n2 + 1) * 16 ≤ 140737488355328 ∧ n2 = l2.length) := by show _ ∧ _; unfold maxLen; omega
          have HOWN : Hid (wq.ownsRow w0.heap.size 9 1 (.slice A2 n2 c2) n2 (l2.map Value.string)) := by
            have := HQ.out.own
            unfold OwnS at this
            rw [← hn2] at this
            exact this
          have HLE : Hid (w0.heap.size ≤ wq.heap.size) := HQ.out.bel.size
          rw [← hn2] at hk29q HQ HOB hl2l
          rw [← hn2]
          clear hn2 hk hkl
          go_wp2_with (first | (at_builtin; refine wpl_pushG elemStr rfl _ _ rfl w0.heap.size (.slice A2 n2 c2) n2 (l2.map Value.string) [.string r] rfl HOWN.out HLE.out _ rfl rfl rfl (by simp [Value.oneCell']) HN2.out.1 HN2.out.2.1 ?_; intro g3 cap w7 hown7 hgr7 hat7; have hrow7 : w7.heap[g]? = some (.cells (enCells p { h with fin := F } d (.slice A2 n2 c2)) 150 (0, 0)) := (hgr7.block g (by have := blk_lt HQ.out.row; simp; omega) (Ne.symm HQ.out.ne)).trans ((Below.heap_alloc _ _ _ (blk_lt HQ.out.row)).trans HQ.out.row); have hk7 : w7.cell? ⟨g, 2, none⟩ = some (.int .i64 h.cnt) := cell_of_row _ _ 2 _ _ _ hrow7; have hk8 : w7.cell? ⟨g, 29, none⟩ = some (.slice A2 n2 c2) := cell_of_row _ _ 29 _ _ _ hrow7; have hf7 := frozen_of_row _ _ 2 _ _ hrow7; have hf8 := frozen_of_row _ _ 29 _ _ hrow7; have HR7 := Lib.hid hrow7; have HO7 := Lib.hid hown7; have HG7 := Lib.hid hgr7; have HA7 := Lib.hid hat7; clear hrow7 hown7 hgr7 hat7))
          go_ret
          have hne : (Value.slice (some ⟨g3, 0, none⟩) (n2 + 1) cap).ownBlock ≠ some g := by
            have e : (Value.slice (some ⟨g3, 0, none⟩) (n2 + 1) cap).ownBlock = some g3 := rfl
            rw [e]
            rcases HA7.out with h | h
            · rw [← h]; exact HQ.out.ne
            · have := blk_lt HQ.out.row
              simp; omega
          refine ⟨ret_int ?_, .slice (some ⟨g3, 0, none⟩) (n2 + 1) cap, ?_, ?_, ?_⟩
          · show K + (a : Int) = _
            unfold atOf
            rw [← HFF.out, ← HL2.out, HCA.out, HKK.out]
          · rw [← HFF.out, ← HL2.out]
            refine ⟨by rw [heap_setCell_same _ _ _ _ _ _ (heap_setCell_same _ _ _ _ _ _ HR7.out)]; rfl, ?_, hne, ((below_grown (HQ.out.bel.alloc HLE.out _) HG7.out (World.ownsRow.alloc HOWN.out _)).setCell HQ.out.le _).setCell HQ.out.le _, HQ.out.le⟩
            have := own_setCell (i := 2) (u := .int .i64 (h.cnt + 1)) (own_setCell (i := 29) (u := .slice (some ⟨g3, 0, none⟩) (n2 + 1) cap) HO7.out hne) hne
            unfold OwnS
            rw [List.length_append, List.length_singleton, ← HN2.out.2.2, List.map_append]
            exact this
          · intro q hq hn ho
            rw [heap_setCell_other _ _ _ _ hn, heap_setCell_other _ _ _ _ hn, HG7.out.block q (by have := HSQ.out; simp; omega) (HOB.out q ho), Below.heap_alloc _ _ _ (Nat.lt_of_lt_of_le hq HSQ.out)]
            exact HKQ.out q hq hn
          · intro q hq hv
            have e : g3 = q := by
              have e1 : (Value.slice (some ⟨g3, 0, none⟩) (n2 + 1) cap).ownBlock = some g3 := rfl
              rw [e1] at hv
              exact Option.some.inj hv
            rcases Classical.em ((Value.slice A l.length c).ownBlock = some q) with h | h
            · exact h
            · exfalso
              rcases HA7.out with h7 | h7
              · exact HOB.out q (Ne.symm h) (by rw [h7, e])
              · have := HSQ.out
                omega
    | false =>
      go_wp2
      obtain ⟨wt, hwt⟩ : ∃ wt, wt = wc := ⟨_, rfl⟩
      rw [← hwt]
      have HSW : Hid (w.heap.size ≤ wt.heap.size) := by show _ ≤ _; rw [hwt]; exact HSZ.out
      have HKP : Hid (∀ q, q < w.heap.size → q ≠ g → wt.heap[q]? = w.heap[q]?) := fun q hq _ => by rw [hwt]; exact HBX.out.block q hq
      obtain ⟨A2, c2, l2, hl2, hl2l, hl2z, ht, hob⟩ : ∃ A2 c2 l2, l2 = lastOf h.fin d.itv l r ∧ l2.length ≤ 512 ∧ (∀ s ∈ l2, s.size ≤ 512) ∧ EnRow w0 wt g p { h with fin := h.fin } d (.slice A2 l2.length c2) l2 ∧ ∀ q, some q ≠ (Value.slice A l.length c).ownBlock → some q ≠ (Value.slice A2 l2.length c2).ownBlock :=
        ⟨A, c, l, by unfold lastOf; rw [← HFR.out]; rfl, hl, HLZ.out, by rw [hwt]; exact HX.out, fun _ h => h⟩
      obtain ⟨F, hF, hF0, hF1⟩ : ∃ F, F = h.fin ∧ 0 ≤ F ∧ F ≤ 20000001 := ⟨_, rfl, by omega, by omega⟩
      have HFF : Hid (F = finOf h.fin d.itv l r) := by show _ = _; unfold finOf; rw [← HFR.out]; exact hF
      replace ht : EnRow w0 wt g p { h with fin := F } d (.slice A2 l2.length c2) l2 := by rw [hF]; exact ht
      have HT2 := Lib.hid ht
      have HL2 := Lib.hid hl2
      have HLZ2 := Lib.hid hl2z
      have HOB := Lib.hid hob
      have hk3t : wt.cell? ⟨g, 3, none⟩ = some (.int .i64 F) := cell_of_row _ _ 3 _ _ _ ht.row
      have hk15t : wt.cell? ⟨g, 15, none⟩ = some (.int .i64 d.itv) := cell_of_row _ _ 15 _ _ _ ht.row
      obtain ⟨K, hK⟩ : ∃ K, K = F * d.itv := ⟨_, rfl⟩
      have hK0 : 0 ≤ K := by rw [hK]; exact Int.mul_nonneg hF0 (by omega)
      have hK1 : K ≤ 10240000512 := by
        have := Int.mul_le_mul hF1 hi1 (by omega) (by omega : (0:Int) ≤ 20000001)
        rw [hK]; omega
      have hK2 := hK.symm
      have HKK := Lib.hid hK
      clear hwt hF hl2 hl2z ht hob hk2c hk3c hk15c hk29c hkf29 hkf3 hK HX HBX HSZ HFR
      go_quiet (fail)
      obtain ⟨wq, hwq⟩ : ∃ wq, wq = wt.drewN nq := ⟨_, rfl⟩
      rw [← hwq]
      have HQ : Hid (EnRow w0 wq g p { h with fin := F } d (.slice A2 l2.length c2) l2) := by show EnRow _ _ _ _ _ _ _ _; rw [hwq]; exact HT2.out.keep (below_drewN (Below.refl _ _) _)
      have HKQ : Hid (∀ q, q < w.heap.size → q ≠ g → wq.heap[q]? = w.heap[q]?) := fun q h1 h2 => by rw [hwq, (below_drewN (Below.refl wt.heap.size wt) nq).block q (Nat.lt_of_lt_of_le h1 HSW.out)]; exact HKP.out q h1 h2
      have HSQ : Hid (w.heap.size ≤ wq.heap.size) := by show _ ≤ _; rw [hwq]; exact Nat.le_trans HSW.out (below_drewN (Below.refl wt.heap.size wt) nq).size
      obtain ⟨A3, c3, he3, hs3, _⟩ := own_strs HQ.out.own
      cases he3
      have HS3 := Lib.hid hs3
      have hk29q : wq.cell? ⟨g, 29, none⟩ = some (.slice A2 l2.length c2) := cell_of_row _ _ 29 _ _ _ HQ.out.row
      clear hwq hk3t hk15t hs3 HT2 HKP hK2
      go_wp2
      go_loopw [5, 65] (fun x y wr => ∃ k : Nat, x = .int .i64 (K + ((content (l2.take k)).length : Int)) ∧ y = .int .i64 k ∧ k ≤ l2.length ∧ wq = wr) (fun _ y _ => l2.length - (intOf y).toNat)
      case atStart => exact ⟨0, by simp [content], rfl, Nat.zero_le _, rfl⟩
      case round =>
        obtain ⟨k, rfl, rfl, hk, rfl⟩ := hrel
        obtain ⟨a, ha⟩ : ∃ a, a = (content (l2.take k)).length := ⟨_, rfl⟩
        have ha1 : a ≤ 262144 := by rw [ha]; exact pageSum l2 hl2l HLZ2.out k
        by_cases hkl : k < l2.length
        · obtain ⟨b, o, hA, hlt, hc⟩ := HS3.out (by omega)
          have hck := hc k hkl
          have HCT : Hid ((content (l2.take (k + 1))).length = a + (l2.getD k ByteArray.empty).size) := by show _ = _; rw [content_takeS _ _ hkl, ← ha]
          have hsz : (l2.getD k ByteArray.empty).size ≤ 512 := HLZ2.out _ (by simp [List.getD, hkl])
          obtain ⟨s, hs⟩ : ∃ s, s = l2.getD k ByteArray.empty := ⟨_, rfl⟩
          rw [← hs] at hck HCT hsz
          subst hA
          rw [← ha]
          clear hs hc ha
          go_wp2
          refine ⟨⟨k + 1, ?_, by go_num, by omega, trivial⟩, by simp [intOf]; omega⟩
          rw [HCT.out]
          go_num
        · obtain rfl : k = l2.length := by omega
          have HCA : Hid (a = (content l2).length) := by show _ = _; rw [ha, List.take_of_length_le (Nat.le_refl _)]
          rw [← ha]
          clear ha HS3
          obtain ⟨n2, hn2⟩ : ∃ n2, n2 = l2.length := ⟨_, rfl⟩
          have HN2 : Hid (n2 + 1 ≤ maxLen ∧ (n2 + 1) * 16 ≤ 140737488355328 ∧ n2 = l2.length) := by show _ ∧ _; unfold maxLen; omega
          have HOWN : Hid (wq.ownsRow w0.heap.size 9 1 (.slice A2 n2 c2) n2 (l2.map Value.string)) := by
            have := HQ.out.own
            unfold OwnS at this
            rw [← hn2] at this
            exact this
          have HLE : Hid (w0.heap.size ≤ wq.heap.size) := HQ.out.bel.size
          rw [← hn2] at hk29q HQ HOB hl2l
          rw [← hn2]
          clear hn2 hk hkl
          go_wp2_with (first | (at_builtin; refine wpl_pushG elemStr rfl _ _ rfl w0.heap.size (.slice A2 n2 c2) n2 (l2.map Value.string) [.string r] rfl HOWN.out HLE.out _ rfl rfl rfl (by simp [Value.oneCell']) HN2.out.1 HN2.out.2.1 ?_; intro g3 cap w7 hown7 hgr7 hat7; have hrow7 : w7.heap[g]? = some (.cells (enCells p { h with fin := F } d (.slice A2 n2 c2)) 150 (0, 0)) := (hgr7.block g (by have := blk_lt HQ.out.row; simp; omega) (Ne.symm HQ.out.ne)).trans ((Below.heap_alloc _ _ _ (blk_lt HQ.out.row)).trans HQ.out.row); have hk7 : w7.cell? ⟨g, 2, none⟩ = some (.int .i64 h.cnt) := cell_of_row _ _ 2 _ _ _ hrow7; have hk8 : w7.cell? ⟨g, 29, none⟩ = some (.slice A2 n2 c2) := cell_of_row _ _ 29 _ _ _ hrow7; have hf7 := frozen_of_row _ _ 2 _ _ hrow7; have hf8 := frozen_of_row _ _ 29 _ _ hrow7; have HR7 := Lib.hid hrow7; have HO7 := Lib.hid hown7; have HG7 := Lib.hid hgr7; have HA7 := Lib.hid hat7; clear hrow7 hown7 hgr7 hat7))
          go_ret
          have hne : (Value.slice (some ⟨g3, 0, none⟩) (n2 + 1) cap).ownBlock ≠ some g := by
            have e : (Value.slice (some ⟨g3, 0, none⟩) (n2 + 1) cap).ownBlock = some g3 := rfl
            rw [e]
            rcases HA7.out with h | h
            · rw [← h]; exact HQ.out.ne
            · have := blk_lt HQ.out.row
              simp; omega
          refine ⟨ret_int ?_, .slice (some ⟨g3, 0, none⟩) (n2 + 1) cap, ?_, ?_, ?_⟩
          · show K + (a : Int) = _
            unfold atOf
            rw [← HFF.out, ← HL2.out, HCA.out, HKK.out]
          · rw [← HFF.out, ← HL2.out]
            refine ⟨by rw [heap_setCell_same _ _ _ _ _ _ (heap_setCell_same _ _ _ _ _ _ HR7.out)]; rfl, ?_, hne, ((below_grown (HQ.out.bel.alloc HLE.out _) HG7.out (World.ownsRow.alloc HOWN.out _)).setCell HQ.out.le _).setCell HQ.out.le _, HQ.out.le⟩
            have := own_setCell (i := 2) (u := .int .i64 (h.cnt + 1)) (own_setCell (i := 29) (u := .slice (some ⟨g3, 0, none⟩) (n2 + 1) cap) HO7.out hne) hne
            unfold OwnS
            rw [List.length_append, List.length_singleton, ← HN2.out.2.2, List.map_append]
            exact this
          · intro q hq hn ho
            rw [heap_setCell_other _ _ _ _ hn, heap_setCell_other _ _ _ _ hn, HG7.out.block q (by have := HSQ.out; simp; omega) (HOB.out q ho), Below.heap_alloc _ _ _ (Nat.lt_of_lt_of_le hq HSQ.out)]
            exact HKQ.out q hq hn
          · intro q hq hv
            have e : g3 = q := by
              have e1 : (Value.slice (some ⟨g3, 0, none⟩) (n2 + 1) cap).ownBlock = some g3 := rfl
              rw [e1] at hv
              exact Option.some.inj hv
            rcases Classical.em ((Value.slice A l.length c).ownBlock = some q) with h | h
            · exact h
            · exfalso
              rcases HA7.out with h7 | h7
              · exact HOB.out q (Ne.symm h) (by rw [h7, e])
              · have := HSQ.out
                omega
end Go.Proofs.YtnkhifgppcnmkaaDoor

/- Walks of chapter 18: Append. -/
namespace Go.Proofs.YtnkhifgppcnmkaaDoor
open Go.RowKit Iv

theorem len_content (l : List ByteArray) (h : ∀ s ∈ l, 1 ≤ s.size) : l.length ≤ (content l).length := by
  induction l with
  | nil => simp
  | cons s l ih =>
    rw [content_cons, List.length_append, List.length_cons]
    have := ih (fun x hx => h x (by simp [hx]))
    have h2 := h s (by simp)
    have e : s.data.toList.length = s.size := Array.length_toList
    omega

theorem fits_small {size : Int} {l : List ByteArray} (h : fitsOf size l = true) : l.length ≤ 512 ∧ ∀ s ∈ l, s.size ≤ 512 := by
  unfold fitsOf at h
  simp only [Bool.and_eq_true, decide_eq_true_eq] at h
  obtain ⟨⟨h1, h2⟩, h3⟩ := h
  have h4 := (okRec_iff l).1 h2
  have h5 := len_content l (fun s hs => (h4 s hs).1)
  have h6 := sizes l
  refine ⟨?_, fun s hs => by have := h4 s hs; omega⟩
  rcases isSz_cases h1 with h | h | h <;> omega

theorem end_small (m : List ByteArray) (h : Hd) (d : Ds) : (endOfC m h d).1.length ≤ 512 ∧ ∀ s ∈ (endOfC m h d).1, s.size ≤ 512 := by
  unfold endOfC
  split
  · simp
  · unfold loadOf
    split
    · simp
    · split
      · simp
      · rename_i h2
        have h3 : (decodeOf d.itv (pageOf m h.fin).1).2 = 0 := by
          rcases Classical.em ((decodeOf d.itv (pageOf m h.fin).1).2 = 0) with h | h
          · exact h
          · exact absurd (.inl h) h2
        rcases hx : decodeOf d.itv (pageOf m h.fin).1 with ⟨l, k⟩
        rw [hx] at h3
        dsimp only at h3
        subst h3
        have h4 := decode_ok hx
        exact fits_small ((encode_fits d.itv l).1 (by rw [h4]))

theorem door_zero {h : Hd} {d : Ds} {org : Int} (e : doorOf h d org = 0) : validOf d = true ∧ plainOf h = true := by
  unfold doorOf at e
  split at e
  · simp at e
  · rename_i hn
    cases h1 : validOf d <;> cases h2 : plainOf h <;> simp_all

theorem plain_facts {h : Hd} (e : plainOf h = true) : 0 ≤ h.cnt ∧ h.cnt ≤ 16777216 ∧ 0 ≤ h.fin ∧ h.fin ≤ 16777216 := by
  unfold plainOf at e
  simp at e
  omega
theorem valid_facts {d : Ds} (e : validOf d = true) : 1 ≤ d.itv ∧ d.itv ≤ 512 ∧ d.len ≤ 200 := by
  unfold validOf at e
  simp only [decide_eq_true_eq] at e
  obtain ⟨h1, _, h2, _⟩ := e
  omega

/-- The cells of writes. -/
def wrCells (ws : List (Int × ByteArray)) : List Value := ws.flatMap fun x => [.int .i64 x.1, .string x.2]

/-- What Append answers. -/
def AppTo (w : World) (a : App) (e : Ending) (w' : World) : Prop :=
  ∃ A c, e = .returned (.tuple #[.agg a.h.cells, .slice A a.ws.length c, .int .i64 a.at_, .int .i64 a.e]) ∧ RowA w' A (wrCells a.ws) ∧ Below w.heap.size w w'

theorem built_hd0 : Tryd.prog.built 30 [] = some hd0.cells := by kernel_rfl
theorem hd_one (h : Hd) : h.cells.all (·.oneCell') = true := by kernel_rfl

/-- A result that lies in a cell, and three more. -/
theorem results_cell4 {fn : Func} {p q r s : Tmp} {ty : TypeId} (h : fn.results = #[.cell p ty, .tmp q, .tmp r, .tmp s]) (tmps : Array Value) (w : World) (g : Nat) (t : TypeId) (cs : Array Value) (fr : Nat × Nat) (fs : Array Field)
    (hp : tmps.getD p undef = .pointer (some ⟨g, 0, none⟩)) (hg : w.heap[g]? = some (.cells cs t fr))
    (hu : Tryd.prog.underlying ty = some (.struct fs)) (hi : (Tryd.prog.info? ty).map (·.size) = some cs.size) (v u x : Value) (hq : tmps.getD q undef = v) (hr : tmps.getD r undef = u) (hs : tmps.getD s undef = x) :
    (results fn tmps).run Tryd.prog w = .ok (.tuple #[.agg cs, v, u, x]) w := by
  subst hq hr hs
  have hp' : tmps[p]?.getD undef = .pointer (some ⟨g, 0, none⟩) := by simpa using hp
  simp [results, h, hp', asAddr, run_loadVar_row w g t ty cs fr _ hg hu rfl hi]

theorem set7 (Z : Array Value) (h : Z.size = 7) (a0 a1 a2 a3 a4 a5 a6 : Value) :
    ((((((Z.setIfInBounds 0 a0).setIfInBounds 1 a1).setIfInBounds 2 a2).setIfInBounds 3 a3).setIfInBounds 4 a4).setIfInBounds 5 a5).setIfInBounds 6 a6 = #[a0, a1, a2, a3, a4, a5, a6] := by
  apply Array.ext
  · simp [h]
  · intro i h1 h2
    have hi : i < 7 := h2
    have : i = 0 ∨ i = 1 ∨ i = 2 ∨ i = 3 ∨ i = 4 ∨ i = 5 ∨ i = 6 := by omega
    rcases this with rfl | rfl | rfl | rfl | rfl | rfl | rfl <;> simp [h]

/-- Seven cells of a block are set. -/
theorem heap_set7 (w : World) (R : Nat) (Z : Array Value) (t : TypeId) (hg : w.heap[R]? = some (.cells Z t (0, 0))) (h : Z.size = 7) (a0 a1 a2 a3 a4 a5 a6 : Value) :
    (((((((w.setCell ⟨R, 0, none⟩ a0).setCell ⟨R, 1, none⟩ a1).setCell ⟨R, 2, none⟩ a2).setCell ⟨R, 3, none⟩ a3).setCell ⟨R, 4, none⟩ a4).setCell ⟨R, 5, none⟩ a5).setCell ⟨R, 6, none⟩ a6).heap[R]? = some (.cells #[a0, a1, a2, a3, a4, a5, a6] t (0, 0)) := by
  rw [heap_setCell_same _ _ _ _ _ _ (heap_setCell_same _ _ _ _ _ _ (heap_setCell_same _ _ _ _ _ _ (heap_setCell_same _ _ _ _ _ _ (heap_setCell_same _ _ _ _ _ _ (heap_setCell_same _ _ _ _ _ _ (heap_setCell_same _ _ _ _ _ _ hg))))))]
  rw [set7 Z h]

/-- A struct is stored in a new block. -/
theorem wpl_store_fresh {ops : Array Oper} {rest : List Oper} {o : Oper} {a : Act} {W : World} {Q : Exit → Act → World → Prop} (hgd : o.guard = none) (ty : TypeId) (x y : Operand) (ho : o.op = .store ty x y)
    (cells : Array Value) (hy : a.eval y = .agg cells) (t : TypeId) (old : Array Value) (hx : a.eval x = .pointer (some ⟨W.heap.size, 0, none⟩)) (hi : (Tryd.prog.info? ty).map (·.size) = some cells.size)
    (hold : old.size = cells.size) (h1 : cells.all (·.oneCell') = true)
    (h : ∀ w2, w2.heap[W.heap.size]? = some (.cells cells t (0, 0)) → Below W.heap.size W w2 → w2.heap.size = W.heap.size + 1 → wpList Tryd.prog ops Q rest (a.put o.dst undef) w2) :
    wpList Tryd.prog ops Q (o :: rest) a (W.alloc (.cells old t)) := by
  refine wpList_store_row hgd ty x y ho W.heap.size cells hx hy t old (heap_alloc_new W _) hi hold h1 ?_
  exact h _ (setRow_heap _ _ _ _ _ _ (heap_alloc_new W _)) (below_setRow ((Below.refl _ _).alloc (Nat.le_refl _) _) (Nat.le_refl _) _) (by simp)

set_option maxHeartbeats 1600000 in
set_option maxRecDepth 100000 in
theorem append_any (A : Option Addr) (c : Nat) (m : List ByteArray) (h : Hd) (d : Ds) (r : ByteArray) (w : World) (hm : m.length ≤ 9223372036854775807) (hz : ∀ s ∈ m, s.size ≤ 1000) (hs : StrsA w A m) (hrz : r.size ≤ 9223372036854775807) :
    Calls Tryd.prog 52 #[memV A m.length c, .agg h.cells, .agg d.cells, .string r] w (AppTo w (appendOf m h d r)) := by
  have HOP : Hid (∀ w', Calls Tryd.prog 105 #[memV A m.length c, .agg h.cells, .agg d.cells] w' (OpenTo (memV A m.length c) h d w' (doorOf h d 1))) := fun w' => open_any A m.length c h d w'
  have HEN : Hid (∀ w', Below w.heap.size w w' → Calls Tryd.prog 107 #[.agg (clCells (memV A m.length c) h d)] w' (EndTo (memV A m.length c) h d w' (endOfC m h d))) := fun w' hb => theEnd_any A c m h d w' hm hz (hs.keep hb)
  have HCO : Hid (∀ h d, (clCells (memV A m.length c) h d).all (·.oneCell') = true) := fun h d => clCells_one A m.length c h d
  have HEO : Hid (∀ h d B k q, (enCells (memV A m.length c) h d (.slice B k q)).all (·.oneCell') = true) := fun h d B k q => enCells_one A m.length c h d B k q
  obtain ⟨pv, hpv⟩ : ∃ pv, pv = memV A m.length c := ⟨_, rfl⟩
  rw [← hpv] at HOP HEN HCO HEO ⊢
  clear hpv hs hz
  have HG : Hid (((w.alloc (.cells h.cells 30)).alloc (.cells d.cells 23)).heap[w.heap.size + 1]? = some (.cells d.cells 23 (0, 0)) ∧ ((w.alloc (.cells h.cells 30)).alloc (.cells d.cells 23)).heap[w.heap.size]? = some (.cells h.cells 30 (0, 0))) := ⟨heap_at_alloc (by simp), by rw [Below.heap_alloc _ _ _ (by simp)]; exact heap_alloc_new w _⟩
  have hds := d.size
  have hhs := h.size
  obtain ⟨k, hk⟩ : ∃ k, k = doorOf h d 1 := ⟨_, rfl⟩
  rw [← hk] at HOP
  by_cases hk0 : k = 0
  · obtain ⟨hv, hp⟩ := door_zero (hk.symm.trans hk0)
    obtain ⟨hc0, hc1, hf0, hf1⟩ := plain_facts hp
    obtain ⟨hi0, hi1, hlen⟩ := valid_facts hv
    have HD0 : Hid (doorOf h d 1 = 0) := hk.symm.trans hk0
    have HK := Lib.hid hk0
    clear hv hp hk hk0
    go_enter Tryd.func52, Tryd.ntmps52
    go_wp2_with (first | (refine wpl_load_row 23 _ rfl rfl (w.heap.size + 1) rfl 23 d.cells (0, 0) _ (by rw [Below.heap_alloc _ _ _ (by simp)]; exact HG.out.1) Tryd.underlying23 (by rw [Ds.size]; exact info23) ?_) | (refine wpl_load_row 30 _ rfl rfl w.heap.size rfl 30 h.cells (0, 0) _ (by rw [Below.heap_alloc _ _ _ (by simp; omega)]; exact HG.out.2) Tryd.underlying30 (by rw [Hd.size]; exact info30) ?_) | fail)
    refine (HOP.out _).mono ?_
    rintro e w1 ⟨cs, rfl, hcs, _, hb1⟩
    obtain rfl := hcs HK.out
    obtain rfl := HK.out
    have hgz : ∃ Z : Array Value, Z.size = 7 ∧ w1.heap[w.heap.size + 1 + 1]? = some (.cells Z 30 (0, 0)) := ⟨_, rfl, (hb1.block _ (by simp)).trans (heap_at_alloc (by simp))⟩
    obtain ⟨Z, hZ, hgz⟩ := hgz
    have HGD1 : Hid (w1.heap[w.heap.size + 1]? = some (.cells d.cells 23 (0, 0))) := (hb1.block _ (by simp)).trans ((Below.heap_alloc _ _ _ (by simp)).trans HG.out.1)
    have HB1 := Lib.hid (bstep ((((Below.refl _ _).alloc (Nat.le_refl _) _).alloc (by simp) _).alloc (by simp; omega) _) hb1)
    have HGZ := Lib.hid hgz
    have HZ := Lib.hid hZ
    clear hb1 hgz hZ hcs HOP
    obtain ⟨bk, hbk⟩ : ∃ bk, bk = inB (r.size : Int) 1 d.len := ⟨_, rfl⟩
    have HBK := Lib.hid hbk
    clear hbk
    go_wp2_with (first | (refine wpl_store_fresh rfl 146 _ _ rfl (clCells pv h d) rfl 146 _ rfl (by rw [clCells_size]; exact info146) rfl (HCO.out _ _) ?_; intro w2 hg2 hb2 hs2; have HB2 := Lib.hid (bstep HB1.out hb2); have HGD2 := Lib.hid ((hb2.block _ (blk_lt HGD1.out)).trans HGD1.out); have HGZ2 := Lib.hid ((hb2.block _ (blk_lt HGZ.out)).trans HGZ.out); have HGC2 := Lib.hid hg2; clear hg2 hb2 hs2) | (refine wpl_load_row 146 _ rfl rfl w1.heap.size rfl 146 (clCells pv h d) (0, 0) _ HGC2.out Tryd.underlying146 (by rw [clCells_size]; exact info146) ?_) | fail)
    refine (allowedC_any pv h d (r.size : Int) _).mono ?_
    rintro e w3 ⟨rfl, hb3⟩
    rw [← HBK.out]
    have HB3 := Lib.hid (bstep HB2.out hb3)
    have HGZ3 := Lib.hid ((hb3.block _ (blk_lt HGZ2.out)).trans HGZ2.out)
    have HGC3 := Lib.hid ((hb3.block _ (blk_lt HGC2.out)).trans HGC2.out)
    have HGD3 := Lib.hid ((hb3.block _ (blk_lt HGD2.out)).trans HGD2.out)
    clear hb3
    cases bk with
    | false =>
      have HAN : Hid (appendOf m h d r = ⟨hd0, [], 0, 2⟩) := by
        show _ = _
        unfold appendOf
        rw [HD0.out, if_neg (by simp), if_pos (by have := inB_false HBK.out.symm; omega)]
      go_wp2_with (first | (refine wpl_build 30 _ rfl rfl [] hd0.cells (by kernel_rfl) built_hd0 ?_) | (refine wpList_store_row rfl 30 _ _ rfl (w.heap.size + 1 + 1) hd0.cells rfl rfl 30 Z HGZ3.out (by rw [Hd.size]; exact info30) (by rw [HZ.out, Hd.size]) (hd_one _) ?_) | fail)
      refine bodyPost_ret (v := .tuple #[.agg hd0.cells, .slice none 0 0, .int .i64 0, .int .i64 2]) (results_cell4 (p := 8) (q := 9) (r := 10) (s := 11) rfl _ _ (w.heap.size + 1 + 1) 30 hd0.cells (0, 0) _ rfl (setRow_heap _ _ _ _ _ _ HGZ3.out) Tryd.underlying30 (by rw [Hd.size]; exact info30) _ _ _ rfl rfl rfl) rfl ?_
      rw [HAN.out]
      exact ⟨none, 0, rfl, fun h => absurd h (by simp [wrCells]), below_setRow HB3.out (by omega) _⟩

    | true =>
      have hrb : 1 ≤ (r.size : Int) ∧ (r.size : Int) ≤ d.len := inB_true HBK.out.symm
      obtain ⟨⟨l, k2⟩, hlk⟩ : ∃ x, x = endOfC m h d := ⟨_, rfl⟩
      have HSM : Hid (l.length ≤ 512 ∧ ∀ s ∈ l, s.size ≤ 512) := by
        have := end_small m h d
        rw [← hlk] at this
        exact this
      rw [← hlk] at HEN
      have HLK := Lib.hid hlk
      clear hlk
      by_cases hk2 : k2 = 0
      · have HAN : Hid (appendOf m h d r = ⟨{ h with cnt := h.cnt + 1, fin := finOf h.fin d.itv l r }, [(finOf h.fin d.itv l r, (encodeOf d.itv (lastOf h.fin d.itv l r ++ [r])).1)], atOf h.fin d.itv l r, 0⟩) := by
          show _ = _
          unfold appendOf
          rw [HD0.out, if_neg (by simp), if_neg (by omega), ← HLK.out, if_neg (by simp [hk2])]
        have hn2 : (k2 != 0) = false := by simp [hk2]
        subst hk2
        go_wp2_with (first | (refine wpl_load_row 146 _ rfl rfl w1.heap.size rfl 146 (clCells pv h d) (0, 0) _ HGC3.out Tryd.underlying146 (by rw [clCells_size]; exact info146) ?_) | fail)
        refine (HEN.out _ HB3.out).mono ?_
        rintro e w4 ⟨v, rfl, hown, hb4⟩
        have HB4 := Lib.hid (bstep HB3.out hb4)
        have HGZ4 := Lib.hid ((hb4.block _ (blk_lt HGZ3.out)).trans HGZ3.out)
        have HGD4 := Lib.hid ((hb4.block _ (blk_lt HGD3.out)).trans HGD3.out)
        obtain ⟨A2, c2, rfl, _, _⟩ := own_row hown
        have HOL : Hid (∀ g, (Value.slice A2 l.length c2).ownBlock = some g → w3.heap.size ≤ g ∧ g < w4.heap.size) := fun g hg => World.ownsRow.lt hown g hg
        have HO4 := Lib.hid hown
        have HS3 : Hid (w.heap.size + 1 + 1 < w3.heap.size ∧ w3.heap.size ≤ w4.heap.size) := ⟨blk_lt HGZ3.out, hb4.size⟩
        clear hown hb4
        dsimp only
        go_wp2_with (first | (refine wpl_store_fresh rfl 150 _ _ rfl (enCells pv h d (.slice A2 l.length c2)) rfl 150 _ rfl (by rw [enCells_size]; exact info150) rfl (HEO.out _ _ _ _ _) ?_; intro w5 hg5 hb5 hs5; have HB5 := Lib.hid (bstep HB4.out hb5); have HGD5 := Lib.hid ((hb5.block _ (blk_lt HGD4.out)).trans HGD4.out); have HGZ5 := Lib.hid ((hb5.block _ (blk_lt HGZ4.out)).trans HGZ4.out); have HR5 : Hid (EnRow w w5 w4.heap.size pv h d (.slice A2 l.length c2) l) := ⟨hg5, own_keep (own_mono HO4.out (by have := HB3.out.size; omega)) hb5, fun e => by have := (HOL.out _ e).2; omega, HB5.out, HB4.out.size⟩; have HS5 : Hid (w5.heap.size = w4.heap.size + 1) := hs5; clear hg5 hb5 hs5) | fail)
        refine (add_any w w5 w4.heap.size pv h d A2 c2 l r HR5.out HSM.out.1 HSM.out.2 (by omega) hf0 (by omega) hc0 (by omega) hi0 hi1).mono ?_
        rintro e w6 ⟨rfl, v2, hen, hkeep, _⟩
        have HGD6 : Hid (w6.heap[w.heap.size + 1]? = some (.cells d.cells 23 (0, 0))) := (hkeep _ (blk_lt HGD5.out) (by have := HS3.out; omega) (fun e => by have := HOL.out _ e.symm; have := HS3.out; omega)).trans HGD5.out
        have HGZ6 : Hid (w6.heap[w.heap.size + 1 + 1]? = some (.cells Z 30 (0, 0))) := (hkeep _ (blk_lt HGZ5.out) (by have := HS3.out; omega) (fun e => by have := HOL.out _ e.symm; have := HS3.out; omega)).trans HGZ5.out
        have HBL : Hid ((lastOf h.fin d.itv l r ++ [r]).length ≤ 1000 ∧ ∀ s ∈ lastOf h.fin d.itv l r ++ [r], s.size ≤ 1000) := by
          have h1 := HSM.out
          have h2 : r.size ≤ 200 := by omega
          have h3 : (lastOf h.fin d.itv l r).length ≤ 512 ∧ ∀ s ∈ lastOf h.fin d.itv l r, s.size ≤ 512 := by
            unfold lastOf; split
            · simp
            · exact h1
          refine ⟨by rw [List.length_append, List.length_singleton]; omega, fun s hs => ?_⟩
          rcases List.mem_append.1 hs with hs | hs
          · have := h3.2 s hs; omega
          · have : s = r := by simpa using hs
            subst this; omega
        obtain ⟨L, hL⟩ : ∃ L, L = lastOf h.fin d.itv l r ++ [r] := ⟨_, rfl⟩
        rw [← hL] at hen HBL HAN
        obtain ⟨F, hF⟩ : ∃ F, F = finOf h.fin d.itv l r := ⟨_, rfl⟩
        rw [← hF] at hen HAN
        obtain ⟨a, ha⟩ : ∃ a, a = atOf h.fin d.itv l r := ⟨_, rfl⟩
        rw [← ha] at HAN ⊢
        obtain ⟨pg, hpg⟩ : ∃ pg, pg = encodeOf d.itv L := ⟨_, rfl⟩
        rw [← hpg] at HAN
        obtain ⟨h', hh'⟩ : ∃ h' : Hd, h' = { h with cnt := h.cnt + 1, fin := F } := ⟨_, rfl⟩
        rw [← hh'] at hen HAN
        have hfin' : h'.fin = F := by rw [hh']
        obtain ⟨g, hg⟩ : ∃ g, g = w4.heap.size := ⟨_, rfl⟩
        have hne : g ≠ w.heap.size + 1 + 1 := by have := HS3.out; omega
        have hne2 : w.heap.size + 1 + 1 ≠ g := Ne.symm hne
        rw [← hg] at hen ⊢
        obtain ⟨A3, c3, rfl, hs3, hlc⟩ := own_strs hen.own
        have HEC : Hid (∀ w', Below w6.heap.size w6 w' → Calls Tryd.prog 36 #[.int .i64 d.itv, .slice A3 L.length c3] w' fun e w'' => e = .returned (.tuple #[.string pg.1, .int .i64 pg.2]) ∧ Below w'.heap.size w' w'') := fun w' hb => by rw [hpg]; exact encode_any d.itv A3 c3 L w' HBL.out.1 HBL.out.2 hlc (hs3.keep hb)
        have hk7 : w6.cell? ⟨w.heap.size + 1, 7, none⟩ = some (.int .i64 d.itv) := (cell_of_row _ _ 7 _ _ _ HGD6.out).trans d.itv_at
        have hk29 : w6.cell? ⟨g, 29, none⟩ = some (.slice A3 L.length c3) := cell_of_row _ _ 29 _ _ _ hen.row
        have HEN6 := Lib.hid hen
        clear hen hkeep hL hF ha hpg hh' hg hs3 hlc
        go_wp2_with fail
        refine (HEC.out _ (Below.refl _ _)).mono ?_
        rintro e w7 ⟨rfl, hb7⟩
        have HEN7 := Lib.hid (HEN6.out.keep hb7)
        have hgz7 := (hb7.block _ (blk_lt HGZ6.out)).trans HGZ6.out
        have q1 : w7.cell? ⟨g, 1, none⟩ = some (.int .i64 h'.app) := cell_of_row _ _ 1 _ _ _ HEN7.out.row
        have q2 : w7.cell? ⟨g, 2, none⟩ = some (.int .i64 h'.cnt) := cell_of_row _ _ 2 _ _ _ HEN7.out.row
        have q3 : w7.cell? ⟨g, 3, none⟩ = some (.int .i64 h'.fin) := cell_of_row _ _ 3 _ _ _ HEN7.out.row
        have q4 : w7.cell? ⟨g, 4, none⟩ = some (.int .i64 h'.root) := cell_of_row _ _ 4 _ _ _ HEN7.out.row
        have q5 : w7.cell? ⟨g, 5, none⟩ = some (.int .i64 h'.ht) := cell_of_row _ _ 5 _ _ _ HEN7.out.row
        have q6 : w7.cell? ⟨g, 6, none⟩ = some (.int .i64 h'.spl) := cell_of_row _ _ 6 _ _ _ HEN7.out.row
        have q7 : w7.cell? ⟨g, 7, none⟩ = some (.int .i64 h'.areas) := cell_of_row _ _ 7 _ _ _ HEN7.out.row
        clear hb7 hk7 hk29
        go_wp2
        obtain ⟨R, hR⟩ : ∃ R, R = w.heap.size + 1 + 1 := ⟨_, rfl⟩
        have HR : Hid (w.heap.size ≤ R) := by show _ ≤ _; omega
        rw [← hR] at hgz7 hne hne2
        rw [← hR]
        have hcell : ∀ i, i < 7 → ∃ z, w7.cell? ⟨R, i, none⟩ = some z := fun i hi => ⟨Z[i]'(by rw [HZ.out]; exact hi), by rw [cell_of_row _ _ i _ _ _ hgz7]; exact Array.getElem?_eq_getElem _⟩
        obtain ⟨z0, y0⟩ := hcell 0 (by decide)
        obtain ⟨z1, y1⟩ := hcell 1 (by decide)
        obtain ⟨z2, y2⟩ := hcell 2 (by decide)
        obtain ⟨z3, y3⟩ := hcell 3 (by decide)
        obtain ⟨z4, y4⟩ := hcell 4 (by decide)
        obtain ⟨z5, y5⟩ := hcell 5 (by decide)
        obtain ⟨z6, y6⟩ := hcell 6 (by decide)
        have hfz : ∀ i, w7.frozen? ⟨R, i, none⟩ = false := fun i => frozen_of_row _ _ i _ _ hgz7
        have f0 := hfz 0
        have f1 := hfz 1
        have f2 := hfz 2
        have f3 := hfz 3
        have f4 := hfz 4
        have f5 := hfz 5
        have f6 := hfz 6
        have hl1 := blk_lt hgz7
        have hl2 := blk_lt HEN7.out.row
        have HGZ7 := Lib.hid hgz7
        obtain ⟨p1, p2⟩ := pg
        dsimp only
        dsimp only at HAN
        clear hR hgz7 hcell hfz hds hhs hn2
        go_region
        obtain ⟨wy, hwy⟩ : ∃ wy, wy = ((((((w7.setCell ⟨R, 0, none⟩ (.int .i64 h'.app)).setCell ⟨R, 1, none⟩ (.int .i64 h'.cnt)).setCell ⟨R, 2, none⟩ (.int .i64 F)).setCell ⟨R, 3, none⟩ (.int .i64 h'.root)).setCell ⟨R, 4, none⟩ (.int .i64 h'.ht)).setCell ⟨R, 5, none⟩ (.int .i64 h'.spl)).setCell ⟨R, 6, none⟩ (.int .i64 h'.areas) := ⟨_, rfl⟩
        rw [← hwy]
        have HWR : Hid (wy.heap[R]? = some (.cells h'.cells 30 (0, 0))) := by
          show _ = _
          rw [hwy, heap_set7 w7 R Z 30 HGZ7.out HZ.out]
          unfold Hd.cells
          rw [hfin']
        have HWS : Hid (wy.heap.size = w7.heap.size) := by show _ = _; rw [hwy]; simp [World.setCell]
        have HWB : Hid (Below w.heap.size w wy) := by
          show Below _ _ _
          rw [hwy]
          exact ((((((HEN7.out.bel.setCell HR.out _).setCell HR.out _).setCell HR.out _).setCell HR.out _).setCell HR.out _).setCell HR.out _).setCell HR.out _
        clear hwy y0 y1 y2 y3 y4 y5 y6 f0 f1 f2 f3 f4 f5 f6 q1 q2 q3 q4 q5 q6 q7 hfin'
        go_wp2_with fail
        have hrow : (wy.alloc (.cells #[.int .i64 F, .string p1] 97)).drew.heap[R]? = some (.cells h'.cells 30 (0, 0)) := (Below.heap_alloc _ _ _ (blk_lt HWR.out)).trans HWR.out
        refine bodyPost_ret (v := .tuple #[.agg h'.cells, .slice (some ⟨w7.heap.size, 0, none⟩) 1 1, .int .i64 a, .int .i64 0]) (results_cell4 (p := 8) (q := 9) (r := 10) (s := 11) rfl _ _ R 30 h'.cells (0, 0) _ rfl hrow Tryd.underlying30 (by rw [Hd.size]; exact info30) _ _ _ rfl rfl rfl) rfl ?_
        rw [HAN.out]
        refine ⟨some ⟨w7.heap.size, 0, none⟩, 1, rfl, ?_, (HWB.out.alloc HWB.out.size _).drew⟩
        intro _
        rw [← HWS.out]
        refine ⟨wy.heap.size, 0, rfl, by simp, fun i hi => ?_⟩
        have hb : (wy.alloc (.cells #[.int .i64 F, .string p1] 97)).drew.heap[wy.heap.size]? = some (.cells #[.int .i64 F, .string p1] 97 (0, 0)) := heap_alloc_new wy _
        rw [Nat.zero_add, cell_of_row _ _ i _ _ _ hb]
        simp [wrCells]
      · have HAN : Hid (appendOf m h d r = ⟨hd0, [], 0, k2⟩) := by
          show _ = _
          unfold appendOf
          rw [HD0.out, if_neg (by simp), if_neg (by omega), ← HLK.out, if_pos hk2]
        have hn2 : (k2 != 0) = true := by simp [hk2]
        clear hk2
        go_wp2_with (first | (refine wpl_load_row 146 _ rfl rfl w1.heap.size rfl 146 (clCells pv h d) (0, 0) _ HGC3.out Tryd.underlying146 (by rw [clCells_size]; exact info146) ?_) | fail)
        refine (HEN.out _ HB3.out).mono ?_
        rintro e w4 ⟨v, rfl, hown, hb4⟩
        have HB4 := Lib.hid (bstep HB3.out hb4)
        have HGZ4 := Lib.hid ((hb4.block _ (blk_lt HGZ3.out)).trans HGZ3.out)
        obtain ⟨A2, c2, rfl, _, _⟩ := own_row hown
        clear hown hb4
        dsimp only
        go_wp2_with (first | (refine wpl_store_fresh rfl 150 _ _ rfl (enCells pv h d (.slice A2 l.length c2)) rfl 150 _ rfl (by rw [enCells_size]; exact info150) rfl (HEO.out _ _ _ _ _) ?_; intro w5 hg5 hb5 hs5; have HB5 := Lib.hid (bstep HB4.out hb5); have HGZ5 := Lib.hid ((hb5.block _ (blk_lt HGZ4.out)).trans HGZ4.out); clear hg5 hb5 hs5) | (refine wpl_build 30 _ rfl rfl [] hd0.cells (by kernel_rfl) built_hd0 ?_) | (refine wpList_store_row rfl 30 _ _ rfl (w.heap.size + 1 + 1) hd0.cells rfl rfl 30 Z HGZ5.out (by rw [Hd.size]; exact info30) (by rw [HZ.out, Hd.size]) (hd_one _) ?_) | fail)
        refine bodyPost_ret (v := .tuple #[.agg hd0.cells, .slice none 0 0, .int .i64 0, .int .i64 k2]) (results_cell4 (p := 8) (q := 9) (r := 10) (s := 11) rfl _ _ (w.heap.size + 1 + 1) 30 hd0.cells (0, 0) _ rfl (setRow_heap _ _ _ _ _ _ HGZ5.out) Tryd.underlying30 (by rw [Hd.size]; exact info30) _ _ _ rfl rfl rfl) rfl ?_
        rw [HAN.out]
        exact ⟨none, 0, rfl, fun h => absurd h (by simp [wrCells]), below_setRow HB5.out (by omega) _⟩
  · have HAN : Hid (appendOf m h d r = ⟨hd0, [], 0, k⟩) := by
      show _ = _
      unfold appendOf
      rw [← hk, if_pos hk0]
    rw [HAN.out]
    have hn : (k != 0) = true := by simp [hk0]
    have HK := Lib.hid hk0
    clear hk hk0
    go_enter Tryd.func52, Tryd.ntmps52
    go_wp2_with (first | (refine wpl_load_row 23 _ rfl rfl (w.heap.size + 1) rfl 23 d.cells (0, 0) _ (by rw [Below.heap_alloc _ _ _ (by simp)]; exact HG.out.1) Tryd.underlying23 (by rw [Ds.size]; exact info23) ?_) | (refine wpl_load_row 30 _ rfl rfl w.heap.size rfl 30 h.cells (0, 0) _ (by rw [Below.heap_alloc _ _ _ (by simp; omega)]; exact HG.out.2) Tryd.underlying30 (by rw [Hd.size]; exact info30) ?_) | fail)
    refine (HOP.out _).mono ?_
    rintro e w1 ⟨cs, rfl, _, hcs, hb1⟩
    obtain rfl := hcs HK.out
    have hgz : ∃ Z : Array Value, Z.size = 7 ∧ w1.heap[w.heap.size + 1 + 1]? = some (.cells Z 30 (0, 0)) := ⟨_, rfl, (hb1.block _ (by simp)).trans (heap_at_alloc (by simp))⟩
    obtain ⟨Z, hZ, hgz⟩ := hgz
    have HB1 := Lib.hid (bstep ((((Below.refl _ _).alloc (Nat.le_refl _) _).alloc (by simp) _).alloc (by simp; omega) _) hb1)
    have HGZ := Lib.hid hgz
    have HZ := Lib.hid hZ
    clear hb1 hgz hZ hcs
    go_wp2_with (first | (refine wpl_store_fresh rfl 146 _ _ rfl zeroCl rfl 146 _ rfl (by rw [zeroCl_size]; exact info146) rfl zeroCl_one ?_; intro w2 hg2 hb2 hs2; have HB2 := Lib.hid (bstep HB1.out hb2); have HGZ2 := Lib.hid ((hb2.block _ (blk_lt HGZ.out)).trans HGZ.out); clear hg2 hb2 hs2) | (refine wpl_build 30 _ rfl rfl [] hd0.cells (by kernel_rfl) built_hd0 ?_) | (refine wpList_store_row rfl 30 _ _ rfl (w.heap.size + 1 + 1) hd0.cells rfl rfl 30 Z HGZ2.out (by rw [Hd.size]; exact info30) (by rw [HZ.out, Hd.size]) (hd_one _) ?_) | fail)
    refine bodyPost_ret (v := .tuple #[.agg hd0.cells, .slice none 0 0, .int .i64 0, .int .i64 k]) (results_cell4 (p := 8) (q := 9) (r := 10) (s := 11) rfl _ _ (w.heap.size + 1 + 1) 30 hd0.cells (0, 0) _ rfl (setRow_heap _ _ _ _ _ _ HGZ2.out) Tryd.underlying30 (by rw [Hd.size]; exact info30) _ _ _ rfl rfl rfl) rfl ?_
    exact ⟨none, 0, rfl, fun h => absurd h (by simp [wrCells]), below_setRow HB2.out (by omega) _⟩
end Go.Proofs.YtnkhifgppcnmkaaDoor

/- Walks of chapter 18: appends of whole slices. -/
namespace Go.Proofs.YtnkhifgppcnmkaaDoor
open Go.RowKit Iv

/-- A slice that can be appended: nil, or cells at its address. -/
def Cat (w : World) (x : Value) (m : Nat) (news : List Value) : Prop :=
  (x = .slice none 0 0 ∧ m = 0 ∧ news = []) ∨ ∃ ad c, x = .slice (some ad) m c ∧ ∀ j u, news[j]? = some u → w.cell? (ad.add j) = some u

theorem addr_add' (b o j : Nat) : (⟨b, o, none⟩ : Addr).add j = ⟨b, o + j, none⟩ := by unfold Addr.add; split <;> simp_all

theorem cat_own {B : Nat} {w : World} {e size n : Nat} {v : Value} {xs : List Value} (h : w.ownsRow B e size v n xs) : Cat w v n xs := by
  have hl := h.1
  rcases h.2 with ⟨rfl, h0⟩ | ⟨g, cap, cur, rfl, hb, hg, hnc, hcm, hcs, htake⟩
  · subst h0
    exact .inl ⟨rfl, rfl, List.eq_nil_of_length_eq_zero (by rw [hl, Nat.zero_mul])⟩
  · refine .inr ⟨⟨g, 0, none⟩, cap, rfl, fun j u hu => ?_⟩
    exact World.ownsRow.cells h (g := g) rfl j u hu

theorem cat_block {w : World} {H t m c : Nat} {cs : Array Value} (h : w.heap[H]? = some (.cells cs t (0, 0))) : Cat w (.slice (some ⟨H, 0, none⟩) m c) m cs.toList :=
  .inr ⟨⟨H, 0, none⟩, c, rfl, World.news_of_block h⟩

theorem own_empty {B : Nat} {w : World} {H e size : Nat} (hB : B ≤ H) (h : w.heap[H]? = some (.cells #[] e (0, 0))) : w.ownsRow B e size (.slice (some ⟨H, 0, none⟩) 0 0) 0 [] :=
  ⟨by simp, .inr ⟨H, 0, #[], rfl, hB, h, Nat.le_refl _, by decide, by simp, by simp⟩⟩

theorem run_cat {t e size bytes : Nat} (E : Elem t e size bytes) (ty B : Nat) (w : World) (v : Value) (n : Nat) (xs : List Value) (hown : w.ownsRow B e size v n xs) (x : Value) (m : Nat) (news : List Value) (hc : Cat w x m news)
    (hl : news.length = m * size) (h1 : ∀ u ∈ news, u.oneCell' = true) (h63 : n + m ≤ maxLen) (hbytes : (n + m) * bytes ≤ 140737488355328) (hB : B ≤ w.heap.size) :
    ∃ v' w', (Builtin.append_ #[t, t] ty #[v, x]).run Tryd.prog w = .ok v' w' ∧ w'.ownsRow B e size v' (n + m) (xs ++ news) ∧ w.grownBy w' v.ownBlock := by
  obtain ⟨ht, i, z, hi, hz, hsz, hby, hzs, h0⟩ := E
  rcases hc with ⟨rfl, rfl, rfl⟩ | ⟨ad, c, rfl, hn⟩
  · refine ⟨v, w, run_append_owned_none w B t ty e i size ht hi v n xs hown, by simpa using hown, rfl, rfl, rfl, Nat.le_refl _, fun _ _ _ => rfl⟩
  · obtain ⟨v', w', hr, h2, h3, _, _⟩ := run_append_own_at (P := Tryd.prog) w B t ty e i z size bytes ht hi hz hsz hby hzs h0 v n xs hown ad m c news hl hn h1 h63 hbytes hB
    exact ⟨v', w', hr, h2, h3⟩

/-- A slice is appended in a region that draws its order. -/
theorem step_cat {ops : Array Oper} {o : Oper} {a : Act} {K : Act → World → Prop} {Q : Exit → Act → World → Prop} {X : Prop} {t e size bytes : Nat} (E : Elem t e size bytes) (hgd : Region.wanted o (yielded ops a.tmps) = true) (s x : Operand)
    (ho : o.op = .call { callee := .builtin .append, args := #[s, x], argTypes := #[t, t] })
    {w : World} (B : Nat) (v : Value) (n : Nat) (xs : List Value) (hs : a.eval s = v) (hown : w.ownsRow B e size v n xs) (hB : B ≤ w.heap.size)
    (y : Value) (m : Nat) (news : List Value) (hx : a.eval x = y) (hc : Cat w y m news) (hl : news.length = m * size) (h1 : ∀ u ∈ news, u.oneCell' = true) (h63 : n + m ≤ maxLen) (hbytes : (n + m) * bytes ≤ 140737488355328)
    (h : ∀ v' w', w'.ownsRow B e size v' (n + m) (xs ++ news) → w.grownBy w' v.ownBlock → K (a.put o.dst v') w') :
    if Region.wanted o (yielded ops a.tmps) = true then Oper.wp Tryd.prog o a w K Q else X := by
  rw [if_pos hgd]
  obtain ⟨v', w', hr, h2, h3⟩ := run_cat E o.type B w v n xs hown y m news hc hl h1 h63 hbytes hB
  unfold Oper.wp execOp
  simp only [ho, resolve, invoke, builtin, Sem.run_bind, Sem.run_pure, Result.andThen_ok, List.map_toArray, List.map_cons, List.map_nil, hs, hx, hr]
  exact h v' w' h2 h3

/-- A slice is appended. -/
theorem wpl_cat {ops : Array Oper} {rest : List Oper} {o : Oper} {a : Act} {Q : Exit → Act → World → Prop} {t e size bytes : Nat} (E : Elem t e size bytes) (hgd : o.guard = none) (s x : Operand)
    (ho : o.op = .call { callee := .builtin .append, args := #[s, x], argTypes := #[t, t] })
    {w : World} (B : Nat) (v : Value) (n : Nat) (xs : List Value) (hs : a.eval s = v) (hown : w.ownsRow B e size v n xs) (hB : B ≤ w.heap.size)
    (y : Value) (m : Nat) (news : List Value) (hx : a.eval x = y) (hc : Cat w y m news) (hl : news.length = m * size) (h1 : ∀ u ∈ news, u.oneCell' = true) (h63 : n + m ≤ maxLen) (hbytes : (n + m) * bytes ≤ 140737488355328)
    (h : ∀ v' w', w'.ownsRow B e size v' (n + m) (xs ++ news) → w.grownBy w' v.ownBlock → wpList Tryd.prog ops Q rest (a.put o.dst v') w') :
    wpList Tryd.prog ops Q (o :: rest) a w := by
  refine wpList_plain hgd fun K hK => ?_
  obtain ⟨v', w', hr, h2, h3⟩ := run_cat E o.type B w v n xs hown y m news hc hl h1 h63 hbytes hB
  unfold Oper.wp execOp
  simp only [ho, resolve, invoke, builtin, Sem.run_bind, Sem.run_pure, Result.andThen_ok, List.map_toArray, List.map_cons, List.map_nil, hs, hx, hr]
  exact hK _ _ (h v' w' h2 h3)

theorem strs_one (l : List ByteArray) : ∀ u ∈ l.map Value.string, u.oneCell' = true := by
  intro u hu
  obtain ⟨s, _, rfl⟩ := List.mem_map.1 hu
  rfl
end Go.Proofs.YtnkhifgppcnmkaaDoor

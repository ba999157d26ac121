/-
  A request that comes in, opened: its two numbers, its slice of commands.
-/
import Derived.Test.YtjonmggkmalgaaaGreatDoorW29Row
import Derived.Test.YtjonmggkmalgaaaGreatDoorW42Lay
import Derived.Lib.SmallJoins
import Derived.Deep.Slices
namespace Go.Proofs.YtjonmggkmalgaaaGreatDoor
open Go.RowKit Go.ChangeShapes Go.WideShapes Go.ChangeAt

instance : Inhabited CmdS := ⟨⟨0, ⟨#[]⟩, ⟨#[]⟩, ⟨#[]⟩, ⟨#[]⟩⟩⟩
theorem cellsCmd : Tryz.prog.cellsOf 68 = 5 := by kernel_rfl
theorem cellsInt : Tryz.prog.cellsOf 3 = 1 := by kernel_rfl
theorem cellsStr : Tryz.prog.cellsOf 9 = 1 := by kernel_rfl

section
variable {H : Type} {enc : TypeId × Value → H} {W : World} {base : Nat} {sp : Nat → Bool} {held : Bool}

set_option maxRecDepth 100000 in
theorem open_cmd {n : Nat} {cs : List Value} {y : DataW H × List MemPlace} (hlen : cs.length = 5) (h : DataW.trod enc Tryz.prog W base sp held n 68 cs = some y) : ∃ c : CmdS, cs = c.cells := by
  obtain ⟨xs, n', _, _, _, hxl, hf⟩ := DataW.trod_struct Tryz.underlying68 h
  match cs, hlen with
  | [c0, c1, c2, c3, c4], _ =>
    match xs, hxl with
    | [y0, y1, y2, y3, y4], _ =>
      have f0 := hf 0 _ rfl
      have f1 := hf 1 _ rfl
      have f2 := hf 2 _ rfl
      have f3 := hf 3 _ rfl
      have f4 := hf 4 _ rfl
      simp only [List.getElem?_cons_zero, List.getElem?_cons_succ] at f0 f1 f2 f3 f4
      obtain ⟨k0, e0, _⟩ := DataW.trod_int Tryz.underlying3 f0
      obtain ⟨k1, e1, _⟩ := DataW.trod_string Tryz.underlying9 f1
      obtain ⟨k2, e2, _⟩ := DataW.trod_string Tryz.underlying9 f2
      obtain ⟨k3, e3, _⟩ := DataW.trod_string Tryz.underlying9 f3
      obtain ⟨k4, e4, _⟩ := DataW.trod_string Tryz.underlying9 f4
      injection e0 with e0
      injection e1 with e1
      injection e2 with e2
      injection e3 with e3
      injection e4 with e4
      exact ⟨⟨k0, k1, k2, k3, k4⟩, by rw [e0, e1, e2, e3, e4]⟩

set_option maxRecDepth 100000 in
theorem open_cmds {fuel : Nat} {v : Value} {y : DataW H × List MemPlace} (h : DataW.trod enc Tryz.prog W base sp held fuel 22 [v] = some y) :
    ∃ (x : Option Addr) (l : List CmdS) (cap : Nat), v = .slice x l.length cap ∧ CmdsAt W x l ∧ l.length ≤ maxLen := by
  rcases Deep.open_slice Tryz.underlying22 h with ⟨hcs, _⟩ | ⟨a, len, cap, m, n, D, Pl, hcs, _, hl, hm, hmm, _, hcell⟩
  · injection hcs with hcs
    exact ⟨none, [], 0, hcs, fun i hi => absurd hi (Nat.not_lt_zero _), Nat.zero_le _⟩
  · injection hcs with hcs
    have hle : len ≤ m := by rw [hmm]; split <;> omega
    rw [cellsCmd] at hcell
    obtain ⟨C, hC⟩ := Deep.choose_lt (n := len) (α := CmdS) (p := fun i c => ∀ j, j < 5 → W.cell? ((a.add (i * 5)).add j) = c.cells[j]?) (fun i hi => by
      obtain ⟨cs', h1, h2⟩ := hcell i (by omega)
      obtain ⟨_, hlen, hget⟩ := World.cells?_some h1
      obtain ⟨c, rfl⟩ := open_cmd hlen h2
      exact ⟨c, hget⟩)
    refine ⟨some a, (List.range len).map C, cap, by rw [List.length_map, List.length_range]; exact hcs, ?_, by rw [List.length_map, List.length_range]; exact Nat.le_trans hl hm⟩
    intro i hi
    have hi' : i < len := by simpa using hi
    have h0 := hC i hi'
    obtain ⟨xb, xo, xs⟩ := a
    have hspot : xs = none := by
      simpa [Addr.add] using World.cell?_spot (hC 0 (by omega) 0 (by decide))
    subst hspot
    have e : ∀ j, ((⟨xb, xo, none⟩ : Addr).add (i * 5)).add j = ⟨xb, xo + i * 5 + j, none⟩ := fun j => by
      rw [Deep.add_add]
      unfold Addr.add
      split <;> simp_all [Nat.add_assoc]
    have hg : ((List.range len).map C)[i] = C i := by simp
    rw [hg]
    have k0 := h0 0 (by decide)
    have k1 := h0 1 (by decide)
    have k2 := h0 2 (by decide)
    have k3 := h0 3 (by decide)
    have k4 := h0 4 (by decide)
    rw [e] at k0 k1 k2 k3 k4
    exact ⟨xb, xo, rfl, k0, k1, k2, k3, k4⟩

set_option maxRecDepth 100000 in
theorem open_req {b0 : Nat} {v : Value} {d : DataW H} {p : List MemPlace} (hv : Value.okWide Tryz.prog W .any b0 24 v) (h : DataW.Trod enc Tryz.prog W base sp held 24 v d p) :
    ∃ (c q : Int) (x : Option Addr) (l : List CmdS) (cap : Nat), v = reqV c q x l.length cap ∧ CmdsAt W x l ∧ l.length ≤ maxLen := by
  obtain ⟨v0, v1, v2, y0, y1, y2, n, rfl, _, _, h0, h1, h2⟩ := Joins.open_agg3 Tryz.underlying24 (by kernel_rfl) (by kernel_rfl) hv h
  obtain ⟨c, e0, _⟩ := DataW.trod_int Tryz.underlying3 h0
  obtain ⟨q, e1, _⟩ := DataW.trod_int Tryz.underlying3 h1
  obtain ⟨x, l, cap, e2, hat, hl⟩ := open_cmds h2
  injection e0 with e0
  injection e1 with e1
  subst e0 e1 e2
  exact ⟨c, q, x, l, cap, rfl, hat, hl⟩

set_option maxRecDepth 100000 in
theorem open_num {v : Value} {d : DataW H} {p : List MemPlace} {b0 : Nat} (hv : Value.okWide Tryz.prog W .any b0 3 v) (h : DataW.Trod enc Tryz.prog W base sp held 3 v d p) : ∃ i : Int, v = .int .i64 i ∧ (Lit.int .i64 i).wf = true := by
  obtain ⟨i, rfl, _, _, hwf⟩ := open_int Tryz.underlying3 hv h
  exact ⟨i, rfl, hwf⟩
end
end Go.Proofs.YtjonmggkmalgaaaGreatDoor

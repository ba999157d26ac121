/-
  Replies that come in, opened: their numbers in range, their texts.
-/
import Derived.Test.YtjonmggkmalgaaaGreatDoorW52Req
import Derived.Test.YtjonmggkmalgaaaGreatDoorW64Reps
namespace Go.Proofs.YtjonmggkmalgaaaGreatDoor
open Go.RowKit Go.ChangeShapes Go.WideShapes Go.ChangeAt

instance : Inhabited RepS := ⟨⟨0, ⟨#[]⟩⟩⟩
theorem cellsRep : Tryz.prog.cellsOf 42 = 2 := by kernel_rfl

section
variable {H : Type} {enc : TypeId × Value → H} {W : World} {base : Nat} {sp : Nat → Bool} {held : Bool}

set_option maxRecDepth 100000 in
theorem open_rep {n : Nat} {cs : List Value} {y : DataW H × List MemPlace} (hlen : cs.length = 2) (h : DataW.trod enc Tryz.prog W base sp held n 42 cs = some y) : ∃ c : RepS, cs = c.cells ∧ -9223372036854775808 ≤ c.err ∧ c.err ≤ 9223372036854775807 := by
  obtain ⟨xs, n', _, _, _, hxl, hf⟩ := DataW.trod_struct Tryz.underlying42 h
  match cs, hlen with
  | [c0, c1], _ =>
    match xs, hxl with
    | [y0, y1], _ =>
      have f0 := hf 0 _ rfl
      have f1 := hf 1 _ rfl
      simp only [List.getElem?_cons_zero, List.getElem?_cons_succ] at f0 f1
      obtain ⟨k0, e0, _, hw⟩ := DataW.trod_int Tryz.underlying27 f0
      obtain ⟨k1, e1, _⟩ := DataW.trod_string Tryz.underlying9 f1
      injection e0 with e0
      injection e1 with e1
      simp only [Lit.wf, Bool.and_eq_true, decide_eq_true_eq] at hw
      exact ⟨⟨k0, k1⟩, by rw [e0, e1], hw.1, hw.2⟩

set_option maxRecDepth 100000 in
theorem open_reps {fuel : Nat} {v : Value} {y : DataW H × List MemPlace} (h : DataW.trod enc Tryz.prog W base sp held fuel 39 [v] = some y) :
    ∃ (x : Option Addr) (l : List RepS) (cap : Nat), v = .slice x l.length cap ∧ RepsAt W x l ∧ l.length ≤ maxLen ∧ l.length ≤ cap ∧ ∀ r ∈ l, -9223372036854775808 ≤ r.err ∧ r.err ≤ 9223372036854775807 := by
  rcases Deep.open_slice Tryz.underlying39 h with ⟨hcs, _⟩ | ⟨a, len, cap, m, n, D, Pl, hcs, _, hl, hm, hmm, _, hcell⟩
  · injection hcs with hcs
    exact ⟨none, [], 0, hcs, fun i hi => absurd hi (Nat.not_lt_zero _), Nat.zero_le _, Nat.zero_le _, fun r h => absurd h List.not_mem_nil⟩
  · injection hcs with hcs
    have hle : len ≤ m := by rw [hmm]; split <;> omega
    rw [cellsRep] at hcell
    obtain ⟨C, hC⟩ := Deep.choose_lt (n := len) (α := RepS) (p := fun i c => (∀ j, j < 2 → W.cell? ((a.add (i * 2)).add j) = c.cells[j]?) ∧ -9223372036854775808 ≤ c.err ∧ c.err ≤ 9223372036854775807) (fun i hi => by
      obtain ⟨cs', h1, h2⟩ := hcell i (by omega)
      obtain ⟨_, hlen, hget⟩ := World.cells?_some h1
      obtain ⟨c, rfl, hb⟩ := open_rep hlen h2
      exact ⟨c, hget, hb⟩)
    refine ⟨some a, (List.range len).map C, cap, by rw [List.length_map, List.length_range]; exact hcs, ?_, by rw [List.length_map, List.length_range]; exact Nat.le_trans hl hm, by rw [List.length_map, List.length_range]; exact hl, ?_⟩
    · intro i hi
      have hi' : i < len := by simpa using hi
      have h0 := (hC i hi').1
      obtain ⟨xb, xo, xs⟩ := a
      have hspot : xs = none := by
        simpa [Addr.add] using World.cell?_spot ((hC 0 (by omega)).1 0 (by decide))
      subst hspot
      have e : ∀ j, ((⟨xb, xo, none⟩ : Addr).add (i * 2)).add j = ⟨xb, xo + i * 2 + j, none⟩ := fun j => by
        rw [Deep.add_add]
        unfold Addr.add
        split <;> simp_all [Nat.add_assoc]
      have hg : ((List.range len).map C)[i] = C i := by simp
      rw [hg]
      have k0 := h0 0 (by decide)
      have k1 := h0 1 (by decide)
      rw [e] at k0 k1
      exact ⟨xb, xo, rfl, k0, k1⟩
    · intro r hr
      obtain ⟨i, hi, rfl⟩ := List.mem_map.1 hr
      exact (hC i (List.mem_range.1 hi)).2
end
end Go.Proofs.YtjonmggkmalgaaaGreatDoor

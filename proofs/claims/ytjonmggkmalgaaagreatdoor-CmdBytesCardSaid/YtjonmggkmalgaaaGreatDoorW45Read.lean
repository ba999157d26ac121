/-
  What cmd.Read reads, told by plain functions; rows of commands of one's own.
-/
import Derived.Test.YtjonmggkmalgaaaGreatDoorW44Entry
namespace Go.Proofs.YtjonmggkmalgaaaGreatDoor
open Go.RowKit Go.Lib

theorem infoCmd : (Tryz.prog.info? 68).map (fun i => (i.zero, i.size, i.bytes)) = some (some (.agg #[.int .i64 0, .string ⟨#[]⟩, .string ⟨#[]⟩, .string ⟨#[]⟩, .string ⟨#[]⟩]), 5, 72) := by kernel_rfl

/-- Commands as cells. -/
def cmdCells (l : List CmdS) : List Value := l.flatMap CmdS.cells
theorem cmdCells_append (a b : List CmdS) : cmdCells (a ++ b) = cmdCells a ++ cmdCells b := by unfold cmdCells; rw [List.flatMap_append]
theorem cells_get : ∀ (l : List CmdS) (i : Nat) (h : i < l.length) (j : Nat), j < 5 → (cmdCells l)[i * 5 + j]? = (l[i].cells)[j]?
  | c :: l, 0, _, j, hj => by
    unfold cmdCells
    rw [List.flatMap_cons, Nat.zero_mul, Nat.zero_add, List.getElem?_append_left (by simpa using hj)]
    rfl
  | c :: l, i + 1, h, j, hj => by
    have := cells_get l i (by simpa using h) j hj
    unfold cmdCells at this ⊢
    rw [List.flatMap_cons, List.getElem?_append_right (by simp; omega), show (i + 1) * 5 + j - c.cells.length = i * 5 + j by simp; omega, this]
    rfl

theorem addr_none (g j : Nat) : (⟨g, 0, none⟩ : Addr).add j = ⟨g, j, none⟩ := by unfold Addr.add; split <;> simp_all

/-- A row of commands of one's own, behind base. -/
def CmdsOwn (w : World) (base : Nat) (v : Value) (l : List CmdS) : Prop := w.ownsRow base 68 5 v l.length (cmdCells l)
theorem CmdsOwn.at_ {w : World} {base : Nat} {v : Value} {l : List CmdS} (h : CmdsOwn w base v l) : ∃ x cap, v = .slice x l.length cap ∧ CmdsAt w x l := by
  have h' := h
  obtain ⟨_, hh⟩ := h
  rcases hh with ⟨rfl, h0⟩ | ⟨g, cap, cur, rfl, hb, hg, hr⟩
  · obtain rfl : l = [] := List.eq_nil_of_length_eq_zero h0
    exact ⟨none, 0, rfl, fun i hi => absurd hi (Nat.not_lt_zero _)⟩
  · refine ⟨_, cap, rfl, fun i hi => ⟨g, 0, rfl, ?_⟩⟩
    have hc : ∀ j, j < 5 → ∀ u, (l[i].cells)[j]? = some u → w.cell? ⟨g, 0 + i * 5 + j, none⟩ = some u := by
      intro j hj u hu
      have := h'.cells (g := g) rfl (i * 5 + j) u (by rw [cells_get l i hi j hj]; exact hu)
      rw [addr_none] at this
      rw [Nat.zero_add]
      exact this
    exact ⟨hc 0 (by decide) _ rfl, hc 1 (by decide) _ rfl, hc 2 (by decide) _ rfl, hc 3 (by decide) _ rfl, hc 4 (by decide) _ rfl⟩
theorem CmdsOwn.nil (w : World) (base : Nat) : CmdsOwn w base (.slice none 0 0) [] := ⟨rfl, .inl ⟨rfl, rfl⟩⟩
theorem CmdsOwn.kept {S : Nat → Prop} {w w' : World} {base : Nat} {v : Value} {l : List CmdS} (h : CmdsOwn w base v l) (hk : Keeps S w w') (hn : ∀ g, v.ownBlock = some g → ¬ S g) : CmdsOwn w' base v l := own_keeps h hk hn
theorem CmdsOwn.below {w w' : World} {base : Nat} {v : Value} {l : List CmdS} (h : CmdsOwn w base v l) (hb : Below w.heap.size w w') : CmdsOwn w' base v l :=
  own_keeps (S := fun _ => False) h (Keeps.below hb (fun j hj hj' => absurd hj (by omega))) (fun _ _ => id)
theorem CmdsOwn.ne {w : World} {base b : Nat} {t : TypeId} {cs : List Value} {v : Value} {l : List CmdS} (h : CmdsOwn w base v l) (hl : Lies w b t cs) (ht : 68 ≠ t) : v.ownBlock ≠ some b := own_lies_ne h hl ht

def cmdG (s : GetS) : CmdS × GetS :=
  let k := smallG 1 s
  let p := textG k.2
  let q := textG p.2
  let v := textG q.2
  let o := textG v.2
  (⟨k.1, strS p.1, strS q.1, strS v.1, strS o.1⟩, o.2)
def cmdsG : Nat → GetS → List CmdS × GetS
  | 0, s => ([], s)
  | n + 1, s => ((cmdsG n s).1 ++ [(cmdG (cmdsG n s).2).1], (cmdG (cmdsG n s).2).2)
def reqG (s : GetS) : ReqS × GetS :=
  let c := intG s
  let q := intG c.2
  let n := smallG 1 q.2
  let l := cmdsG n.1.toNat n.2
  (⟨c.1, q.1, l.1⟩, l.2)
def noReq : ReqS := ⟨0, 0, []⟩
def readR (b : List UInt8) : ReqS × Int :=
  let r := reqG (b, 0)
  if (endG r.2).2 ≠ 0 then (noReq, (endG r.2).2) else if r.1.check ≠ 0 ∨ r.1.laid ≠ strS b then (noReq, 6) else (r.1, 0)

theorem smallG_length (n : Nat) (s : GetS) : (smallG n s).2.1.length ≤ s.1.length := lowG_length n s
theorem intG_length (s : GetS) : (intG s).2.1.length ≤ s.1.length := lowG_length 8 s
theorem rawG_length2 (n : Int) (s : GetS) : (rawG n s).2.1.length ≤ s.1.length := by
  unfold rawG
  split
  · simp
  · split
    · simp
    · split
      · simp
      · simp
theorem textG_length (s : GetS) : (textG s).2.1.length ≤ s.1.length := Nat.le_trans (rawG_length2 _ _) (smallG_length 2 s)
theorem cmdG_length (s : GetS) : (cmdG s).2.1.length ≤ s.1.length := by
  have h1 := smallG_length 1 s
  have h2 := textG_length (smallG 1 s).2
  have h3 := textG_length (textG (smallG 1 s).2).2
  have h4 := textG_length (textG (textG (smallG 1 s).2).2).2
  have h5 := textG_length (textG (textG (textG (smallG 1 s).2).2).2).2
  show (textG (textG (textG (textG (smallG 1 s).2).2).2).2).2.1.length ≤ _
  omega
theorem cmdsG_length : ∀ (n : Nat) (s : GetS), (cmdsG n s).2.1.length ≤ s.1.length ∧ (cmdsG n s).1.length = n
  | 0, s => ⟨Nat.le_refl _, rfl⟩
  | n + 1, s => by
    obtain ⟨h1, h2⟩ := cmdsG_length n s
    have h3 := cmdG_length (cmdsG n s).2
    refine ⟨?_, ?_⟩
    · show (cmdG (cmdsG n s).2).2.1.length ≤ _
      omega
    · show ((cmdsG n s).1 ++ [_]).length = n + 1
      rw [List.length_append, h2]; rfl
theorem smallG_one (s : GetS) : 0 ≤ (smallG 1 s).1 ∧ (smallG 1 s).1 < 256 := by
  have h1 := leVal_lt (rawG ((1 : Nat) : Int) s).1
  have h2 := (rawG_length 1 s).1
  have h3 : (256 : Nat) ^ (rawG ((1 : Nat) : Int) s).1.length ≤ 256 ^ 1 := Nat.pow_le_pow_right (by decide) h2
  show (0 : Int) ≤ ((leVal (rawG ((1 : Nat) : Int) s).1 : Nat) : Int) ∧ ((leVal (rawG ((1 : Nat) : Int) s).1 : Nat) : Int) < 256
  omega
end Go.Proofs.YtjonmggkmalgaaaGreatDoor

/-
  Commands in memory; whether a command may be.
-/
import Derived.Test.YtjonmggkmalgaaaGreatDoorW40Get
import Derived.Test.YtjonmggkmalgaaaGreatDoorW11Do
namespace Go.Proofs.YtjonmggkmalgaaaGreatDoor
open Go.RowKit Go.Lib

/-- A command. -/
structure CmdS where
  kind : Int
  path : ByteArray
  key : ByteArray
  val : ByteArray
  old : ByteArray

abbrev CmdS.value (c : CmdS) : Value := cmdV c.kind c.path c.key c.val c.old
abbrev CmdS.cells (c : CmdS) : List Value := [.int .i64 c.kind, .string c.path, .string c.key, .string c.val, .string c.old]
def CmdS.valid (c : CmdS) : Bool := decide (1 ≤ c.kind) && decide (c.kind ≤ 9) && decide (c.path.size ≤ 140) && decide (c.key.size ≤ 3000) && decide (c.val.size ≤ 3000) && decide (c.old.size ≤ 3000)

def BoolPost (w : World) (b : Bool) (e : Ending) (w' : World) : Prop := e = .returned (.bool b) ∧ Below w.heap.size w w'

theorem box_made (w : World) (t : TypeId) (cs : List Value) : Below w.heap.size w (w.alloc (.cells cs.toArray t)) := (Below.refl _ _).alloc (Nat.le_refl _) _

theorem max3 (x y z : Int) (w : World) : ∃ m : Int, (Builtin.max_ #[3, 3, 3] 3 #[.int .i64 x, .int .i64 y, .int .i64 z]).run Tryz.prog w = .ok (.int .i64 m) w ∧ (m ≤ 3000 ↔ x ≤ 3000 ∧ y ≤ 3000 ∧ z ≤ 3000) := by
  refine ⟨if z > (if y > x then y else x) then z else (if y > x then y else x), by simp [Builtin.max_, Builtin.max2], ?_⟩
  split <;> split <;> omega

set_option maxRecDepth 100000 in
theorem valid_any (c : CmdS) (w : World) : Calls Tryz.prog 39 #[c.value] w (BoolPost w c.valid) := by
  obtain ⟨kind, path, key, val, old⟩ := c
  have hm := Lies.made w 68 [.int .i64 kind, .string path, .string key, .string val, .string old]
  have c0 := hm.cell 0
  have c1 := hm.cell 1
  have c2 := hm.cell 2
  have c3 := hm.cell 3
  have c4 := hm.cell 4
  have hb := box_made w 68 [.int .i64 kind, .string path, .string key, .string val, .string old]
  simp at c0 c1 c2 c3 c4
  by_cases h0 : kind < 1
  · have e : CmdS.valid ⟨kind, path, key, val, old⟩ = false := by unfold CmdS.valid; simp; omega
    rw [e]
    clear e
    go_enter Tryz.func39, Tryz.ntmps39
    go_wp2
    go_ret
    exact ⟨rfl, hb⟩
  by_cases h1 : 9 < kind
  · have e : CmdS.valid ⟨kind, path, key, val, old⟩ = false := by unfold CmdS.valid; simp; omega
    rw [e]
    clear e
    go_enter Tryz.func39, Tryz.ntmps39
    go_wp2
    go_ret
    exact ⟨rfl, hb⟩
  by_cases h2 : (140 : Int) < path.size
  · have e : CmdS.valid ⟨kind, path, key, val, old⟩ = false := by unfold CmdS.valid; simp; omega
    rw [e]
    clear e
    go_enter Tryz.func39, Tryz.ntmps39
    go_wp2
    go_ret
    exact ⟨rfl, hb⟩
  obtain ⟨m, hrun, hmx⟩ := max3 key.size val.size old.size (w.alloc (.cells #[.int .i64 kind, .string path, .string key, .string val, .string old] 68))
  have e : CmdS.valid ⟨kind, path, key, val, old⟩ = decide (m ≤ 3000) := by
    unfold CmdS.valid
    rw [show decide (1 ≤ kind) = true by simp; omega, show decide (kind ≤ 9) = true by simp; omega, show decide (path.size ≤ 140) = true by simp; omega]
    rw [Bool.eq_iff_iff]
    simp
    omega
  rw [e]
  clear e hmx
  go_enter Tryz.func39, Tryz.ntmps39
  go_wp2
  go_ret
  exact ⟨rfl, hb⟩
end Go.Proofs.YtjonmggkmalgaaaGreatDoor

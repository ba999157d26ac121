/-
  cmd.State: Do hands a command on to do; New makes an empty root.
-/
import Derived.Test.YtjonmggkmalgaaaGreatDoorW13Do
namespace Go.Proofs.YtjonmggkmalgaaaGreatDoor
open Go.RowKit Go.Maps Go.WideMaps Go.WideElems

/-- What Do leaves: do's own world, with the reply stored in a block that the call has made. -/
def DoPost (x : Int) (val : ByteArray) (T : World → World → Prop) (w : World) (e : Ending) (w' : World) : Prop :=
  e = .returned (replyV x val) ∧ ∃ W w1 B, Below w.heap.size w W ∧ w.heap.size ≤ B ∧ B < W.heap.size ∧ T W w1 ∧ w' = (w1.setCell ⟨B, 0, none⟩ (.int .i64 x)).setCell ⟨B, 1, none⟩ (.string val)

/-- do's contract, as Do wants it: blocks that the call has made ahead of it stay. -/
def DoIs (st r : Nat) (kind : Int) (p k v o : ByteArray) (x : Int) (val : ByteArray) (T : World → World → Prop) (w : World) : Prop :=
  ∀ W, Below w.heap.size w W → Calls Tryz.prog 104 #[groundV r, cmdV kind p k v o] W fun e w' => e = .returned (replyV x val) ∧ T W w' ∧ ∀ B t cs, (B = st ∨ w.heap.size ≤ B) → Lies W B t cs → Lies w' B t cs

set_option maxRecDepth 100000 in
theorem stdo (st r : Nat) (kind : Int) (p k v o : ByteArray) (x : Int) (val : ByteArray) (T : World → World → Prop) (w : World) (hS : Lies w st 125 [.pointer (some ⟨r, 0, none⟩)]) (hdo : DoIs st r kind p k v o x val T w) :
    Calls Tryz.prog 31 #[.pointer (some ⟨st, 0, none⟩), cmdV kind p k v o] w (DoPost x val T w) := by
  have Hdo := veil hdo
  clear hdo
  have hst := hS.lt
  have hb2 := below2 w (.cells #[.int .i64 kind, .string p, .string k, .string v, .string o] 68) (.cells #[.int .i64 0, .string ⟨#[]⟩] 42)
  have hR := reply_made w #[.int .i64 kind, .string p, .string k, .string v, .string o]
  have hC := cmd_made w [.int .i64 kind, .string p, .string k, .string v, .string o] (.cells #[.int .i64 0, .string ⟨#[]⟩] 42)
  have hS2 := hS.below hb2 hst
  have s0 : w.cell? ⟨st, 0, none⟩ = some (.pointer (some ⟨r, 0, none⟩)) := hS.cell 0
  go_enter Tryz.func31, Tryz.ntmps31
  go_wp2_with fail
  go_region_held3 (fun w' => w'.cell? ⟨st, 0, none⟩ = some (.pointer (some ⟨r, 0, none⟩)) ∧ w'.cell? ⟨w.heap.size, 0, none⟩ = some (.int .i64 kind) ∧ w'.cell? ⟨w.heap.size, 1, none⟩ = some (.string p) ∧ w'.cell? ⟨w.heap.size, 2, none⟩ = some (.string k) ∧ w'.cell? ⟨w.heap.size, 3, none⟩ = some (.string v) ∧ w'.cell? ⟨w.heap.size, 4, none⟩ = some (.string o))
    (first
      | exact ⟨hS2.cell 0, hC.cell 0, hC.cell 1, hC.cell 2, hC.cell 3, hC.cell 4⟩
      | exact ⟨hS1.cell 0, hC1.cell 0, hC1.cell 1, hC1.cell 2, hC1.cell 3, hC1.cell 4⟩
      | exact ⟨((hS1.far (by simp; omega) _).far (by simp; omega) _).cell 0, ((hC1.far (by simp) _).far (by simp) _).cell 0, ((hC1.far (by simp) _).far (by simp) _).cell 1, ((hC1.far (by simp) _).far (by simp) _).cell 2, ((hC1.far (by simp) _).far (by simp) _).cell 3, ((hC1.far (by simp) _).far (by simp) _).cell 4⟩)
    ((go_at_call 104; refine (Hdo.out _ hb2.drew).mono ?_; rintro e w1 ⟨rfl, hT, hkeep⟩; have hR1 := hkeep _ _ _ (.inr (by omega)) hR; have hS1 := hkeep _ _ _ (.inl rfl) hS2; have hC1 := hkeep _ _ _ (.inr (Nat.le_refl _)) hC; have d0 : w1.cell? ⟨w.heap.size + 1, 0, none⟩ = some (.int .i64 0) := hR1.cell 0; have d1 : w1.cell? ⟨w.heap.size + 1, 1, none⟩ = some (.string ⟨#[]⟩) := hR1.cell 1; have e0 : w1.frozen? ⟨w.heap.size + 1, 0, none⟩ = false := hR1.frozen 0; have e1 : w1.frozen? ⟨w.heap.size + 1, 1, none⟩ = false := hR1.frozen 1; have hlt2 := hR1.lt))
  have hR3 := (hR1.put 0 (.int .i64 x)).put 1 (.string val)
  have q0 := hR3.cell 0
  have q1 := hR3.cell 1
  have Hfin : Hid (∃ W w1' B, Below w.heap.size w W ∧ w.heap.size ≤ B ∧ B < W.heap.size ∧ T W w1' ∧ (w1.setCell ⟨w.heap.size + 1, 0, none⟩ (.int .i64 x)).setCell ⟨w.heap.size + 1, 1, none⟩ (.string val) = (w1'.setCell ⟨B, 0, none⟩ (.int .i64 x)).setCell ⟨B, 1, none⟩ (.string val)) :=
    veil ⟨_, w1, w.heap.size + 1, hb2.drew, by omega, hR.lt, hT, rfl⟩
  clear hkeep hT hR1 hS1 hC1 d0 d1 e0 e1 s0 hS2 hC hR hb2
  go_wp2
  exact bodyPost_ret (v := replyV x val) (by simp at q0 q1; simp [results, Tryz.results31, go_sem, q0, q1]) rfl ⟨rfl, Hfin.out⟩

/-- A new state: a block that leads to an empty root. -/
def NewPost (w : World) (e : Ending) (w' : World) : Prop :=
  ∃ st r rv ri, e = .returned (.pointer (some ⟨st, 0, none⟩)) ∧ w.heap.size ≤ st ∧ w.heap.size ≤ r ∧ w.heap.size ≤ rv ∧ w.heap.size ≤ ri ∧ st ≠ r ∧ Lies w' st 125 [.pointer (some ⟨r, 0, none⟩)] ∧ BoxAt w' r rv ri 0 0 (.map []) (.map []) ∧ Below w.heap.size w w'

theorem new_any (w : World) : Calls Tryz.prog 30 #[] w (NewPost w) := by
  go_enter Tryz.func30, Tryz.ntmps30
  go_wp2_with fail
  refine (empty_any _).mono ?_
  rintro e w1 ⟨r, rv, ri, rfl, h1, h2, h3, hB, hb⟩
  obtain ⟨l1, l2, l3⟩ := hB.lts
  go_wp2
  go_ret
  have hm := Lies.made w1 125 [.pointer (some ⟨r, 0, none⟩)]
  exact ⟨w1.heap.size, r, rv, ri, rfl, hb.size, h1, h2, h3, by omega, hm, hB.below ((Below.refl _ _).alloc (Nat.le_refl _) _), hb.alloc hb.size _⟩
end Go.Proofs.YtjonmggkmalgaaaGreatDoor

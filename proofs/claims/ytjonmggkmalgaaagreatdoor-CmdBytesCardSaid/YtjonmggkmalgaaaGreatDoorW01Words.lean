/-
  Words for memory, for all walks of this seat: a block that lies whole in the heap; which blocks a call may have turned; numbers in bytes. Plain Lean, no program in it.
-/
import Derived.WalkKit
import Derived.Below
import Derived.Laws.OwnMore
import Derived.Deep.AppendLies
import Derived.Deep.Draws
import Derived.Laws.Rows
import Derived.Lib.Hide
import Derived.Maps.OwnSet
namespace Go.Proofs.YtjonmggkmalgaaaGreatDoor
open Go.RowKit

/-- Block b of w holds just these cells, of element type t, none of them frozen. -/
def Lies (w : World) (b : Nat) (t : TypeId) (cs : List Value) : Prop := w.heap[b]? = some (.cells cs.toArray t (0, 0))

/-- From w to w' no block that was there has turned but those of S; the streams are as they were. -/
structure Keeps (S : Nat → Prop) (w w' : World) : Prop where
  os : w'.os = w.os
  tape : w'.tape = w.tape
  output : w'.output = w.output
  size : w.heap.size ≤ w'.heap.size
  block : ∀ k, k < w.heap.size → ¬ S k → w'.heap[k]? = w.heap[k]?

section
variable {S S' : Nat → Prop} {w w1 w2 w' : World}
theorem Keeps.rfl' (S : Nat → Prop) (w : World) : Keeps S w w := ⟨rfl, rfl, rfl, Nat.le_refl _, fun _ _ _ => rfl⟩
theorem Keeps.trans (h : Keeps S w w1) (h' : Keeps S' w1 w2) (hs : ∀ k, k < w.heap.size → S' k → S k) : Keeps S w w2 :=
  ⟨h'.os.trans h.os, h'.tape.trans h.tape, h'.output.trans h.output, Nat.le_trans h.size h'.size,
   fun k hk hn => (h'.block k (Nat.lt_of_lt_of_le hk h.size) (fun hh => hn (hs k hk hh))).trans (h.block k hk hn)⟩
theorem Keeps.more (h : Keeps S w w') (hs : ∀ k, k < w.heap.size → S k → S' k) : Keeps S' w w' :=
  ⟨h.os, h.tape, h.output, h.size, fun k hk hn => h.block k hk (fun hh => hn (hs k hk hh))⟩
theorem Keeps.drew (h : Keeps S w w') : Keeps S w w'.drew := ⟨h.os, h.tape, h.output, h.size, h.block⟩
theorem Keeps.drewN (h : Keeps S w w') (n : Nat) : Keeps S w (w'.drewN n) := ⟨h.os, h.tape, h.output, h.size, h.block⟩
theorem Keeps.alloc (h : Keeps S w w') (o : Obj) : Keeps S w (w'.alloc o) :=
  ⟨h.os, h.tape, h.output, Nat.le_trans h.size (by simp), fun k hk hn => (Below.heap_alloc w' o k (Nat.lt_of_lt_of_le hk h.size)).trans (h.block k hk hn)⟩
theorem Keeps.setCell (h : Keeps S w w') {p : Addr} (hp : w.heap.size ≤ p.block ∨ S p.block) (u : Value) : Keeps S w (w'.setCell p u) :=
  ⟨h.os, h.tape, h.output, by simpa [World.setCell] using h.size, fun k hk hn => (Below.heap_setCell w' p u k (by
    rintro rfl
    rcases hp with hp | hp
    · omega
    · exact hn hp)).trans (h.block k hk hn)⟩
theorem Keeps.grown {row : Option Nat} (h : Keeps S w w1) (hg : w1.grownBy w2 row) (hr : ∀ k, k < w.heap.size → row = some k → S k) : Keeps S w w2 :=
  ⟨hg.os.trans h.os, hg.tape.trans h.tape, hg.output.trans h.output, Nat.le_trans h.size hg.size,
   fun k hk hn => (hg.block k (Nat.lt_of_lt_of_le hk h.size) (fun e => hn (hr k hk e.symm))).trans (h.block k hk hn)⟩
theorem Keeps.below {B : Nat} (h : Below B w w') (hs : ∀ k, k < w.heap.size → B ≤ k → S k) : Keeps S w w' :=
  ⟨h.os, h.tape, h.output, h.size, fun k hk hn => h.block k (by
    rcases Nat.lt_or_ge k B with h1 | h1
    · exact h1
    · exact absurd (hs k hk h1) hn)⟩
theorem Keeps.toBelow {B : Nat} (h : Keeps S w w') (hB : B ≤ w.heap.size) (hs : ∀ k, k < B → ¬ S k) : Below B w w' :=
  ⟨h.os, h.tape, h.output, h.size, fun k hk => h.block k (by omega) (hs k hk)⟩
theorem Keeps.cell (h : Keeps S w w') {p : Addr} (hp : p.block < w.heap.size) (hn : ¬ S p.block) : w'.cell? p = w.cell? p := World.cell?_of_block (w := w) (h.block p.block hp hn)
theorem Keeps.frozen (h : Keeps S w w') {p : Addr} (hp : p.block < w.heap.size) (hn : ¬ S p.block) : w'.frozen? p = w.frozen? p := World.frozen?_of_block (w := w) (h.block p.block hp hn)
end

section
variable {S : Nat → Prop} {w w' : World} {b : Nat} {t : TypeId} {cs : List Value}
theorem Lies.lt (h : Lies w b t cs) : b < w.heap.size := by
  rcases Nat.lt_or_ge b w.heap.size with hlt | hge
  · exact hlt
  · unfold Lies at h; rw [Array.getElem?_eq_none hge] at h; cases h
theorem Lies.cell (h : Lies w b t cs) (i : Nat) : w.cell? ⟨b, i, none⟩ = cs[i]? := by
  rw [cell_of_row w b i _ t (0, 0) h]; simp
theorem Lies.frozen (h : Lies w b t cs) (i : Nat) : w.frozen? ⟨b, i, none⟩ = false := by
  unfold Lies at h
  simp [World.frozen?, h]
theorem Lies.made (w : World) (t : TypeId) (cs : List Value) : Lies (w.alloc (.cells cs.toArray t)) w.heap.size t cs := heap_alloc_new w _
theorem Lies.drew (h : Lies w b t cs) : Lies w.drew b t cs := h
theorem Lies.drewN (h : Lies w b t cs) (n : Nat) : Lies (w.drewN n) b t cs := h
theorem Lies.alloc (h : Lies w b t cs) (o : Obj) : Lies (w.alloc o) b t cs := (Below.heap_alloc w o b h.lt).trans h
theorem Lies.put (h : Lies w b t cs) (i : Nat) (u : Value) : Lies (w.setCell ⟨b, i, none⟩ u) b t (cs.set i u) := by
  unfold Lies at h ⊢
  simp [World.setCell, Array.getElem?_modify, h]
theorem Lies.far (h : Lies w b t cs) {p : Addr} (hp : b ≠ p.block) (u : Value) : Lies (w.setCell p u) b t cs := (Below.heap_setCell w p u b hp).trans h
theorem Lies.below {B : Nat} (h : Lies w b t cs) (hb : Below B w w') (hg : b < B) : Lies w' b t cs := (hb.block b hg).trans h
theorem Lies.grown {row : Option Nat} (h : Lies w b t cs) (hb : w.grownBy w' row) (hg : some b ≠ row) : Lies w' b t cs := (hb.block b h.lt hg).trans h
theorem Lies.kept (h : Lies w b t cs) (hb : Keeps S w w') (hg : ¬ S b) : Lies w' b t cs := (hb.block b h.lt hg).trans h
theorem Lies.ne_of_type {b' : Nat} {t' : TypeId} {cs' : List Value} (h : Lies w b t cs) (h' : Lies w b' t' cs') (hne : t ≠ t') : b ≠ b' := by
  rintro rfl
  unfold Lies at h h'
  rw [h] at h'
  injection h' with h'
  injection h' with _ ht
  exact hne ht
theorem own_lies_ne {base : Nat} {e : TypeId} {size n : Nat} {v : Value} {xs : List Value} (h : w.ownsRow base e size v n xs) (hg : Lies w b t cs) (hne : e ≠ t) : v.ownBlock ≠ some b := by
  rcases h.2 with ⟨rfl, _⟩ | ⟨g', cap, cur, rfl, _, hh, _⟩
  · simp [Value.ownBlock]
  · intro he
    have hb : g' = b := by simpa [Value.ownBlock] using he
    subst hb
    unfold Lies at hg
    rw [hg] at hh
    injection hh with hh
    injection hh with _ ht
    exact hne ht.symm
theorem own_keeps {base : Nat} {e : TypeId} {size n : Nat} {v : Value} {xs : List Value} (h : w.ownsRow base e size v n xs) (hk : Keeps S w w') (hn : ∀ g, v.ownBlock = some g → ¬ S g) : w'.ownsRow base e size v n xs := by
  obtain ⟨hl, h⟩ := h
  refine ⟨hl, ?_⟩
  rcases h with h | ⟨g, cap, cur, rfl, hb, hg, h1, h2, h3, h4⟩
  · exact .inl h
  · have hlt : g < w.heap.size := by
      rcases Nat.lt_or_ge g w.heap.size with hlt | hge
      · exact hlt
      · rw [Array.getElem?_eq_none hge] at hg; cases hg
    exact .inr ⟨g, cap, cur, rfl, hb, (hk.block g hlt (hn g rfl)).trans hg, h1, h2, h3, h4⟩
theorem own_lt {base : Nat} {e : TypeId} {size n : Nat} {v : Value} {xs : List Value} (h : w.ownsRow base e size v n xs) {g : Nat} (hv : v.ownBlock = some g) : base ≤ g ∧ g < w.heap.size := by
  rcases h.2 with ⟨rfl, _⟩ | ⟨g', cap, cur, rfl, hb, hh, _⟩
  · simp [Value.ownBlock] at hv
  · have hb' : g' = g := by simpa [Value.ownBlock] using hv
    subst hb'
    refine ⟨hb, ?_⟩
    rcases Nat.lt_or_ge g' w.heap.size with hlt | hge
    · exact hlt
    · rw [Array.getElem?_eq_none hge] at hh; cases hh
theorem map_keeps {H : Type} {P : Program} {k : TypeId} {R : Value → Option (DataW H × List MemPlace)} {n : Nat} {D : DataW H} (h : w.ownsMap P k R b n D) (hk : Keeps S w w') (hn : ¬ S b) : w'.ownsMap P k R b n D := by
  have hlt := h.lt
  obtain ⟨es, clock, hb, F, hs, hD⟩ := h
  exact ⟨es, clock, (hk.block b hlt hn).trans hb, F, hs, hD⟩
end

/-- A hidden fact (the walk takes no equation out of it). -/
theorem veil {p : Prop} (h : p) : Hid p := h
theorem unveil {p : Prop} (h : Hid p) : p := h

theorem ret_int {k : IntKind} {a b : Int} (h : a = b) : Ending.returned (.int k a) = .returned (.int k b) := by rw [h]
theorem ret_bool {a b : Bool} (h : a = b) : Ending.returned (.bool a) = .returned (.bool b) := by rw [h]
theorem ret_str {a b : ByteArray} (h : a = b) : Ending.returned (.string a) = .returned (.string b) := by rw [h]

/-- Bytes as cells. -/
def bytesV (l : List UInt8) : List Value := l.map fun c => Value.int .u8 c.toNat
theorem bytesV_length (l : List UInt8) : (bytesV l).length = l.length := by simp [bytesV]
theorem bytesV_append (a b : List UInt8) : bytesV (a ++ b) = bytesV a ++ bytesV b := by simp [bytesV]
theorem bytesV_oneCell (l : List UInt8) : ∀ u ∈ bytesV l, u.oneCell' = true := by
  intro u hu
  simp only [bytesV, List.mem_map] at hu
  obtain ⟨c, _, rfl⟩ := hu
  rfl
end Go.Proofs.YtjonmggkmalgaaaGreatDoor

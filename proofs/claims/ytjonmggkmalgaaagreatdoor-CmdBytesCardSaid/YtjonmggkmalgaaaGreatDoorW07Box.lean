/-
  cmd's boxes in memory: a box is a block of three cells (its sequence, its values, the boxes within it); the two maps read as data.
-/
import Derived.Test.YtjonmggkmalgaaaGreatDoorW06Names
import Derived.Maps.StringElems
namespace Go.Proofs.YtjonmggkmalgaaaGreatDoor
open Go.RowKit Go.Maps Go.WideMaps Go.WideElems

abbrev Dat := DataW Unit
noncomputable def strElem (v : Value) : Option (Dat × List MemPlace) := plainElem Tryz.prog 9 v
/-- A pointer to a box, read as its block's number. -/
noncomputable def ptrElem : Value → Option (Dat × List MemPlace)
  | .pointer (some ⟨b, 0, none⟩) => some (.lit (.int .u64 b), [])
  | .pointer none => some (.nil, [])
  | _ => none

theorem keyed : Keyed Tryz.prog 9 := string_keyed Tryz.underlying9
theorem zero_str (w : World) : (zeroValue 9).run Tryz.prog w = .ok (.string ⟨#[]⟩) w := by kernel_rfl
theorem zero_ptr (w : World) : (zeroValue 122).run Tryz.prog w = .ok (.pointer none) w := by kernel_rfl

theorem bytes_ext {a b : ByteArray} (h : a.data.toList = b.data.toList) : a = b := by
  cases a; cases b
  exact congrArg ByteArray.mk (Array.toList_inj.1 h)

/-- A name as a key. -/
def keyL (s : ByteArray) : Lit := .string s.data.toList
theorem key_of (s : ByteArray) (hs : s.size ≤ 1000000000) : keyOf Tryz.prog 9 (.string s) = some (keyL s) := keyOf_string_mk Tryz.underlying9 (by unfold maxLen; omega)
theorem keyL_is (s : ByteArray) : WideAt.IsKeyLit (keyL s) := trivial

theorem ptr_inv {v : Value} {c : Nat} {ps : List MemPlace} (h : ptrElem v = some (.lit (.int .u64 c), ps)) : v = .pointer (some ⟨c, 0, none⟩) := by
  unfold ptrElem at h
  split at h
  · injection h with h
    injection h with h _
    injection h with h
    injection h with _ h
    rw [Int.ofNat.inj h]
  · injection h with h
    injection h with h _
    cases h
  · cases h
theorem ptr_inv_nil {v : Value} {ps : List MemPlace} (h : ptrElem v = some (.nil, ps)) : v = .pointer none := by
  unfold ptrElem at h
  split at h
  · injection h with h
    injection h with h _
    cases h
  · rfl
  · cases h

section
variable {w : World} {b n : Nat} {D : Dat} {s : ByteArray}
theorem look_ptr_yes (hown : w.ownsMap Tryz.prog 9 ptrElem b n D) (hs : s.size ≤ 1000000000) {c : Nat} (hh : Maps.has D (keyL s) = true) (hat : D.atKey (keyL s) .nil = .lit (.int .u64 c)) :
    (Instr.lookup 164 (.map (some b)) (.string s) true).run Tryz.prog w = .ok (.tuple #[.pointer (some ⟨c, 0, none⟩), .bool true]) w := by
  obtain ⟨v, ps, hrun, hv⟩ := hown.look_ok keyed Tryz.underlying164 (zero_ptr w) (zd := .nil) (zp := []) rfl (key_of s hs)
  rw [hat] at hv
  rw [hrun, hh, ptr_inv hv]
theorem look_ptr_no (hown : w.ownsMap Tryz.prog 9 ptrElem b n D) (hs : s.size ≤ 1000000000) (hh : Maps.has D (keyL s) = false) :
    (Instr.lookup 164 (.map (some b)) (.string s) true).run Tryz.prog w = .ok (.tuple #[.pointer none, .bool false]) w := by
  obtain ⟨v, ps, hrun, hv⟩ := hown.look_ok keyed Tryz.underlying164 (zero_ptr w) (zd := .nil) (zp := []) rfl (key_of s hs)
  rw [atKey_of_not_has hh] at hv
  rw [hrun, hh, ptr_inv_nil hv]
theorem look_str_yes (hown : w.ownsMap Tryz.prog 9 strElem b n D) (hs : s.size ≤ 1000000000) {v : ByteArray} (hh : Maps.has D (keyL s) = true) (hat : D.atKey (keyL s) (.lit (.string [])) = .lit (.string v.data.toList)) :
    (Instr.lookup 72 (.map (some b)) (.string s) true).run Tryz.prog w = .ok (.tuple #[.string v, .bool true]) w := by
  obtain ⟨u, ps, hrun, hv⟩ := hown.look_ok keyed Tryz.underlying72 (zero_str w) (zd := .lit (.string [])) (zp := []) (plainElem_string Tryz.underlying9 (s := ⟨#[]⟩) (Nat.zero_le _)) (key_of s hs)
  rw [hat] at hv
  obtain ⟨t, rfl, ht, _⟩ := plainElem_string_inv Tryz.underlying9 hv
  have e : v.data.toList = t.data.toList := by simp only [Prod.mk.injEq, DataW.lit.injEq, Lit.string.injEq] at ht; exact ht.1
  rw [hrun, hh, bytes_ext e]
theorem look_str_no (hown : w.ownsMap Tryz.prog 9 strElem b n D) (hs : s.size ≤ 1000000000) (hh : Maps.has D (keyL s) = false) :
    (Instr.lookup 72 (.map (some b)) (.string s) true).run Tryz.prog w = .ok (.tuple #[.string ⟨#[]⟩, .bool false]) w := by
  obtain ⟨u, ps, hrun, hv⟩ := hown.look_ok keyed Tryz.underlying72 (zero_str w) (zd := .lit (.string [])) (zp := []) (plainElem_string Tryz.underlying9 (s := ⟨#[]⟩) (Nat.zero_le _)) (key_of s hs)
  rw [atKey_of_not_has hh] at hv
  obtain ⟨t, rfl, ht, _⟩ := plainElem_string_inv Tryz.underlying9 hv
  have e : ([] : List UInt8) = t.data.toList := by simp only [Prod.mk.injEq, DataW.lit.injEq, Lit.string.injEq] at ht; exact ht.1
  rw [hrun, hh, ← bytes_ext (a := ⟨#[]⟩) e]
end

/-- A box at block b, its maps in blocks bv and bi, with at most n entries each. -/
structure BoxAt (w : World) (b bv bi : Nat) (seq : Int) (n : Nat) (V I : Dat) : Prop where
  lies : Lies w b 166 [.int .i64 seq, .map (some bv), .map (some bi)]
  vals : w.ownsMap Tryz.prog 9 strElem bv n V
  ins : w.ownsMap Tryz.prog 9 ptrElem bi n I
  apart : bv ≠ bi

section
variable {w w' : World} {b bv bi n : Nat} {seq : Int} {V I : Dat} {S : Nat → Prop}
theorem BoxAt.kept (h : BoxAt w b bv bi seq n V I) (hk : Keeps S w w') (h1 : ¬ S b) (h2 : ¬ S bv) (h3 : ¬ S bi) : BoxAt w' b bv bi seq n V I :=
  ⟨h.lies.kept hk h1, map_keeps h.vals hk h2, map_keeps h.ins hk h3, h.apart⟩
theorem BoxAt.below (h : BoxAt w b bv bi seq n V I) (hb : Below w.heap.size w w') : BoxAt w' b bv bi seq n V I :=
  h.kept (S := fun _ => False) (Keeps.below hb (fun k hk hk' => absurd hk (by omega))) id id id
theorem BoxAt.more (h : BoxAt w b bv bi seq n V I) {m : Nat} (hm : n ≤ m) : BoxAt w b bv bi seq m V I := ⟨h.lies, h.vals.mono hm, h.ins.mono hm, h.apart⟩
end

def EmptyPost (w : World) (e : Ending) (w' : World) : Prop :=
  ∃ b bv bi, e = .returned (.pointer (some ⟨b, 0, none⟩)) ∧ w.heap.size ≤ b ∧ w.heap.size ≤ bv ∧ w.heap.size ≤ bi ∧ BoxAt w' b bv bi 0 0 (.map []) (.map []) ∧ Below w.heap.size w w'

set_option maxRecDepth 100000 in
theorem empty_any (w : World) : Calls Tryz.prog 103 #[] w (EmptyPost w) := by
  have hmm := @run_makeMap Tryz.prog
  go_enter Tryz.func103, Tryz.ntmps103
  go_wp2
  go_ret
  have h1 := World.ownsMap_made w Tryz.prog 9 strElem
  have h2 := World.ownsMap_made (w.alloc (.map #[] 0)) Tryz.prog 9 ptrElem
  refine ⟨w.heap.size + 1 + 1, w.heap.size, w.heap.size + 1, rfl, by omega, by omega, by omega, ⟨?_, (h1.alloc _).alloc _, ?_, by omega⟩, (((Below.refl _ _).alloc (Nat.le_refl _) _).alloc (by simp) _).alloc (by simp; omega) _⟩
  · have := Lies.made ((w.alloc (.map #[] 0)).alloc (.map #[] 0)) 166 [.int .i64 0, .map (some w.heap.size), .map (some (w.heap.size + 1))]
    simpa using this
  · have := h2.alloc (.cells #[.int .i64 0, .map (some w.heap.size), .map (some (w.heap.size + 1))] 166)
    simpa using this
end Go.Proofs.YtjonmggkmalgaaaGreatDoor

/-
  The statements' book: the kinds of which no list was kept. (Printed by gen_empty.py.)
-/
import Derived.Test.YtjonmggkmalgaaaGreatDoorW70Fam
import Derived.Test.YtjonmggkmalgaaaGreatDoorW50Book
namespace Go.Proofs.YtjonmggkmalgaaaGreatDoor
open Go.RowKit Go.Lib
attribute [local go_sem ↓] Go.wp_at_zero Go.wp_at_succ
def VoidPost (w : World) (e : Ending) (w' : World) : Prop := e = .returned (.tuple #[]) ∧ Below w.heap.size w w'
def NoneGrown (w : World) (e : Ending) (w' : World) : Prop := e = .returned (.slice none 0 0) ∧ Below w.heap.size w w'

set_option maxHeartbeats 1000000 in
set_option maxRecDepth 100000 in
theorem still_none_Texts (kb : Nat) (f1 f2 f3 f4 f5 f6 f7 f8 f9 f10 f11 f12 f13 f14 f15 f16 f17 : Value) (w : World) (hk : Lies w kb 54 [.slice none 0 0, f1, f2, f3, f4, f5, f6, f7, f8, f9, f10, f11, f12, f13, f14, f15, f16, f17]) :
    Calls Tryz.prog 67 #[.pointer (some ⟨kb, 0, none⟩)] w (BoolPost w true) := by
  have hkl := hk.lt
  have HK := veil hk
  clear hk
  go_enter Tryz.func67, Tryz.ntmps67
  go_wp2_with fail
  go_loopw [3] (fun i wr => i = .int .i64 0 ∧ Below w.heap.size w wr) (fun i _ => 1 - (intOf i).toNat)
  case atStart => exact ⟨rfl, Below.refl _ _⟩
  case round =>
    obtain ⟨rfl, hb⟩ := hrel
    have l1 := HK.out.below hb hkl
    have c0 := l1.cell 0
    simp at c0
    clear l1
    go_wp2
    go_ret
    exact ⟨rfl, hb⟩

set_option maxHeartbeats 1000000 in
set_option maxRecDepth 100000 in
theorem put_none_Texts (kb : Nat) (f1 f2 f3 f4 f5 f6 f7 f8 f9 f10 f11 f12 f13 f14 f15 f16 f17 : Value) (w : World) (hk : Lies w kb 54 [.slice none 0 0, f1, f2, f3, f4, f5, f6, f7, f8, f9, f10, f11, f12, f13, f14, f15, f16, f17]) :
    Calls Tryz.prog 78 #[.pointer (some ⟨kb, 0, none⟩)] w (VoidPost w) := by
  have hkl := hk.lt
  have HK := veil hk
  clear hk
  go_enter Tryz.func78, Tryz.ntmps78
  go_wp2_with fail
  go_loopw [2] (fun i wr => i = .int .i64 0 ∧ Below w.heap.size w wr) (fun i _ => 1 - (intOf i).toNat)
  case atStart => exact ⟨rfl, Below.refl _ _⟩
  case round =>
    obtain ⟨rfl, hb⟩ := hrel
    have l1 := HK.out.below hb hkl
    have c0 := l1.cell 0
    simp at c0
    clear l1
    go_wp2
    go_end0
    exact ⟨rfl, hb⟩

set_option maxHeartbeats 1000000 in
set_option maxRecDepth 100000 in
theorem grow_none_Texts (kb : Nat) (f1 f2 f3 f4 f5 f6 f7 f8 f9 f10 f11 f12 f13 f14 f15 f16 f17 : Value) (w : World) (hk : Lies w kb 54 [.slice none 0 0, f1, f2, f3, f4, f5, f6, f7, f8, f9, f10, f11, f12, f13, f14, f15, f16, f17]) :
    Calls Tryz.prog 85 #[.pointer (some ⟨kb, 0, none⟩)] w (NoneGrown w) := by
  have hkl := hk.lt
  have HK := veil hk
  clear hk
  go_enter Tryz.func85, Tryz.ntmps85
  go_wp2_with fail
  go_loopw [3, 4] (fun o i wr => i = .int .i64 0 ∧ o = .slice none 0 0 ∧ Below w.heap.size w wr) (fun _ i _ => 1 - (intOf i).toNat)
  case atStart => exact ⟨rfl, rfl, Below.refl _ _⟩
  case round =>
    obtain ⟨rfl, rfl, hb⟩ := hrel
    have l1 := HK.out.below hb hkl
    have c0 := l1.cell 0
    simp at c0
    clear l1
    go_wp2
    go_ret
    exact ⟨rfl, hb⟩

set_option maxHeartbeats 1000000 in
set_option maxRecDepth 100000 in
theorem marked_none_Texts (w : World)  :
    Calls Tryz.prog 94 #[.slice none 0 0] w (BoolPost w true) := by
  go_enter Tryz.func94, Tryz.ntmps94
  go_wp2_with fail
  go_loopw [3] (fun i wr => i = .int .i64 0 ∧ Below w.heap.size w wr) (fun i _ => 1 - (intOf i).toNat)
  case atStart => exact ⟨rfl, Below.refl _ _⟩
  case round =>
    obtain ⟨rfl, hb⟩ := hrel
    go_wp2
    go_ret
    exact ⟨rfl, hb⟩

set_option maxHeartbeats 1000000 in
set_option maxRecDepth 100000 in
theorem still_none_Ints (kb : Nat) (f0 f1 f3 f4 f5 f6 f7 f8 f9 f10 f11 f12 f13 f14 f15 f16 f17 : Value) (w : World) (hk : Lies w kb 54 [f0, f1, .slice none 0 0, f3, f4, f5, f6, f7, f8, f9, f10, f11, f12, f13, f14, f15, f16, f17]) :
    Calls Tryz.prog 68 #[.pointer (some ⟨kb, 0, none⟩)] w (BoolPost w true) := by
  have hkl := hk.lt
  have HK := veil hk
  clear hk
  go_enter Tryz.func68, Tryz.ntmps68
  go_wp2_with fail
  go_loopw [3] (fun i wr => i = .int .i64 0 ∧ Below w.heap.size w wr) (fun i _ => 1 - (intOf i).toNat)
  case atStart => exact ⟨rfl, Below.refl _ _⟩
  case round =>
    obtain ⟨rfl, hb⟩ := hrel
    have l1 := HK.out.below hb hkl
    have c2 := l1.cell 2
    simp at c2
    clear l1
    go_wp2
    go_ret
    exact ⟨rfl, hb⟩

set_option maxHeartbeats 1000000 in
set_option maxRecDepth 100000 in
theorem put_none_Ints (kb : Nat) (f0 f1 f3 f4 f5 f6 f7 f8 f9 f10 f11 f12 f13 f14 f15 f16 f17 : Value) (w : World) (hk : Lies w kb 54 [f0, f1, .slice none 0 0, f3, f4, f5, f6, f7, f8, f9, f10, f11, f12, f13, f14, f15, f16, f17]) :
    Calls Tryz.prog 79 #[.pointer (some ⟨kb, 0, none⟩)] w (VoidPost w) := by
  have hkl := hk.lt
  have HK := veil hk
  clear hk
  go_enter Tryz.func79, Tryz.ntmps79
  go_wp2_with fail
  go_loopw [2] (fun i wr => i = .int .i64 0 ∧ Below w.heap.size w wr) (fun i _ => 1 - (intOf i).toNat)
  case atStart => exact ⟨rfl, Below.refl _ _⟩
  case round =>
    obtain ⟨rfl, hb⟩ := hrel
    have l1 := HK.out.below hb hkl
    have c2 := l1.cell 2
    simp at c2
    clear l1
    go_wp2
    go_end0
    exact ⟨rfl, hb⟩

set_option maxHeartbeats 1000000 in
set_option maxRecDepth 100000 in
theorem grow_none_Ints (kb : Nat) (f0 f1 f3 f4 f5 f6 f7 f8 f9 f10 f11 f12 f13 f14 f15 f16 f17 : Value) (w : World) (hk : Lies w kb 54 [f0, f1, .slice none 0 0, f3, f4, f5, f6, f7, f8, f9, f10, f11, f12, f13, f14, f15, f16, f17]) :
    Calls Tryz.prog 86 #[.pointer (some ⟨kb, 0, none⟩)] w (NoneGrown w) := by
  have hkl := hk.lt
  have HK := veil hk
  clear hk
  go_enter Tryz.func86, Tryz.ntmps86
  go_wp2_with fail
  go_loopw [3, 4] (fun o i wr => i = .int .i64 0 ∧ o = .slice none 0 0 ∧ Below w.heap.size w wr) (fun _ i _ => 1 - (intOf i).toNat)
  case atStart => exact ⟨rfl, rfl, Below.refl _ _⟩
  case round =>
    obtain ⟨rfl, rfl, hb⟩ := hrel
    have l1 := HK.out.below hb hkl
    have c2 := l1.cell 2
    simp at c2
    clear l1
    go_wp2
    go_ret
    exact ⟨rfl, hb⟩

set_option maxHeartbeats 1000000 in
set_option maxRecDepth 100000 in
theorem marked_none_Ints (w : World)  :
    Calls Tryz.prog 95 #[.slice none 0 0] w (BoolPost w true) := by
  go_enter Tryz.func95, Tryz.ntmps95
  go_wp2_with fail
  go_loopw [3] (fun i wr => i = .int .i64 0 ∧ Below w.heap.size w wr) (fun i _ => 1 - (intOf i).toNat)
  case atStart => exact ⟨rfl, Below.refl _ _⟩
  case round =>
    obtain ⟨rfl, hb⟩ := hrel
    go_wp2
    go_ret
    exact ⟨rfl, hb⟩

set_option maxHeartbeats 1000000 in
set_option maxRecDepth 100000 in
theorem still_none_Items (kb : Nat) (f0 f1 f2 f3 f5 f6 f7 f8 f9 f10 f11 f12 f13 f14 f15 f16 f17 : Value) (w : World) (hk : Lies w kb 54 [f0, f1, f2, f3, .slice none 0 0, f5, f6, f7, f8, f9, f10, f11, f12, f13, f14, f15, f16, f17]) :
    Calls Tryz.prog 69 #[.pointer (some ⟨kb, 0, none⟩)] w (BoolPost w true) := by
  have hkl := hk.lt
  have HK := veil hk
  clear hk
  go_enter Tryz.func69, Tryz.ntmps69
  go_wp2_with fail
  go_loopw [3] (fun i wr => i = .int .i64 0 ∧ Below w.heap.size w wr) (fun i _ => 1 - (intOf i).toNat)
  case atStart => exact ⟨rfl, Below.refl _ _⟩
  case round =>
    obtain ⟨rfl, hb⟩ := hrel
    have l1 := HK.out.below hb hkl
    have c4 := l1.cell 4
    simp at c4
    clear l1
    go_wp2
    go_ret
    exact ⟨rfl, hb⟩

set_option maxHeartbeats 1000000 in
set_option maxRecDepth 100000 in
theorem put_none_Items (kb : Nat) (f0 f1 f2 f3 f5 f6 f7 f8 f9 f10 f11 f12 f13 f14 f15 f16 f17 : Value) (w : World) (hk : Lies w kb 54 [f0, f1, f2, f3, .slice none 0 0, f5, f6, f7, f8, f9, f10, f11, f12, f13, f14, f15, f16, f17]) :
    Calls Tryz.prog 80 #[.pointer (some ⟨kb, 0, none⟩)] w (VoidPost w) := by
  have hkl := hk.lt
  have HK := veil hk
  clear hk
  go_enter Tryz.func80, Tryz.ntmps80
  go_wp2_with fail
  go_loopw [2] (fun i wr => i = .int .i64 0 ∧ Below w.heap.size w wr) (fun i _ => 1 - (intOf i).toNat)
  case atStart => exact ⟨rfl, Below.refl _ _⟩
  case round =>
    obtain ⟨rfl, hb⟩ := hrel
    have l1 := HK.out.below hb hkl
    have c4 := l1.cell 4
    simp at c4
    clear l1
    go_wp2
    go_end0
    exact ⟨rfl, hb⟩

set_option maxHeartbeats 1000000 in
set_option maxRecDepth 100000 in
theorem grow_none_Items (kb : Nat) (f0 f1 f2 f3 f5 f6 f7 f8 f9 f10 f11 f12 f13 f14 f15 f16 f17 : Value) (w : World) (hk : Lies w kb 54 [f0, f1, f2, f3, .slice none 0 0, f5, f6, f7, f8, f9, f10, f11, f12, f13, f14, f15, f16, f17]) :
    Calls Tryz.prog 87 #[.pointer (some ⟨kb, 0, none⟩)] w (NoneGrown w) := by
  have hkl := hk.lt
  have HK := veil hk
  clear hk
  go_enter Tryz.func87, Tryz.ntmps87
  go_wp2_with fail
  go_loopw [3, 4] (fun o i wr => i = .int .i64 0 ∧ o = .slice none 0 0 ∧ Below w.heap.size w wr) (fun _ i _ => 1 - (intOf i).toNat)
  case atStart => exact ⟨rfl, rfl, Below.refl _ _⟩
  case round =>
    obtain ⟨rfl, rfl, hb⟩ := hrel
    have l1 := HK.out.below hb hkl
    have c4 := l1.cell 4
    simp at c4
    clear l1
    go_wp2
    go_ret
    exact ⟨rfl, hb⟩

set_option maxHeartbeats 1000000 in
set_option maxRecDepth 100000 in
theorem marked_none_Items (w : World)  :
    Calls Tryz.prog 96 #[.slice none 0 0] w (BoolPost w true) := by
  go_enter Tryz.func96, Tryz.ntmps96
  go_wp2_with fail
  go_loopw [3] (fun i wr => i = .int .i64 0 ∧ Below w.heap.size w wr) (fun i _ => 1 - (intOf i).toNat)
  case atStart => exact ⟨rfl, Below.refl _ _⟩
  case round =>
    obtain ⟨rfl, hb⟩ := hrel
    go_wp2
    go_ret
    exact ⟨rfl, hb⟩

set_option maxHeartbeats 1000000 in
set_option maxRecDepth 100000 in
theorem still_none_Kids (kb : Nat) (f0 f1 f2 f3 f4 f5 f7 f8 f9 f10 f11 f12 f13 f14 f15 f16 f17 : Value) (w : World) (hk : Lies w kb 54 [f0, f1, f2, f3, f4, f5, .slice none 0 0, f7, f8, f9, f10, f11, f12, f13, f14, f15, f16, f17]) :
    Calls Tryz.prog 70 #[.pointer (some ⟨kb, 0, none⟩)] w (BoolPost w true) := by
  have hkl := hk.lt
  have HK := veil hk
  clear hk
  go_enter Tryz.func70, Tryz.ntmps70
  go_wp2_with fail
  go_loopw [3] (fun i wr => i = .int .i64 0 ∧ Below w.heap.size w wr) (fun i _ => 1 - (intOf i).toNat)
  case atStart => exact ⟨rfl, Below.refl _ _⟩
  case round =>
    obtain ⟨rfl, hb⟩ := hrel
    have l1 := HK.out.below hb hkl
    have c6 := l1.cell 6
    simp at c6
    clear l1
    go_wp2
    go_ret
    exact ⟨rfl, hb⟩

set_option maxHeartbeats 1000000 in
set_option maxRecDepth 100000 in
theorem put_none_Kids (kb : Nat) (f0 f1 f2 f3 f4 f5 f7 f8 f9 f10 f11 f12 f13 f14 f15 f16 f17 : Value) (w : World) (hk : Lies w kb 54 [f0, f1, f2, f3, f4, f5, .slice none 0 0, f7, f8, f9, f10, f11, f12, f13, f14, f15, f16, f17]) :
    Calls Tryz.prog 81 #[.pointer (some ⟨kb, 0, none⟩)] w (VoidPost w) := by
  have hkl := hk.lt
  have HK := veil hk
  clear hk
  go_enter Tryz.func81, Tryz.ntmps81
  go_wp2_with fail
  go_loopw [2] (fun i wr => i = .int .i64 0 ∧ Below w.heap.size w wr) (fun i _ => 1 - (intOf i).toNat)
  case atStart => exact ⟨rfl, Below.refl _ _⟩
  case round =>
    obtain ⟨rfl, hb⟩ := hrel
    have l1 := HK.out.below hb hkl
    have c6 := l1.cell 6
    simp at c6
    clear l1
    go_wp2
    go_end0
    exact ⟨rfl, hb⟩

set_option maxHeartbeats 1000000 in
set_option maxRecDepth 100000 in
theorem grow_none_Kids (kb : Nat) (f0 f1 f2 f3 f4 f5 f7 f8 f9 f10 f11 f12 f13 f14 f15 f16 f17 : Value) (w : World) (hk : Lies w kb 54 [f0, f1, f2, f3, f4, f5, .slice none 0 0, f7, f8, f9, f10, f11, f12, f13, f14, f15, f16, f17]) :
    Calls Tryz.prog 88 #[.pointer (some ⟨kb, 0, none⟩)] w (NoneGrown w) := by
  have hkl := hk.lt
  have HK := veil hk
  clear hk
  go_enter Tryz.func88, Tryz.ntmps88
  go_wp2_with fail
  go_loopw [3, 4] (fun o i wr => i = .int .i64 0 ∧ o = .slice none 0 0 ∧ Below w.heap.size w wr) (fun _ i _ => 1 - (intOf i).toNat)
  case atStart => exact ⟨rfl, rfl, Below.refl _ _⟩
  case round =>
    obtain ⟨rfl, rfl, hb⟩ := hrel
    have l1 := HK.out.below hb hkl
    have c6 := l1.cell 6
    simp at c6
    clear l1
    go_wp2
    go_ret
    exact ⟨rfl, hb⟩

set_option maxHeartbeats 1000000 in
set_option maxRecDepth 100000 in
theorem marked_none_Kids (w : World)  :
    Calls Tryz.prog 97 #[.slice none 0 0] w (BoolPost w true) := by
  go_enter Tryz.func97, Tryz.ntmps97
  go_wp2_with fail
  go_loopw [3] (fun i wr => i = .int .i64 0 ∧ Below w.heap.size w wr) (fun i _ => 1 - (intOf i).toNat)
  case atStart => exact ⟨rfl, Below.refl _ _⟩
  case round =>
    obtain ⟨rfl, hb⟩ := hrel
    go_wp2
    go_ret
    exact ⟨rfl, hb⟩

set_option maxHeartbeats 1000000 in
set_option maxRecDepth 100000 in
theorem still_none_Pairs (kb : Nat) (f0 f1 f2 f3 f4 f5 f6 f7 f9 f10 f11 f12 f13 f14 f15 f16 f17 : Value) (w : World) (hk : Lies w kb 54 [f0, f1, f2, f3, f4, f5, f6, f7, .slice none 0 0, f9, f10, f11, f12, f13, f14, f15, f16, f17]) :
    Calls Tryz.prog 71 #[.pointer (some ⟨kb, 0, none⟩)] w (BoolPost w true) := by
  have hkl := hk.lt
  have HK := veil hk
  clear hk
  go_enter Tryz.func71, Tryz.ntmps71
  go_wp2_with fail
  go_loopw [3] (fun i wr => i = .int .i64 0 ∧ Below w.heap.size w wr) (fun i _ => 1 - (intOf i).toNat)
  case atStart => exact ⟨rfl, Below.refl _ _⟩
  case round =>
    obtain ⟨rfl, hb⟩ := hrel
    have l1 := HK.out.below hb hkl
    have c8 := l1.cell 8
    simp at c8
    clear l1
    go_wp2
    go_ret
    exact ⟨rfl, hb⟩

set_option maxHeartbeats 1000000 in
set_option maxRecDepth 100000 in
theorem put_none_Pairs (kb : Nat) (f0 f1 f2 f3 f4 f5 f6 f7 f9 f10 f11 f12 f13 f14 f15 f16 f17 : Value) (w : World) (hk : Lies w kb 54 [f0, f1, f2, f3, f4, f5, f6, f7, .slice none 0 0, f9, f10, f11, f12, f13, f14, f15, f16, f17]) :
    Calls Tryz.prog 82 #[.pointer (some ⟨kb, 0, none⟩)] w (VoidPost w) := by
  have hkl := hk.lt
  have HK := veil hk
  clear hk
  go_enter Tryz.func82, Tryz.ntmps82
  go_wp2_with fail
  go_loopw [2] (fun i wr => i = .int .i64 0 ∧ Below w.heap.size w wr) (fun i _ => 1 - (intOf i).toNat)
  case atStart => exact ⟨rfl, Below.refl _ _⟩
  case round =>
    obtain ⟨rfl, hb⟩ := hrel
    have l1 := HK.out.below hb hkl
    have c8 := l1.cell 8
    simp at c8
    clear l1
    go_wp2
    go_end0
    exact ⟨rfl, hb⟩

set_option maxHeartbeats 1000000 in
set_option maxRecDepth 100000 in
theorem grow_none_Pairs (kb : Nat) (f0 f1 f2 f3 f4 f5 f6 f7 f9 f10 f11 f12 f13 f14 f15 f16 f17 : Value) (w : World) (hk : Lies w kb 54 [f0, f1, f2, f3, f4, f5, f6, f7, .slice none 0 0, f9, f10, f11, f12, f13, f14, f15, f16, f17]) :
    Calls Tryz.prog 89 #[.pointer (some ⟨kb, 0, none⟩)] w (NoneGrown w) := by
  have hkl := hk.lt
  have HK := veil hk
  clear hk
  go_enter Tryz.func89, Tryz.ntmps89
  go_wp2_with fail
  go_loopw [3, 4] (fun o i wr => i = .int .i64 0 ∧ o = .slice none 0 0 ∧ Below w.heap.size w wr) (fun _ i _ => 1 - (intOf i).toNat)
  case atStart => exact ⟨rfl, rfl, Below.refl _ _⟩
  case round =>
    obtain ⟨rfl, rfl, hb⟩ := hrel
    have l1 := HK.out.below hb hkl
    have c8 := l1.cell 8
    simp at c8
    clear l1
    go_wp2
    go_ret
    exact ⟨rfl, hb⟩

set_option maxHeartbeats 1000000 in
set_option maxRecDepth 100000 in
theorem marked_none_Pairs (w : World)  :
    Calls Tryz.prog 98 #[.slice none 0 0] w (BoolPost w true) := by
  go_enter Tryz.func98, Tryz.ntmps98
  go_wp2_with fail
  go_loopw [3] (fun i wr => i = .int .i64 0 ∧ Below w.heap.size w wr) (fun i _ => 1 - (intOf i).toNat)
  case atStart => exact ⟨rfl, Below.refl _ _⟩
  case round =>
    obtain ⟨rfl, hb⟩ := hrel
    go_wp2
    go_ret
    exact ⟨rfl, hb⟩

set_option maxHeartbeats 1000000 in
set_option maxRecDepth 100000 in
theorem still_none_Steps (kb : Nat) (f0 f1 f2 f3 f4 f5 f6 f7 f8 f9 f10 f11 f12 f13 f15 f16 f17 : Value) (w : World) (hk : Lies w kb 54 [f0, f1, f2, f3, f4, f5, f6, f7, f8, f9, f10, f11, f12, f13, .slice none 0 0, f15, f16, f17]) :
    Calls Tryz.prog 74 #[.pointer (some ⟨kb, 0, none⟩)] w (BoolPost w true) := by
  have hkl := hk.lt
  have HK := veil hk
  clear hk
  go_enter Tryz.func74, Tryz.ntmps74
  go_wp2_with fail
  go_loopw [3] (fun i wr => i = .int .i64 0 ∧ Below w.heap.size w wr) (fun i _ => 1 - (intOf i).toNat)
  case atStart => exact ⟨rfl, Below.refl _ _⟩
  case round =>
    obtain ⟨rfl, hb⟩ := hrel
    have l1 := HK.out.below hb hkl
    have c14 := l1.cell 14
    simp at c14
    clear l1
    go_wp2
    go_ret
    exact ⟨rfl, hb⟩

set_option maxHeartbeats 1000000 in
set_option maxRecDepth 100000 in
theorem put_none_Steps (kb : Nat) (f0 f1 f2 f3 f4 f5 f6 f7 f8 f9 f10 f11 f12 f13 f15 f16 f17 : Value) (w : World) (hk : Lies w kb 54 [f0, f1, f2, f3, f4, f5, f6, f7, f8, f9, f10, f11, f12, f13, .slice none 0 0, f15, f16, f17]) :
    Calls Tryz.prog 76 #[.pointer (some ⟨kb, 0, none⟩)] w (VoidPost w) := by
  have hkl := hk.lt
  have HK := veil hk
  clear hk
  go_enter Tryz.func76, Tryz.ntmps76
  go_wp2_with fail
  go_loopw [2] (fun i wr => i = .int .i64 0 ∧ Below w.heap.size w wr) (fun i _ => 1 - (intOf i).toNat)
  case atStart => exact ⟨rfl, Below.refl _ _⟩
  case round =>
    obtain ⟨rfl, hb⟩ := hrel
    have l1 := HK.out.below hb hkl
    have c14 := l1.cell 14
    simp at c14
    clear l1
    go_wp2
    go_end0
    exact ⟨rfl, hb⟩

set_option maxHeartbeats 1000000 in
set_option maxRecDepth 100000 in
theorem grow_none_Steps (kb : Nat) (f0 f1 f2 f3 f4 f5 f6 f7 f8 f9 f10 f11 f12 f13 f15 f16 f17 : Value) (w : World) (hk : Lies w kb 54 [f0, f1, f2, f3, f4, f5, f6, f7, f8, f9, f10, f11, f12, f13, .slice none 0 0, f15, f16, f17]) :
    Calls Tryz.prog 92 #[.pointer (some ⟨kb, 0, none⟩)] w (NoneGrown w) := by
  have hkl := hk.lt
  have HK := veil hk
  clear hk
  go_enter Tryz.func92, Tryz.ntmps92
  go_wp2_with fail
  go_loopw [3, 4] (fun o i wr => i = .int .i64 0 ∧ o = .slice none 0 0 ∧ Below w.heap.size w wr) (fun _ i _ => 1 - (intOf i).toNat)
  case atStart => exact ⟨rfl, rfl, Below.refl _ _⟩
  case round =>
    obtain ⟨rfl, rfl, hb⟩ := hrel
    have l1 := HK.out.below hb hkl
    have c14 := l1.cell 14
    simp at c14
    clear l1
    go_wp2
    go_ret
    exact ⟨rfl, hb⟩

set_option maxHeartbeats 1000000 in
set_option maxRecDepth 100000 in
theorem marked_none_Steps (w : World)  :
    Calls Tryz.prog 101 #[.slice none 0 0] w (BoolPost w true) := by
  go_enter Tryz.func101, Tryz.ntmps101
  go_wp2_with fail
  go_loopw [3] (fun i wr => i = .int .i64 0 ∧ Below w.heap.size w wr) (fun i _ => 1 - (intOf i).toNat)
  case atStart => exact ⟨rfl, Below.refl _ _⟩
  case round =>
    obtain ⟨rfl, hb⟩ := hrel
    go_wp2
    go_ret
    exact ⟨rfl, hb⟩

set_option maxHeartbeats 1000000 in
set_option maxRecDepth 100000 in
theorem still_none_Entries (kb : Nat) (f0 f1 f2 f3 f4 f5 f6 f7 f8 f9 f10 f11 f12 f13 f14 f15 f17 : Value) (w : World) (hk : Lies w kb 54 [f0, f1, f2, f3, f4, f5, f6, f7, f8, f9, f10, f11, f12, f13, f14, f15, .slice none 0 0, f17]) :
    Calls Tryz.prog 75 #[.pointer (some ⟨kb, 0, none⟩)] w (BoolPost w true) := by
  have hkl := hk.lt
  have HK := veil hk
  clear hk
  go_enter Tryz.func75, Tryz.ntmps75
  go_wp2_with fail
  go_loopw [3] (fun i wr => i = .int .i64 0 ∧ Below w.heap.size w wr) (fun i _ => 1 - (intOf i).toNat)
  case atStart => exact ⟨rfl, Below.refl _ _⟩
  case round =>
    obtain ⟨rfl, hb⟩ := hrel
    have l1 := HK.out.below hb hkl
    have c16 := l1.cell 16
    simp at c16
    clear l1
    go_wp2
    go_ret
    exact ⟨rfl, hb⟩

set_option maxHeartbeats 1000000 in
set_option maxRecDepth 100000 in
theorem put_none_Entries (kb : Nat) (f0 f1 f2 f3 f4 f5 f6 f7 f8 f9 f10 f11 f12 f13 f14 f15 f17 : Value) (w : World) (hk : Lies w kb 54 [f0, f1, f2, f3, f4, f5, f6, f7, f8, f9, f10, f11, f12, f13, f14, f15, .slice none 0 0, f17]) :
    Calls Tryz.prog 77 #[.pointer (some ⟨kb, 0, none⟩)] w (VoidPost w) := by
  have hkl := hk.lt
  have HK := veil hk
  clear hk
  go_enter Tryz.func77, Tryz.ntmps77
  go_wp2_with fail
  go_loopw [2] (fun i wr => i = .int .i64 0 ∧ Below w.heap.size w wr) (fun i _ => 1 - (intOf i).toNat)
  case atStart => exact ⟨rfl, Below.refl _ _⟩
  case round =>
    obtain ⟨rfl, hb⟩ := hrel
    have l1 := HK.out.below hb hkl
    have c16 := l1.cell 16
    simp at c16
    clear l1
    go_wp2
    go_end0
    exact ⟨rfl, hb⟩

set_option maxHeartbeats 1000000 in
set_option maxRecDepth 100000 in
theorem grow_none_Entries (kb : Nat) (f0 f1 f2 f3 f4 f5 f6 f7 f8 f9 f10 f11 f12 f13 f14 f15 f17 : Value) (w : World) (hk : Lies w kb 54 [f0, f1, f2, f3, f4, f5, f6, f7, f8, f9, f10, f11, f12, f13, f14, f15, .slice none 0 0, f17]) :
    Calls Tryz.prog 93 #[.pointer (some ⟨kb, 0, none⟩)] w (NoneGrown w) := by
  have hkl := hk.lt
  have HK := veil hk
  clear hk
  go_enter Tryz.func93, Tryz.ntmps93
  go_wp2_with fail
  go_loopw [3, 4] (fun o i wr => i = .int .i64 0 ∧ o = .slice none 0 0 ∧ Below w.heap.size w wr) (fun _ i _ => 1 - (intOf i).toNat)
  case atStart => exact ⟨rfl, rfl, Below.refl _ _⟩
  case round =>
    obtain ⟨rfl, rfl, hb⟩ := hrel
    have l1 := HK.out.below hb hkl
    have c16 := l1.cell 16
    simp at c16
    clear l1
    go_wp2
    go_ret
    exact ⟨rfl, hb⟩

set_option maxHeartbeats 1000000 in
set_option maxRecDepth 100000 in
theorem marked_none_Entries (w : World)  :
    Calls Tryz.prog 102 #[.slice none 0 0] w (BoolPost w true) := by
  go_enter Tryz.func102, Tryz.ntmps102
  go_wp2_with fail
  go_loopw [3] (fun i wr => i = .int .i64 0 ∧ Below w.heap.size w wr) (fun i _ => 1 - (intOf i).toNat)
  case atStart => exact ⟨rfl, Below.refl _ _⟩
  case round =>
    obtain ⟨rfl, hb⟩ := hrel
    go_wp2
    go_ret
    exact ⟨rfl, hb⟩

end Go.Proofs.YtjonmggkmalgaaaGreatDoor

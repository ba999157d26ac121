/-
  The statements' own measure of how much is handed in: rootstockbook.Room, rootstockbook.Cmds come to a number, whatever it is.
-/
import Derived.Test.YtjonmggkmalgaaaGreatDoorW42Lay
namespace Go.Proofs.YtjonmggkmalgaaaGreatDoor
open Go.RowKit Go.Lib

def RoomPost (w : World) (left : Int) (e : Ending) (w' : World) : Prop := ∃ z : Int, e = .returned (.int .i64 z) ∧ -1 ≤ z ∧ z ≤ left ∧ Below w.heap.size w w'

set_option maxHeartbeats 1000000 in
set_option maxRecDepth 100000 in
theorem room_any (left : Int) (b : Nat) (zs : List Int) (w : World) (hb : Lies w b 3 (zs.map (Value.int .i64))) (h0 : 0 ≤ left) (h1 : left ≤ 1000000) (hz : ∀ z ∈ zs, 0 ≤ z) (hl : zs.length ≤ 1000000) :
    Calls Tryz.prog 13 #[.int .i64 left, .slice (some ⟨b, 0, none⟩) zs.length zs.length] w (RoomPost w left) := by
  have HZ := veil hz
  have HB := veil hb
  clear hz hb
  go_enter Tryz.func13, Tryz.ntmps13
  go_wp2_with fail
  go_loopw [0, 5] (fun v i wr => ∃ (k : Nat) (z : Int), k ≤ zs.length ∧ i = .int .i64 k ∧ v = .int .i64 z ∧ 0 ≤ z ∧ z ≤ left ∧ Below w.heap.size w wr) (fun _ i _ => zs.length - (intOf i).toNat)
  case atStart => exact ⟨0, left, Nat.zero_le _, rfl, rfl, h0, Int.le_refl _, Below.refl _ _⟩
  case round =>
    obtain ⟨k, z, hk, rfl, rfl, z0, z1, hbr⟩ := hrel
    by_cases hlt : k < zs.length
    · have hb := HB.out.below hbr HB.out.lt
      have c0 := hb.cell k
      rw [List.getElem?_map, List.getElem?_eq_getElem hlt] at c0
      have hp := HZ.out zs[k] (List.getElem_mem hlt)
      obtain ⟨u, hu⟩ : ∃ u, u = zs[k] := ⟨_, rfl⟩
      rw [← hu] at c0 hp
      simp only [Option.map_some] at c0
      have i0 : (0 : Int) ≤ (k : Int) := by omega
      have i1 : (k : Int) < (zs.length : Int) := by omega
      have hneg : ¬ z < 0 := by omega
      clear hu hb
      by_cases hgt : z < u
      · go_wp2
        go_ret
        exact ⟨-1, rfl, by decide, by omega, hbr⟩
      · have hz2 : 0 ≤ z - u := by omega
        have hz3 : z - u ≤ left := by omega
        go_wp2
        go_roundw
        case rel => exact ⟨k + 1, z - u, by omega, by go_num, rfl, hz2, hz3, hbr⟩
        case measure => simp [intOf]; omega
    · obtain rfl : k = zs.length := by omega
      go_wp2
      go_ret
      exact ⟨z, rfl, by omega, z1, hbr⟩

set_option maxHeartbeats 1000000 in
set_option maxRecDepth 100000 in
theorem cmds_any (left : Int) (x : Option Addr) (l : List CmdS) (cap : Nat) (w : World) (hx : CmdsAt w x l) (h0 : 0 ≤ left) (h1 : left ≤ 1000000) (hl : l.length ≤ 9223372036854775807) :
    Calls Tryz.prog 5 #[.int .i64 left, .slice x l.length cap] w (RoomPost w left) := by
  have HX := veil hx
  clear hx
  go_enter Tryz.func5, Tryz.ntmps5
  go_wp2_with fail
  go_loopw [0, 5] (fun v i wr => ∃ (k : Nat) (z : Int), k ≤ l.length ∧ i = .int .i64 k ∧ v = .int .i64 z ∧ -1 ≤ z ∧ z ≤ left ∧ Below w.heap.size w wr) (fun _ i _ => l.length - (intOf i).toNat)
  case atStart => exact ⟨0, left, Nat.zero_le _, rfl, rfl, by omega, Int.le_refl _, Below.refl _ _⟩
  case round =>
    obtain ⟨k, z, hk, rfl, rfl, z0, z1, hbr⟩ := hrel
    by_cases hlt : k < l.length
    · have i0 : (0 : Int) ≤ (k : Int) := by omega
      have i1 : (k : Int) < (l.length : Int) := by omega
      by_cases hneg : 0 ≤ z
      · have hxr := HX.out.below hbr
        have hxd : ∀ W, Below wr.heap.size wr W → CmdsAt W x l := fun W h => hxr.below h
        obtain ⟨bb, off, rfl, k0, k1, k2, k3, k4⟩ := hxr k hlt
        have hlb := World.block_lt_of_cell? wr _ k1
        obtain ⟨p, hp⟩ : ∃ p, p = l[k] := ⟨_, rfl⟩
        rw [← hp] at k0 k1 k2 k3 k4
        obtain ⟨kind, path, key, val, old⟩ := p
        simp only at k0 k1 k2 k3 k4
        have ha := box_made wr 3 [.int .i64 9, .int .i64 path.size, .int .i64 key.size, .int .i64 val.size, .int .i64 old.size]
        have hmade := Lies.made wr 3 (([9, path.size, key.size, val.size, old.size] : List Int).map (Value.int .i64))
        have hcell : ∀ j, (wr.alloc (.cells #[.int .i64 9, .int .i64 path.size, .int .i64 key.size, .int .i64 val.size, .int .i64 old.size] 3)).cell? ⟨bb, j, none⟩ = wr.cell? ⟨bb, j, none⟩ := fun j => ha.cell hlb
        clear hp hxd hxr k0
        go_wp2_with fail
        go_region_held3 (fun w' => w'.cell? ⟨bb, off + k * 5 + 1, none⟩ = some (.string path) ∧ w'.cell? ⟨bb, off + k * 5 + 2, none⟩ = some (.string key) ∧ w'.cell? ⟨bb, off + k * 5 + 3, none⟩ = some (.string val) ∧ w'.cell? ⟨bb, off + k * 5 + 4, none⟩ = some (.string old))
          (first
            | exact ⟨k1, k2, k3, k4⟩
            | exact ⟨(hb5.cell hlb).trans k1, (hb5.cell hlb).trans k2, (hb5.cell hlb).trans k3, (hb5.cell hlb).trans k4⟩
            | exact ⟨(hcell _).trans k1, (hcell _).trans k2, (hcell _).trans k3, (hcell _).trans k4⟩)
          ((go_at_call 13; refine (room_any z wr.heap.size [9, path.size, key.size, val.size, old.size] _ hmade.drew hneg (by omega) (by intro u hu; simp at hu; omega) (by simp)).mono ?_; rintro e w5 ⟨y, rfl, y0, y1, hb4⟩; have hb5 : Below wr.heap.size wr w5 := ha.drew.trans (hb4.mono (by show wr.heap.size ≤ (wr.alloc _).heap.size; simp))))
        all_goals (
          have hbr5 := hbr.trans (hb5.mono hbr.size)
          clear hmade hcell
          go_wp2
          go_roundw
          case rel => exact ⟨k + 1, y, by omega, by go_num, rfl, y0, by omega, hbr5⟩
          case measure => simp [intOf]; omega)
      · go_wp2
        go_ret
        exact ⟨z, rfl, z0, z1, hbr⟩
    · obtain rfl : k = l.length := by omega
      go_wp2
      go_ret
      exact ⟨z, rfl, z0, z1, hbr⟩
end Go.Proofs.YtjonmggkmalgaaaGreatDoor

/-
  cmd.plain: Make and Drop of a box within the root.
-/
import Derived.Test.YtjonmggkmalgaaaGreatDoorW09Plain
namespace Go.Proofs.YtjonmggkmalgaaaGreatDoor
open Go.RowKit Go.Maps Go.WideMaps Go.WideElems

/-- A new empty box has come into the root's. -/
def MakePost (r rv ri n : Nat) (q : Int) (V I : Dat) (s : ByteArray) (w : World) (e : Ending) (w' : World) : Prop :=
  e = .returned (.int .i64 0) ∧ ∃ c cv ci, w.heap.size ≤ c ∧ w.heap.size ≤ cv ∧ w.heap.size ≤ ci ∧ BoxAt w' r rv ri q (n + 1) V (I.put (keyL s) (.lit (.int .u64 c))) ∧ BoxAt w' c cv ci 0 0 (.map []) (.map []) ∧ Keeps (fun k => k = ri) w w'

set_option maxRecDepth 100000 in
theorem make_ok (r rv ri n : Nat) (q : Int) (V I : Dat) (s : ByteArray) (w : World) (hm : HasMax w) (hs : s.size ≤ 1000000) (hp : Plainname s) (hB : BoxAt w r rv ri q n V I) (hn : n ≤ 1000000) (hI : Maps.has I (keyL s) = false) (hV : Maps.has V (keyL s) = false) :
    Calls Tryz.prog 204 #[plainV r, .string s] w (MakePost r rv ri n q V I s w) := by
  go_enter Tryz.func204, Tryz.ntmps204
  go_wp2_with fail
  refine (last_ok r s _ (hm.alloc _) hs hp).mono ?_
  rintro e w1 ⟨rfl, hb⟩
  have hbw := below_after hb
  have hB1 := hB.below hbw
  have c1 : w1.cell? ⟨r, 1, none⟩ = some (.map (some rv)) := hB1.lies.cell 1
  have c2 : w1.cell? ⟨r, 2, none⟩ = some (.map (some ri)) := hB1.lies.cell 2
  have k1 := look_str_no hB1.vals (by omega) hV
  have k2 := look_ptr_no hB1.ins (by omega) hI
  clear hI hV hm hp
  go_wp2_with fail
  go_region_held3 (fun w' => w'.cell? ⟨r, 2, none⟩ = some (.map (some ri)))
    (first
      | exact c2
      | exact hB2.lies.cell 2
      | exact hB3.lies.cell 2)
    ((go_at_call 103; refine (empty_any _).mono ?_; rintro e w2 ⟨c, cv, ci, rfl, h1, h2, h3, hE, hb2⟩; have hB2 := hB1.drew.below hb2; obtain ⟨w3, hrun, hown3, hturn3⟩ := hB2.ins.store (val := .pointer (some ⟨c, 0, none⟩)) (d := .lit (.int .u64 c)) (ps := []) keyed Tryz.underlying164 (show n < maxLen by unfold maxLen; omega) (key_of s (by omega)) rfl; have hk3 := keeps_row hturn3.grown; have hB3 : BoxAt w3 r rv ri q (n + 1) V (I.put (keyL s) (.lit (.int .u64 c))) := ⟨hB2.lies.kept hk3 (fun e => hB2.apart_i e.symm), (map_keeps hB2.vals hk3 hB2.apart).mono (by omega), hown3, hB2.apart⟩))
  go_wp2
  go_ret
  have hz := hbw.size
  have hr := hB1.ins.lt
  have g1 : w1.heap.size ≤ c := h1
  have g2 : w1.heap.size ≤ cv := h2
  have g3 : w1.heap.size ≤ ci := h3
  have hbw2 : Below w.heap.size w w2 := hbw.drew.trans (hb2.mono hz)
  exact ⟨rfl, c, cv, ci, by omega, by omega, by omega, hB3, hE.kept hk3 (by omega) (by omega) (by omega), keeps_then hbw2 hk3⟩

def SameBox (w : World) (x : Int) (e : Ending) (w' : World) : Prop := e = .returned (.int .i64 x) ∧ Below w.heap.size w w'

theorem make_dup (r rv ri n c : Nat) (q : Int) (V I : Dat) (s : ByteArray) (w : World) (hm : HasMax w) (hs : s.size ≤ 1000000) (hp : Plainname s) (hB : BoxAt w r rv ri q n V I) (hI : Maps.has I (keyL s) = true) (hat : I.atKey (keyL s) .nil = .lit (.int .u64 c)) :
    Calls Tryz.prog 204 #[plainV r, .string s] w (SameBox w 9) := by
  go_enter Tryz.func204, Tryz.ntmps204
  go_wp2_with fail
  refine (last_ok r s _ (hm.alloc _) hs hp).mono ?_
  rintro e w1 ⟨rfl, hb⟩
  have hbw := below_after hb
  have hB1 := hB.below hbw
  have c2 : w1.cell? ⟨r, 2, none⟩ = some (.map (some ri)) := hB1.lies.cell 2
  have k2 := look_ptr_yes hB1.ins (by omega) hI hat
  clear hI hat hm hp
  go_wp2
  go_ret
  exact ⟨rfl, hbw⟩

/-- The boxes within the root have turned to I'. -/
def DropPost (r rv ri n : Nat) (q : Int) (V I' : Dat) (w : World) (e : Ending) (w' : World) : Prop :=
  e = .returned (.int .i64 0) ∧ BoxAt w' r rv ri q n V I' ∧ Keeps (fun k => k = ri) w w'

theorem drop_ok (r rv ri n c : Nat) (q : Int) (V I : Dat) (s : ByteArray) (w : World) (hm : HasMax w) (hs : s.size ≤ 1000000) (hp : Plainname s) (hB : BoxAt w r rv ri q n V I) (hV : Maps.has V (keyL s) = false) (hI : Maps.has I (keyL s) = true) (hat : I.atKey (keyL s) .nil = .lit (.int .u64 c)) :
    Calls Tryz.prog 202 #[plainV r, .string s] w (DropPost r rv ri n q V (I.del (keyL s)) w) := by
  go_enter Tryz.func202, Tryz.ntmps202
  go_wp2_with fail
  refine (last_ok r s _ (hm.alloc _) hs hp).mono ?_
  rintro e w1 ⟨rfl, hb⟩
  have hbw := below_after hb
  have hB1 := hB.below hbw
  have c1 : w1.cell? ⟨r, 1, none⟩ = some (.map (some rv)) := hB1.lies.cell 1
  have c2 : w1.cell? ⟨r, 2, none⟩ = some (.map (some ri)) := hB1.lies.cell 2
  have k1 := look_str_no hB1.vals (by omega) hV
  have k2 := look_ptr_yes hB1.ins (by omega) hI hat
  clear hI hat hm hp hV
  go_wp2_with (at_delete; refine wpList_delete_own _ rfl _ _ 164 9 rfl 122 keyed Tryz.underlying164 ptrElem ri n I rfl hB1.ins _ _ rfl (key_of s (by omega)) ?_; intro w2 hown2 hturn2)
  go_ret
  have hk := keeps_row hturn2.grown
  exact ⟨rfl, ⟨hB1.lies.kept hk (fun e => hB1.apart_i e.symm), map_keeps hB1.vals hk hB1.apart, hown2, hB1.apart⟩, keeps_then hbw hk⟩
end Go.Proofs.YtjonmggkmalgaaaGreatDoor

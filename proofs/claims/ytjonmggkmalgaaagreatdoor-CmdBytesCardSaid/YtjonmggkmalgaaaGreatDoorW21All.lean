/-
  The document's Name; a box without boxes in it, all of whose values stand at one key, told as one map.
-/
import Derived.Test.YtjonmggkmalgaaaGreatDoorW20All
namespace Go.Proofs.YtjonmggkmalgaaaGreatDoor
open Go.RowKit Go.Maps Go.WideMaps Go.WideElems

def TextPost (w : World) (s : ByteArray) (e : Ending) (w' : World) : Prop := e = .returned (.tuple #[.string ⟨(textBytes s.data.toList).toArray⟩, .bool true]) ∧ Below w.heap.size w w'

theorem text_ref (s : ByteArray) (w : World) (hs : s.size ≤ 65535) : Calls Tryz.prog 106 #[.string s] w (TextPost w s) := by
  have h1 : ¬ ((65535 : Int) < (s.size : Int)) := by omega
  go_enter Tryz.func106, Tryz.ntmps106
  go_wp2_with fail
  refine (low_ref s.size 2 _ (by omega) (by omega)).mono ?_
  rintro e w1 ⟨rfl, hb⟩
  have hl2 : (lowBytes s.size 2).length + s.size ≤ 9223372036854775807 := by rw [lowBytes_length]; omega
  go_wp2
  go_ret2
  refine ⟨?_, hb⟩
  have e : (⟨(lowBytes s.size 2).toArray⟩ : ByteArray) ++ s = ⟨(textBytes s.data.toList).toArray⟩ := by
    apply bytes_ext
    rw [ByteArray.data_append]
    unfold textBytes
    simp
  rw [← e]
  rfl

theorem name_ref (p k : ByteArray) (w : World) (hp : p.size ≤ 65535) (hk : k.size ≤ 65535) :
    Calls Tryz.prog 33 #[.string p, .string k] w (NamePost w (nameS p k)) := by
  go_enter Tryz.func33, Tryz.ntmps33
  go_wp2_with fail
  refine (text_ref p _ hp).mono ?_
  rintro e w1 ⟨rfl, hb1⟩
  go_wp2_with fail
  refine (text_ref k _ hk).mono ?_
  rintro e w2 ⟨rfl, hb2⟩
  have hl2 : (textBytes p.data.toList).length + (textBytes k.data.toList).length ≤ 9223372036854775807 := by
    have e1 : p.data.toList.length = p.size := Array.length_toList
    have e2 : k.data.toList.length = k.size := Array.length_toList
    rw [textBytes_length, textBytes_length, e1, e2]; omega
  go_wp2
  go_ret
  refine ⟨?_, hb1.trans (hb2.mono hb1.size)⟩
  have e : (⟨(textBytes p.data.toList).toArray⟩ : ByteArray) ++ ⟨(textBytes k.data.toList).toArray⟩ = nameS p k := by
    apply bytes_ext
    rw [ByteArray.data_append]
    show ((textBytes p.data.toList).toArray ++ (textBytes k.data.toList).toArray).toList = ((textBytes p.data.toList ++ textBytes k.data.toList).toArray).toList
    simp
  rw [← e]
  rfl

theorem ptr_shape (v : Value) (y : Dat × List MemPlace) (h : ptrElem v = some y) : ∃ a : Option Addr, v = .pointer a := by
  unfold ptrElem at h
  split at h
  · exact ⟨_, rfl⟩
  · exact ⟨_, rfl⟩
  · cases h
theorem str_shape (v : Value) (y : Dat × List MemPlace) (h : strElem v = some y) : ∃ s : ByteArray, v = .string s := by
  obtain ⟨s, h, _⟩ := plainElem_string_inv Tryz.underlying9 h
  exact ⟨s, h⟩

/-- All values of the box: its number's and its one key's. -/
def AllOf (seq : Int) (k v : ByteArray) : Dat := ((DataW.map []).put (keyL (nameS ⟨#[]⟩ ⟨#[]⟩)) (.lit (.string (digS seq).data.toList))).put (keyL (nameS ⟨#[]⟩ k)) (.lit (.string v.data.toList))

def AllPost (mo : Nat) (D : Dat) (w : World) (e : Ending) (w' : World) : Prop := e = .returned (.tuple #[]) ∧ w'.ownsMap Tryz.prog 9 strElem mo 2 D ∧ Keeps (fun k => k = mo) w w'

set_option maxHeartbeats 1000000 in
set_option maxRecDepth 100000 in
theorem all_one (c cv ci n mo : Nat) (q : Int) (V : Dat) (k v : ByteArray) (w : World) (hg : Glob w) (hB : BoxAt w c cv ci q n V (.map [])) (ho : w.ownsMap Tryz.prog 9 strElem mo 0 (.map [])) (h0 : -1000000 ≤ q) (h1 : q ≤ 1000000) (hk : k.size ≤ 1000) (hv : v.size ≤ 2000)
    (hV1 : ∀ kl, Maps.has V kl = true → kl = keyL k) (hV2 : ∀ z, V.atKey (keyL k) z = .lit (.string v.data.toList)) (hmo1 : mo ≠ c) (hmo2 : mo ≠ cv) (hmo3 : mo ≠ ci) :
    Calls Tryz.prog 105 #[.pointer (some ⟨c, 0, none⟩), .string ⟨#[]⟩, .map (some mo)] w (AllPost mo (AllOf q k v) w) := by
  have hdq := digS_size q (by omega) (by omega)
  have c0 : w.cell? ⟨c, 0, none⟩ = some (.int .i64 q) := hB.lies.cell 0
  go_enter Tryz.func105, Tryz.ntmps105
  go_wp2_with fail
  go_region_held3 (fun w' => w'.cell? ⟨c, 0, none⟩ = some (.int .i64 q))
    (first
      | exact c0
      | exact hB3.lies.cell 0
      | exact (hB.below hbx).lies.cell 0)
    (first
      | (go_at_call 137; refine (name_any ⟨#[]⟩ ⟨#[]⟩ _ (by decide) (by decide)).mono ?_; rintro e w2 ⟨rfl, hb2⟩; have hbx : Below w.heap.size w w2 := Below.trans (by first | exact (Below.refl _ _).drew | exact hbx) (hb2.mono (by first | exact Nat.le_refl _ | exact hbx.size)); obtain ⟨w3, hrun, ho3, ht3⟩ := World.ownsMap.store (map_keeps (S := fun _ => False) ho (Keeps.below hbx (fun j hj hj' => absurd hj (by omega))) id) (val := .string (digS q)) (d := .lit (.string (digS q).data.toList)) (ps := []) keyed Tryz.underlying72 (by unfold maxLen; omega) (key_of (nameS ⟨#[]⟩ ⟨#[]⟩) (by rw [nameS_size]; decide)) (plainElem_string Tryz.underlying9 (by unfold maxLen; omega)); have hk3 := keeps_row ht3.grown; have hB3 := (hB.below hbx).kept hk3 (fun e => hmo1 e.symm) (fun e => hmo2 e.symm) (fun e => hmo3 e.symm))
      | (go_at_call 133; refine (digits_any q _ (by omega) (by omega) (hg.below (by first | exact (Below.refl _ _).drew | exact hbx))).mono ?_; rintro e w2 ⟨rfl, hb2⟩; have hbx : Below w.heap.size w w2 := Below.trans (by first | exact (Below.refl _ _).drew | exact hbx) (hb2.mono (by first | exact Nat.le_refl _ | exact hbx.size)); obtain ⟨w3, hrun, ho3, ht3⟩ := World.ownsMap.store (map_keeps (S := fun _ => False) ho (Keeps.below hbx (fun j hj hj' => absurd hj (by omega))) id) (val := .string (digS q)) (d := .lit (.string (digS q).data.toList)) (ps := []) keyed Tryz.underlying72 (by unfold maxLen; omega) (key_of (nameS ⟨#[]⟩ ⟨#[]⟩) (by rw [nameS_size]; decide)) (plainElem_string Tryz.underlying9 (by unfold maxLen; omega)); have hk3 := keeps_row ht3.grown; have hB3 := (hB.below hbx).kept hk3 (fun e => hmo1 e.symm) (fun e => hmo2 e.symm) (fun e => hmo3 e.symm)))
  have c1 : w3.cell? ⟨c, 1, none⟩ = some (.map (some cv)) := hB3.lies.cell 1
  have hkw := keeps_then hbx hk3
  have hVk : Maps.has V (keyL k) = true := has_true_of_atKey hV2
  obtain ⟨l1, l2, l3⟩ := hB3.lts
  have lmo := ho3.lt
  clear hrun c0
  go_wp2_with (first
    | (at_range; refine wpList_range_own _ rfl _ 72 rfl 9 9 keyed Tryz.underlying72 strElem cv n V rfl hB3.vals ?_; intro w4 hrg0 hg4 hs4)
    | go_in)
  go_frame
  go_loopw [6] (fun _ wr => ∃ (left : Lit → Bool) (cnt : Nat), wr.ranges Tryz.prog 9 strElem cv w3.heap.size n V left cnt ∧
      ((left (keyL k) = true ∧ wr.ownsMap Tryz.prog 9 strElem mo 1 ((DataW.map []).put (keyL (nameS ⟨#[]⟩ ⟨#[]⟩)) (.lit (.string (digS q).data.toList)))) ∨ (left (keyL k) = false ∧ wr.ownsMap Tryz.prog 9 strElem mo 2 (AllOf q k v))) ∧
      BoxAt wr c cv ci q n V (.map []) ∧ Keeps (fun j => j = mo) w wr)
    (fun _ wr => wr.rangeLeft cv w3.heap.size)
  case atStart =>
    have hk4 : Keeps (fun _ => False) w3 w4 := Keeps.grown (Keeps.rfl' _ _) hg4 (fun j _ hj => by cases hj)
    exact ⟨_, _, hrg0, .inl ⟨hVk, map_keeps ho3 hk4 id⟩, hB3.kept hk4 id id id, hkw.trans hk4 (fun _ _ hf => hf.elim)⟩
  case round =>
    obtain ⟨left, cnt, hrg, hout, hBr, hkr⟩ := hrel
    go_wp2_with (first
      | (at_next; refine wpList_next_ranges (α := ByteArray) (β := ByteArray) _ rfl _ rfl 9 keyed strElem Value.string Value.string (fun key kl hk => Maps.keyOf_string_inv Tryz.underlying9 hk) str_shape cv w3.heap.size n _ _ _ rfl hrg ?_ ?_)
      | go_in)
    · -- nothing is left
      intro _ hl0
      obtain ⟨wo, rfl⟩ : ∃ wo : World, wo = wr := ⟨_, rfl⟩
      have hD : wo.ownsMap Tryz.prog 9 strElem mo 2 (AllOf q k v) := by
        rcases hout with ⟨h, _⟩ | ⟨_, h⟩
        · rw [hl0] at h; cases h
        · exact h
      have c2 : wo.cell? ⟨c, 2, none⟩ = some (.map (some ci)) := hBr.lies.cell 2
      clear hrg hout
      go_wp2_with (first
        | (at_range; refine wpList_range_own _ rfl _ 164 rfl 9 122 keyed Tryz.underlying164 ptrElem ci n (.map []) rfl hBr.ins ?_; intro w6 hrg0' hg6 hs6)
        | go_in)
      go_frame
      go_loopw [8] (fun _ wz => ∃ (left : Lit → Bool) (cnt : Nat), wz.ranges Tryz.prog 9 ptrElem ci wo.heap.size n (.map []) left cnt ∧ wz.ownsMap Tryz.prog 9 strElem mo 2 (AllOf q k v) ∧ Keeps (fun j => j = mo) w wz)
        (fun _ wz => wz.rangeLeft ci wo.heap.size)
      case atStart =>
        have hk6 : Keeps (fun _ => False) wo w6 := Keeps.grown (Keeps.rfl' _ _) hg6 (fun j _ hj => by cases hj)
        exact ⟨_, _, hrg0', map_keeps hD hk6 id, hkr.trans hk6 (fun _ _ hf => hf.elim)⟩
      case round =>
        obtain ⟨left, cnt, hrg, hDz, hkz⟩ := hrel
        go_wp2_with (first
          | (at_next; refine wpList_next_ranges (α := ByteArray) (β := Option Addr) _ rfl _ rfl 9 keyed ptrElem Value.string Value.pointer (fun key kl hk => Maps.keyOf_string_inv Tryz.underlying9 hk) ptr_shape ci wo.heap.size n _ _ _ rfl hrg ?_ ?_)
          | go_in)
        · intro _ _
          go_wp2
          go_end0
          exact ⟨rfl, hDz, hkz⟩
        · intro x cc kl yd yp w7 cnt7 _ _ _ hat
          exact absurd (has_true_of_atKey hat) (by simp [Maps.has])
    · -- the one key
      intro x cc kl yd yp w5 cnt5 hkx hlk hRy hat hrg5 hlt5 hg5 hs5 hen
      have hkl := hV1 kl (has_true_of_atKey hat)
      subst hkl
      have hx : x = k := by
        rw [keyOf_string Tryz.underlying9] at hkx
        simp [mapKey, Tryz.underlying9] at hkx
        exact bytes_ext (by have := hkx.2; unfold keyL at this; injection this)
      have hc : cc = v := by
        have h1 := hat (.lit (.string []))
        rw [hV2] at h1
        obtain ⟨t, ht, hz, _⟩ := plainElem_string_inv Tryz.underlying9 hRy
        injection ht with ht
        subst ht
        simp only [Prod.mk.injEq] at hz
        rw [hz.1] at h1
        injection h1 with h1
        injection h1 with h1
        exact bytes_ext h1.symm
      subst hx
      subst hc
      have hbefore : wr.ownsMap Tryz.prog 9 strElem mo 1 ((DataW.map []).put (keyL (nameS ⟨#[]⟩ ⟨#[]⟩)) (.lit (.string (digS q).data.toList))) := by
        rcases hout with ⟨_, h⟩ | ⟨h, _⟩
        · exact h
        · rw [hlk] at h; cases h
      have hk5 : Keeps (fun j => j = w3.heap.size) wr w5 := keeps_row hg5
      have hB5 := hBr.kept hk5 (by omega) (by omega) (by omega)
      have ho5 := map_keeps hbefore hk5 (by omega)
      have hne5 : cv ≠ mo := fun e => hmo2 e.symm
      have hkw5 : Keeps (fun j => j = mo) w w5 := hkr.trans (hk5.more (S' := fun j => w.heap.size ≤ j) (fun j _ hj => by have := hkw.size; omega)) (fun j hj hj' => absurd hj' (by omega))
      clear hout hbefore hat hRy
      go_wp2_with fail
      refine (name_any ⟨#[]⟩ x _ (by decide) (by omega)).mono ?_
      rintro e w6 ⟨rfl, hb6⟩
      have hrg6 := hrg5.kept (w' := w6) (row := none) ⟨hb6.os, hb6.tape, hb6.output, hb6.size, fun j hj _ => hb6.block j hj⟩ (by simp) (by simp)
      have hB6 := hB5.below hb6
      have ho6 := map_keeps (S := fun _ => False) ho5 (Keeps.below hb6 (fun j hj hj' => absurd hj (by omega))) id
      go_wp2_with (first
        | (at_mapUpdate; refine wpList_mapUpdate_own _ rfl _ _ _ 72 rfl 9 9 keyed Tryz.underlying72 strElem mo 1 _ rfl ho6 (by unfold maxLen; omega) _ _ _ rfl rfl (key_of (nameS ⟨#[]⟩ x) (by rw [nameS_size]; show 0 + x.size + 4 ≤ _; omega)) (.lit (.string cc.data.toList)) [] (plainElem_string Tryz.underlying9 (by unfold maxLen; omega)) ?_; intro w7 ho7 hg7; go_frame)
        | go_in)
      have hk7 := keeps_row hg7
      have hrg7 := hrg6.kept hg7 (fun e => hne5 (Option.some.inj e)) (fun e => by have := Option.some.inj e; omega)
      go_roundw
      case rel =>
        refine ⟨_, cnt5, hrg7, .inr ⟨by simp [Lit.sameKey, keyL], ho7⟩, hB6.kept hk7 (fun e => hmo1 e.symm) (fun e => hmo2 e.symm) (fun e => hmo3 e.symm), ?_⟩
        exact (hkw5.trans (Keeps.below (S := fun j => j = mo) hb6 (fun j hj hj' => absurd hj (by omega))) (fun _ _ h => h)).trans hk7 (fun _ _ h => h)
      case measure => rw [hrg7.left_eq, hrg.left_eq]; exact hlt5
end Go.Proofs.YtjonmggkmalgaaaGreatDoor

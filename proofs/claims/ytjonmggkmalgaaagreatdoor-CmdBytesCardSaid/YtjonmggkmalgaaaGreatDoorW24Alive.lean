/-
  alive: the state answers Add, and All tells what it holds.
-/
import Derived.Test.YtjonmggkmalgaaaGreatDoorW22State
namespace Go.Proofs.YtjonmggkmalgaaaGreatDoor
open Go.RowKit Go.Maps Go.WideMaps Go.WideElems Go.Lib

theorem dig5 : digS 5 = ⟨#[53]⟩ := by
  apply bytes_ext
  show ((Lib.itoa 5).toArray).toList = [53]
  rw [List.toList_toArray]
  unfold Lib.itoa
  rw [if_neg (by decide), show (5 : Int).toNat = 5 from rfl, dec_small (by omega)]
  rfl
theorem dig7 : digS (-7) = ⟨#[45, 55]⟩ := by
  apply bytes_ext
  show ((Lib.itoa (-7)).toArray).toList = [45, 55]
  rw [List.toList_toArray]
  unfold Lib.itoa
  rw [if_pos (by decide), show (-7 : Int).natAbs = 7 from rfl, dec_small (by omega)]
  rfl
theorem dig2 : digS (-2) = ⟨#[45, 50]⟩ := by
  apply bytes_ext
  show ((Lib.itoa (-2)).toArray).toList = [45, 50]
  rw [List.toList_toArray]
  unfold Lib.itoa
  rw [if_pos (by decide), show (-2 : Int).natAbs = 2 from rfl, dec_small (by omega)]
  rfl

/-- The root's values at alive, after the first Add and after the second. -/
def aV1 : Dat := (DataW.map []).put (keyL ⟨#[110]⟩) (.lit (.string [53]))
def aV2 : Dat := aV1.put (keyL ⟨#[110]⟩) (.lit (.string [45, 50]))
theorem is_map0 : Maps.IsMap (.map [] : Dat) := ⟨_, rfl⟩
theorem tidy0 : Maps.Tidy (.map [] : Dat) := ⟨[], rfl, List.Pairwise.nil⟩

theorem aV1_has : Maps.has aV1 (keyL ⟨#[110]⟩) = true := has_put_same is_map0 (keyL_is _) _
theorem aV1_at (z : Dat) : aV1.atKey (keyL ⟨#[110]⟩) z = .lit (.string (digS 5).data.toList) := by
  rw [dig5]; exact atKey_put_same is_map0 (keyL_is _) _ _
theorem aV1_tidy : Maps.Tidy aV1 := tidy0.put (keyL_is _) _
theorem aV2_at (z : Dat) : aV2.atKey (keyL ⟨#[110]⟩) z = .lit (.string [45, 50]) := atKey_put_same (by obtain ⟨es, h, _⟩ := aV1_tidy; exact ⟨es, h⟩) (keyL_is _) _ _
theorem aV2_only (kl : Lit) (h : Maps.has aV2 kl = true) : kl = keyL ⟨#[110]⟩ := by
  rcases Classical.em (kl = keyL ⟨#[110]⟩) with he | hne
  · exact he
  · unfold aV2 aV1 at h
    rw [has_put_other hne, has_put_other hne] at h
    simp [Maps.has] at h

theorem name_ne (k : ByteArray) (h : 0 < k.size) : keyL (nameS ⟨#[]⟩ k) ≠ keyL (nameS ⟨#[]⟩ ⟨#[]⟩) := by
  intro he
  have e1 : (nameS ⟨#[]⟩ k).data.toList = (nameS ⟨#[]⟩ ⟨#[]⟩).data.toList := by unfold keyL at he; injection he
  have e2 := congrArg List.length e1
  rw [Array.length_toList, Array.length_toList] at e2
  have e3 := nameS_size ⟨#[]⟩ k
  have e4 := nameS_size ⟨#[]⟩ ⟨#[]⟩
  have e5 : (nameS ⟨#[]⟩ k).size = (nameS ⟨#[]⟩ ⟨#[]⟩).size := e2
  rw [e3, e4] at e5
  have : (⟨#[]⟩ : ByteArray).size = 0 := rfl
  omega

theorem allOf_size (q : Int) (k v : ByteArray) (h : 0 < k.size) : Maps.size (AllOf q k v) = 2 := by
  unfold AllOf
  rw [size_put (tidy0.put (keyL_is _) _), has_put_other (name_ne k h), size_put tidy0]
  rfl
theorem allOf_at (q : Int) (k v : ByteArray) (z : Dat) : (AllOf q k v).atKey (keyL (nameS ⟨#[]⟩ k)) z = .lit (.string v.data.toList) :=
  atKey_put_same (by obtain ⟨es, h, _⟩ := tidy0.put (k := keyL (nameS ⟨#[]⟩ ⟨#[]⟩)) (keyL_is _) (.lit (.string (digS q).data.toList)); exact ⟨es, h⟩) (keyL_is _) _ _

theorem look_plain {w : World} {b n : Nat} {D : Dat} {s : ByteArray} (hown : w.ownsMap Tryz.prog 9 strElem b n D) (hs : s.size ≤ 1000000000) {v : ByteArray} (hat : D.atKey (keyL s) (.lit (.string [])) = .lit (.string v.data.toList)) :
    (Instr.lookup 72 (.map (some b)) (.string s) false).run Tryz.prog w = .ok (.string v) w := by
  obtain ⟨u, ps, hrun, hv⟩ := hown.lookup keyed Tryz.underlying72 (zero_str w) (zd := .lit (.string [])) (zp := []) (plainElem_string Tryz.underlying9 (s := ⟨#[]⟩) (Nat.zero_le _)) (key_of s hs)
  rw [hat] at hv
  obtain ⟨t, rfl, ht, _⟩ := plainElem_string_inv Tryz.underlying9 hv
  have e : v.data.toList = t.data.toList := by simp only [Prod.mk.injEq, DataW.lit.injEq, Lit.string.injEq] at ht; exact ht.1
  rw [hrun, bytes_ext e]

def LivePost (w : World) (e : Ending) (w' : World) : Prop := e = .returned (.bool true) ∧ Below w.heap.size w w'

set_option maxHeartbeats 1000000 in
set_option maxRecDepth 100000 in
theorem alive_ok (w : World) (hg : Glob w) : Calls Tryz.prog 6 #[] w (LivePost w) := by
  obtain ⟨g1, g2⟩ := hg.lt
  have hkey : keyOk ⟨#[110]⟩ = true := by decide
  go_enter Tryz.func6, Tryz.ntmps6
  go_wp2_with fail
  refine (new_any _).mono ?_
  rintro e w1 ⟨st, r, rv, ri, rfl, l1, l2, l3, l4, hne, hS, hB, hb1⟩
  have hgw := hg.below hb1
  have hadd1 := st_add_none st r rv ri 0 0 (.map []) (.map []) ⟨#[110]⟩ w1 5 hgw hkey (by decide) hB (by decide) rfl rfl (by decide) (by decide) (by omega) (by omega) hS
  rw [dig5] at hadd1
  have Hadd1 := veil hadd1
  clear hadd1
  go_wp2_with fail
  refine Hadd1.out.mono ?_
  rintro e w2 ⟨rfl, ⟨_, hB2, hk2⟩, hS2⟩
  have hz1 := hb1.size
  have hz2 := hk2.size
  have hm2 := Lies.made w2 42 [.int .i64 0, .string ⟨#[53]⟩]
  have hb2 := (hb1.trans (hk2.toBelow hb1.size (fun j hj => by omega))).alloc (by omega) (.cells #[.int .i64 0, .string ⟨#[53]⟩] 42)
  have hB3 := hB2.below ((Below.refl _ _).alloc (Nat.le_refl _) (.cells #[.int .i64 0, .string ⟨#[53]⟩] 42))
  have hS3 := hS2.below ((Below.refl w2.heap.size w2).alloc (Nat.le_refl _) (.cells #[.int .i64 0, .string ⟨#[53]⟩] 42)) hS2.lt
  have hlt2 := hB2.lts
  have hadd2 := st_add_some st r rv ri 1 0 aV1 (.map []) ⟨#[110]⟩ _ 5 (-7) (hg.below hb2) hkey (by decide) hB3 (by decide) rfl aV1_has (aV1_at _) (by decide) (by decide) (by decide) (by decide) (by decide) (by decide) (by omega) (by omega) hS3
  rw [dig7, show (5 : Int) + -7 = -2 by decide, dig2] at hadd2
  have Hadd2 := veil hadd2
  clear hadd2
  go_wp2_with fail
  refine Hadd2.out.mono ?_
  rintro e w3 ⟨rfl, ⟨_, hB4, hk4⟩, hS4⟩
  have hm3 := hm2.kept hk4 (by omega)
  have hm4 := Lies.made w3 42 [.int .i64 0, .string ⟨#[45, 50]⟩]
  have hb4a := (Below.refl w3.heap.size w3).alloc (Nat.le_refl _) (.cells #[.int .i64 0, .string ⟨#[45, 50]⟩] 42)
  have hb4 := (hb2.trans (hk4.toBelow hb2.size (fun j hj => by omega))).trans (hb4a.mono (by have := hk4.size; have := hb2.size; omega))
  have hB5 := hB4.below hb4a
  have hS5 := hS4.below hb4a hS4.lt
  have hm5 := hm3.below hb4a hm3.lt
  have hall := st_all st r rv ri 2 0 aV2 _ ⟨#[110]⟩ ⟨#[45, 50]⟩ (hg.below hb4) hB5 (by decide) (by decide) (by decide) (by decide) aV2_only aV2_at hS5
  go_wp2_with fail
  refine hall.mono ?_
  rintro e w6 ⟨mo, rfl, hmo, hD, hb6⟩
  have hm6 := hm5.below hb6 hm5.lt
  have hm7 := hm4.below hb6 hm4.lt
  have d0 := hm6.cell 0
  have d1 := hm6.cell 1
  have d2 := hm7.cell 0
  have d3 := hm7.cell 1
  have hlen := hD.len Tryz.underlying72 3
  rw [allOf_size _ _ _ (by decide)] at hlen
  have hlk := fun W (hb : Below w6.heap.size w6 W) => look_plain (map_keeps (S := fun _ => False) hD (Keeps.below hb (fun j hj hj' => absurd hj (by omega))) id) (s := nameS ⟨#[]⟩ ⟨#[110]⟩) (by decide) (allOf_at _ _ _ _)
  clear Hadd1 Hadd2 hall
  simp at d0 d1 d2 d3
  go_wp2_with fail
  refine (name_ref ⟨#[]⟩ ⟨#[110]⟩ _ (by decide) (by decide)).mono ?_
  rintro e w7 ⟨rfl, hb7⟩
  have hlk7 := hlk _ hb7
  clear hlk
  go_wp2
  go_ret
  exact ⟨rfl, (hb4.trans (hb6.mono hb4.size)).trans (hb7.mono (by have := hb4.size; have := hb6.size; omega))⟩
end Go.Proofs.YtjonmggkmalgaaaGreatDoor

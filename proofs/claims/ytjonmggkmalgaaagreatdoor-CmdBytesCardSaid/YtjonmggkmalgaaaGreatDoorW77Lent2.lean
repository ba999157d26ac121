/-
  Joined by merge.py: W77Lent, W78SameReps.
-/
import Derived.Test.YtjonmggkmalgaaaGreatDoorW76Apart
import Derived.Test.YtjonmggkmalgaaaGreatDoorW71Kinds
-- W77Lent
namespace Go.Proofs.YtjonmggkmalgaaaGreatDoor
open Go.RowKit Go.Lib
attribute [local go_sem ↓] Go.wp_at_zero Go.wp_at_succ

theorem infoEntry1 : (Tryz.prog.info? 31).map (fun i => (i.zero, i.size, i.bytes)) = some (some (.agg #[.int .i64 0, .int .i64 0, .int .i64 0, .int .i64 0, .slice none 0 0]), 5, 56) := by kernel_rfl

def entCells (i t c q : Int) (v : Value) : List Value := [.int .i64 i, .int .i64 t, .int .i64 c, .int .i64 q, v]
/-- The copied list of one entry. -/
def OneCopied (w : World) (i t c q : Int) (l : List CmdS) (e : Ending) (w' : World) : Prop :=
  ∃ v xs cc, e = .returned v ∧ w'.ownsRow w.heap.size 31 5 v 1 (entCells i t c q (.slice xs l.length cc)) ∧ OwnCmds w' w.heap.size (.slice xs l.length cc) l ∧ Below w.heap.size w w'
theorem OwnG.weak {α : Type} {t : TypeId} {sz : Nat} {cell : α → List Value} {w : World} {base base' : Nat} {v : Value} {l : List α} (h : OwnG t sz cell w base v l) (hb : base' ≤ base) : OwnG t sz cell w base' v l :=
  ⟨h.1, h.2.imp id (fun ⟨g, cap, cur, e, h0, r⟩ => ⟨g, cap, cur, e, Nat.le_trans hb h0, r⟩)⟩

set_option maxHeartbeats 4000000 in
set_option maxRecDepth 100000 in
theorem copy_one (i t c q : Int) (g k k1 n1 : Nat) (hn1 : n1 = 1) (x : Option Addr) (l : List CmdS) (w : World) (hg : Lies w g 31 (entCells i t c q (.slice x l.length k))) (hx : CmdsAt w x l) (hl : l.length ≤ 100000) :
    Calls Tryz.prog 51 #[.slice (some ⟨g, 0, none⟩) n1 k1] w (OneCopied w i t c q l) := by
  obtain ⟨i0, hi, hz0, hz1, hz2⟩ := info_parts infoEntry1
  have hrow : RowAt w (some ⟨g, 0, none⟩) (entCells i t c q (.slice x l.length k)) := by
    intro j u hj
    refine ⟨g, 0, rfl, ?_⟩
    rw [Nat.zero_add, hg.cell j]
    exact hj
  have HL := veil (show (entCells i t c q (.slice x l.length k)).length = n1 * 5 by rw [hn1]; rfl)
  have h1 : n1 < 2 := by omega
  have HN := veil hn1
  clear hn1
  go_enter Tryz.func51, Tryz.ntmps51
  go_wp2_with (at_builtin; refine wpList_append_any rfl _ _ _ rfl w.heap.size 31 i0 _ 5 56 Tryz.underlying55 hi hz0 hz1 hz2 rfl (by omega) (.slice none 0 0) 0 [] rfl (by simp [World.ownsRow]) (some ⟨g, 0, none⟩) n1 k1 (entCells i t c q (.slice x l.length k)) rfl HL.out hrow (by simp [entCells, Value.oneCell']) (by unfold maxLen; omega) (by omega) (by omega) ?_; intro x' cap w1 hown hgrow hor)
  obtain rfl := HN.out
  rw [Nat.zero_add, List.nil_append] at hown
  have hb1 : Below w.heap.size w w1 := (Below.refl _ _).grown hgrow (Nat.le_refl _) (fun j hj => by simp [Value.ownBlock] at hj)
  have hx1 := hx.below hb1
  obtain ⟨h, rfl⟩ : ∃ h, x' = some ⟨h, 0, none⟩ := by
    rcases hown.2 with ⟨_, h0⟩ | ⟨g', cp, cur, e, _⟩
    · cases h0
    · injection e with e _ _
      exact ⟨g', e⟩
  have HS := veil (And.intro hown (And.intro hx1 hb1))
  clear hown hgrow hor hrow hx1 hb1 HL h1 hx hg
  go_wp2_with fail
  go_loopw [3] (fun i1 wr => ∃ k : Nat, k ≤ 1 ∧ i1 = .int .i64 k ∧ ∃ xs cc, wr.ownsRow w.heap.size 31 5 (.slice (some ⟨h, 0, none⟩) (0 + 1) cap) 1 (entCells i t c q (.slice xs l.length cc)) ∧ CmdsAt wr xs l ∧ Below w.heap.size w wr ∧ (k = 1 → OwnCmds wr w.heap.size (.slice xs l.length cc) l)) (fun i1 _ => 1 - (intOf i1).toNat)
  case atStart => exact ⟨0, by omega, rfl, _, _, HS.out.1, HS.out.2.1, HS.out.2.2, fun h => absurd h (by decide)⟩
  case round =>
    obtain ⟨k2, hk2, rfl, xs, cc, hown, hat, hb, hlast⟩ := hrel
    obtain ⟨cur, hcur⟩ := own_typed hown (g := h) rfl
    have hlies : Lies wr h 31 cur.toList := by unfold Lies; simpa using hcur
    have hh := own_lt hown (g := h) rfl
    obtain ⟨_, _, e1, hrow, _⟩ := own_slice hown
    injection e1 with e1 ee1 ee2
    subst e1
    try clear ee1
    try clear ee2
    by_cases hlt : k2 = 0
    · subst hlt
      obtain ⟨_, _, e1, c4⟩ := hrow 4 _ rfl
      injection e1 with e1
      injection e1 with e1 e2
      subst e1 e2
      have HO := veil (And.intro hown (And.intro hat hb))
      have HF := veil hlies
      have hbs := hb.size
      clear hlast
      clear hown hcur hrow hat hlies
      go_wp2_with fail
      refine (copy_Cmds xs l cc _ (HO.out.2.1.below (Below.refl _ _)) (by omega)).mono ?_
      rintro e w5 ⟨u, rfl, hu, hb5⟩
      obtain ⟨xu, cu, rfl, hua, _⟩ := OwnCmds.at_ hu
      have hl5 := HF.out.below hb5 hh.2
      have z4 := hl5.frozen 4
      have HO5 := own_keeps (S := fun _ => False) HO.out.1 (Keeps.below hb5 (fun j hj hj' => absurd hj (by omega))) (fun _ _ => id)
      obtain ⟨_, _, e1, hrow5, _⟩ := own_slice HO5
      injection e1 with e1 ee1 ee2
      subst e1
      try clear ee1
      try clear ee2
      obtain ⟨_, _, e1, c4'⟩ := hrow5 4 _ rfl
      injection e1 with e1
      injection e1 with e1 e2
      subst e1 e2
      have hu6 : OwnCmds (w5.setCell ⟨h, 4, none⟩ (.slice xu l.length cu)) wr.heap.size (.slice xu l.length cu) l := hu.kept (S := fun x => x = h) (Keeps.setCell (S := fun x => x = h) (p := ⟨h, 4, none⟩) (Keeps.rfl' _ _) (.inr rfl) _) (fun g hg e => by have := (OwnG.lt hu hg).1; omega)
      have hp := own_put HO5 4 (.slice xu l.length cu)
      have hb6 : Below w.heap.size w (w5.setCell ⟨h, 4, none⟩ (.slice xu l.length cu)) := Keeps.toBelow (S := fun x => x = h) (Keeps.setCell (S := fun x => x = h) (p := ⟨h, 4, none⟩) (Keeps.below (hb.trans (hb5.mono hb.size)) (fun j hj hj' => absurd hj (by omega))) (.inr rfl) _) (Nat.le_refl _) (fun j hj e => by omega)
      have HP := veil (And.intro hp (And.intro hu6 hb6))
      clear hu hua hl5 HO5 hrow5 hu6 hp hb6 hb c4
      go_wp2
      go_roundw
      case rel =>
        obtain ⟨_, _, e1, hua, _⟩ := OwnCmds.at_ HP.out.2.1
        injection e1 with e1 _ _
        subst e1
        exact ⟨1, by omega, by go_num, xu, cu, HP.out.1, hua, HP.out.2.2, fun _ => HP.out.2.1.weak hbs⟩
      case measure => simp [intOf]
    · obtain rfl : k2 = 1 := by omega
      have HO := veil (And.intro hown (And.intro (hlast rfl) hb))
      clear hown hcur hrow hat hlies hb hlast
      go_wp2
      go_ret
      exact ⟨_, xs, cc, rfl, HO.out⟩

/-- The lent list of one entry, a mark behind it. -/
def OneLent (w : World) (i t c q : Int) (l : List CmdS) (e : Ending) (w' : World) : Prop :=
  ∃ h cap xs cc, e = .returned (.slice (some ⟨h, 0, none⟩) 1 cap) ∧ 2 ≤ cap ∧ RowAt w' (some ⟨h, 0, none⟩) (entCells i t c q (.slice xs l.length cc) ++ entCells (-77) 0 0 0 (.slice none 0 0)) ∧ CmdsAt w' xs l ∧ Below w.heap.size w w'

set_option maxHeartbeats 4000000 in
set_option maxRecDepth 100000 in
theorem lent_one (i t c q : Int) (g k k1 : Nat) (x : Option Addr) (l : List CmdS) (w : World) (hg : Lies w g 31 (entCells i t c q (.slice x l.length k))) (hx : CmdsAt w x l) (hl : l.length ≤ 100000) :
    Calls Tryz.prog 14 #[.slice (some ⟨g, 0, none⟩) 1 k1] w (OneLent w i t c q l) := by
  obtain ⟨i0, hi, hz0, hz1, hz2⟩ := info_parts infoEntry1
  have hc := copy_one i t c q g k k1 1 rfl x l w hg hx hl
  clear hg hx
  go_enter Tryz.func14, Tryz.ntmps14
  go_wp2_with fail
  refine hc.mono ?_
  rintro e w1 ⟨v, xs, cc, rfl, hown, hat, hb⟩
  have hnew := World.news_of_block (cs := #[.int .i64 (-77), .int .i64 0, .int .i64 0, .int .i64 0, .slice none 0 0]) (t := 31) (fr := (0, 0)) (heap_alloc_new w1 _)
  have HV := veil (And.intro hown (And.intro hat hb))
  clear hc hown hat
  have hbs := hb.size
  go_wp2_with (at_builtin; refine wpList_append_any rfl _ _ _ rfl w.heap.size 31 i0 _ 5 56 Tryz.underlying55 hi hz0 hz1 hz2 rfl (by omega) _ _ _ rfl (own_keeps (S := fun _ => False) HV.out.1 (Keeps.below ((Below.refl _ _).alloc (Nat.le_refl _) _) (fun j hj hj' => absurd hj (by omega))) (fun _ _ => id)) (some ⟨w1.heap.size, 0, none⟩) 1 1 (entCells (-77) 0 0 0 (.slice none 0 0)) rfl rfl (by intro j u hj; refine ⟨w1.heap.size, 0, rfl, ?_⟩; have := hnew j u hj; rw [add_plain0] at this; rw [Nat.zero_add]; exact this) (by simp [entCells, Value.oneCell']) (by unfold maxLen; omega) (by omega) (by simp; omega) ?_; intro x' cap w2 hown2 hgrow2 hor2; obtain ⟨_, _, e2, hrow2, hcap2⟩ := own_slice hown2; injection e2 with e2 ee1 ee2; subst e2 ee2; try clear ee1)
  obtain ⟨h, rfl⟩ : ∃ h, x' = some ⟨h, 0, none⟩ := by
    rcases hown2.2 with ⟨_, h0⟩ | ⟨g', cp, cur, e, _⟩
    · cases h0
    · injection e with e _ _
      exact ⟨g', e⟩
  have K2 : Keeps (fun g => v.ownBlock = some g) w1 w2 := ((Keeps.rfl' (fun g => v.ownBlock = some g) w1).alloc (.cells #[.int .i64 (-77), .int .i64 0, .int .i64 0, .int .i64 0, .slice none 0 0] 31)).grown hgrow2 (fun k _ e => e)
  have hat2 := HV.out.2.1.kept K2 (fun g hg e => by
    obtain ⟨c1, q1⟩ := OwnG.typed HV.out.2.1 hg
    obtain ⟨c2, q2⟩ := own_typed HV.out.1 e
    exact types_ne q1 q2 (by decide))
  have hb2 : Below w.heap.size w w2 := hb.trans (Keeps.toBelow K2 hbs (fun j hj e => by have := (own_lt HV.out.1 e).1; omega))
  obtain ⟨_, _, e1, hua, _⟩ := OwnCmds.at_ hat2
  injection e1 with e1 ee1 ee2
  subst e1
  try clear ee1
  try clear ee2
  have HR := veil (And.intro hrow2 (And.intro hua hb2))
  have hc2 : 2 ≤ cap := hcap2
  clear hown2 hgrow2 hor2 hrow2 hcap2 K2 hat2 hb2 hua hb hnew
  go_wp2
  go_ret
  exact ⟨h, cap, xs, cc, rfl, hc2, HR.out⟩

theorem RowAt.at0 {w : World} {g : Nat} {cs : List Value} (h : RowAt w (some ⟨g, 0, none⟩) cs) (j : Nat) (u : Value) (hj : cs[j]? = some u) : w.cell? ⟨g, j, none⟩ = some u := by
  obtain ⟨b, off, hx, h0⟩ := h j u hj
  injection hx with hx
  injection hx with h1 h2
  subst h1 h2
  rw [Nat.zero_add] at h0
  exact h0

set_option maxHeartbeats 4000000 in
set_option maxRecDepth 100000 in
theorem same_one (i t c q : Int) (g h k cc k1 cap : Nat) (x xs : Option Addr) (l : List CmdS) (more : List Value) (w : World) (hr : RowAt w (some ⟨h, 0, none⟩) (entCells i t c q (.slice xs l.length cc) ++ more)) (hg : RowAt w (some ⟨g, 0, none⟩) (entCells i t c q (.slice x l.length k))) (hx : CmdsAt w x l) (hxs : CmdsAt w xs l) (hl : l.length ≤ 100000) :
    Calls Tryz.prog 55 #[.slice (some ⟨h, 0, none⟩) 1 cap, .slice (some ⟨g, 0, none⟩) 1 k1] w (BoolPost w true) := by
  have a0 := hr.at0 0 _ rfl
  have a1 := hr.at0 1 _ rfl
  have a2 := hr.at0 2 _ rfl
  have a3 := hr.at0 3 _ rfl
  have a4 := hr.at0 4 _ rfl
  have b0 := hg.at0 0 _ rfl
  have b1 := hg.at0 1 _ rfl
  have b2 := hg.at0 2 _ rfl
  have b3 := hg.at0 3 _ rfl
  have b4 := hg.at0 4 _ rfl
  have HS := veil (And.intro hx hxs)
  clear hr hg hx hxs
  go_enter Tryz.func55, Tryz.ntmps55
  go_wp2_with fail
  go_loopw [5] (fun i1 wr => ∃ k2 : Nat, k2 ≤ 1 ∧ i1 = .int .i64 k2 ∧ ((k2 = 0 ∧ wr = w) ∨ k2 = 1) ∧ Below w.heap.size w wr) (fun i1 _ => 1 - (intOf i1).toNat)
  case atStart => exact ⟨0, by omega, rfl, .inl ⟨rfl, rfl⟩, Below.refl _ _⟩
  case round =>
    obtain ⟨k2, hk2, rfl, hor, hb⟩ := hrel
    rcases hor with ⟨rfl, rfl⟩ | rfl
    · have bh := World.block_lt_of_cell? wr _ a0
      have bg := World.block_lt_of_cell? wr _ b0
      simp only at bh bg
      go_wp2_with fail
      dsimp only [List.append]
      go_region_held3 (fun w' => w'.cell? ⟨h, 0, none⟩ = some (.int .i64 i) ∧ w'.cell? ⟨h, 1, none⟩ = some (.int .i64 t) ∧ w'.cell? ⟨h, 2, none⟩ = some (.int .i64 c) ∧ w'.cell? ⟨h, 3, none⟩ = some (.int .i64 q) ∧ w'.cell? ⟨h, 4, none⟩ = some (.slice xs l.length cc) ∧ w'.cell? ⟨g, 0, none⟩ = some (.int .i64 i) ∧ w'.cell? ⟨g, 1, none⟩ = some (.int .i64 t) ∧ w'.cell? ⟨g, 2, none⟩ = some (.int .i64 c) ∧ w'.cell? ⟨g, 3, none⟩ = some (.int .i64 q) ∧ w'.cell? ⟨g, 4, none⟩ = some (.slice x l.length k))
        (first
          | exact ⟨(hbx.cell bh).trans a0, (hbx.cell bh).trans a1, (hbx.cell bh).trans a2, (hbx.cell bh).trans a3, (hbx.cell bh).trans a4, (hbx.cell bg).trans b0, (hbx.cell bg).trans b1, (hbx.cell bg).trans b2, (hbx.cell bg).trans b3, (hbx.cell bg).trans b4⟩
          | exact ⟨a0, a1, a2, a3, a4, b0, b1, b2, b3, b4⟩)
        ((go_at_call 113; refine (same_Cmds xs x l cc k _ (HS.out.2.below (Below.refl _ _).drew) (HS.out.1.below (Below.refl _ _).drew) (by omega)).mono ?_; rintro e w5 ⟨rfl, hb5⟩; have hbx : Below wr.heap.size wr w5 := (Below.refl _ _).drew.trans hb5))
      all_goals (
        go_wp2
        go_roundw
        case rel => exact ⟨1, by omega, by go_num, .inr rfl, hbx⟩
        case measure => simp [intOf])
    · go_wp2
      go_ret
      exact ⟨rfl, hb⟩

set_option maxHeartbeats 4000000 in
set_option maxRecDepth 100000 in
theorem stays_one (i t c q : Int) (g h k cc k1 cap : Nat) (x xs : Option Addr) (l : List CmdS) (w : World) (hr : RowAt w (some ⟨h, 0, none⟩) (entCells i t c q (.slice xs l.length cc) ++ entCells (-77) 0 0 0 (.slice none 0 0))) (hg : RowAt w (some ⟨g, 0, none⟩) (entCells i t c q (.slice x l.length k))) (hx : CmdsAt w x l) (hxs : CmdsAt w xs l) (hl : l.length ≤ 100000) (hcap : 2 ≤ cap) :
    Calls Tryz.prog 19 #[.slice (some ⟨h, 0, none⟩) 1 cap, .slice (some ⟨g, 0, none⟩) 1 k1] w (BoolPost w true) := by
  have hs := same_one i t c q g h k cc k1 cap x xs l _ w hr hg hx hxs hl
  have HR := veil hr
  clear hr hg hx hxs
  go_enter Tryz.func19, Tryz.ntmps19
  go_wp2_with fail
  refine hs.mono ?_
  rintro e w5 ⟨rfl, hb5⟩
  have a5 := (HR.out.below hb5).at0 5 _ rfl
  clear hs
  go_wp2
  go_ret
  exact ⟨rfl, hb5⟩

end Go.Proofs.YtjonmggkmalgaaaGreatDoor
-- W78SameReps
namespace Go.Proofs.YtjonmggkmalgaaaGreatDoor
open Go.RowKit Go.Lib
attribute [local go_sem ↓] Go.wp_at_zero Go.wp_at_succ

set_option maxHeartbeats 1000000 in
set_option maxRecDepth 100000 in
theorem samereps_ref (x y : Option Addr) (l : List RepS) (c d : Nat) (w : World) (hx : RepsAt w x l) (hy : RepsAt w y l) (hl : l.length ≤ 1000000) :
    Calls Tryz.prog 26 #[.slice x l.length c, .slice y l.length d] w (BoolPost w true) := by
  have HX := veil hx
  have HY := veil hy
  clear hx hy
  go_enter Tryz.func26, Tryz.ntmps26
  go_wp2_with fail
  go_loopw [5] (fun i wr => ∃ k : Nat, k ≤ l.length ∧ i = .int .i64 k ∧ Below w.heap.size w wr) (fun i _ => l.length - (intOf i).toNat)
  case atStart => exact ⟨0, Nat.zero_le _, rfl, Below.refl _ _⟩
  case round =>
    obtain ⟨k, hk, rfl, hb⟩ := hrel
    by_cases hlt : k < l.length
    · obtain ⟨bb, off, rfl, k0, k1⟩ := (HX.out.below hb) k hlt
      obtain ⟨cc, off2, rfl, j0, j1⟩ := (HY.out.below hb) k hlt
      have i0 : (0 : Int) ≤ (k : Int) := by omega
      have i1 : (k : Int) < (l.length : Int) := by omega
      obtain ⟨p, hp⟩ : ∃ p, p = l[k] := ⟨_, rfl⟩
      rw [← hp] at k0 k1 j0 j1
      clear hp
      obtain ⟨a0, a1⟩ := p
      simp only at k0 k1 j0 j1
      go_wp2_with fail
      go_region
      all_goals (
        go_wp2
        go_roundw
        case rel => exact ⟨k + 1, by omega, by go_num, hb.drew⟩
        case measure => simp [intOf]; omega)
    · obtain rfl : k = l.length := by omega
      go_wp2
      go_ret
      exact ⟨rfl, hb⟩

end Go.Proofs.YtjonmggkmalgaaaGreatDoor

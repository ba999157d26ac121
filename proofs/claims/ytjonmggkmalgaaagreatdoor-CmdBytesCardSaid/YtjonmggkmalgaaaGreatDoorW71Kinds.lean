/-
  Joined by merge.py: W71Cmds, W71Replies.
-/
import Derived.Test.YtjonmggkmalgaaaGreatDoorW70Fam
import Derived.Test.YtjonmggkmalgaaaGreatDoorW45Read
import Derived.Test.YtjonmggkmalgaaaGreatDoorW49Same
import Derived.BigQuiet
import Derived.Test.YtjonmggkmalgaaaGreatDoorW65ReadReps
-- W71Cmds
namespace Go.Proofs.YtjonmggkmalgaaaGreatDoor
open Go.RowKit Go.Lib

theorem row_of_Cmds {w : World} {x : Option Addr} {l : List CmdS} (h : CmdsAt w x l) : RowAt w x (l.flatMap CmdS.cells) := by
  intro j u hj
  have hlen : (l.flatMap CmdS.cells).length = l.length * 5 := by
    clear h hj
    induction l with
    | nil => rfl
    | cons c l ih => rw [List.flatMap_cons, List.length_append, ih, List.length_cons]; simp; omega
  have hjl : j < l.length * 5 := by
    rcases Nat.lt_or_ge j (l.length * 5) with h1 | h1
    · exact h1
    · rw [List.getElem?_eq_none (by omega)] at hj; cases hj
  obtain ⟨i, r, hi, hr, rfl⟩ : ∃ i r, i < l.length ∧ r < 5 ∧ j = i * 5 + r := ⟨j / 5, j % 5, by omega, by omega, by omega⟩
  have hg := cells_get l i hi r hr
  unfold cmdCells at hg
  rw [hg] at hj
  obtain ⟨b, off, hx, k0, k1, k2, k3, k4⟩ := h i hi
  refine ⟨b, off, hx, ?_⟩
  rcases (show r = 0 ∨ r = 1 ∨ r = 2 ∨ r = 3 ∨ r = 4 by omega) with rfl | rfl | rfl | rfl | rfl
  · rw [← hj, ← Nat.add_assoc]; exact k0
  · rw [← hj, ← Nat.add_assoc]; exact k1
  · rw [← hj, ← Nat.add_assoc]; exact k2
  · rw [← hj, ← Nat.add_assoc]; exact k3
  · rw [← hj, ← Nat.add_assoc]; exact k4
theorem Cmds_of_row {w : World} {x : Option Addr} {l : List CmdS} (h : RowAt w x (l.flatMap CmdS.cells)) : CmdsAt w x l := by
  intro i hi
  have hg := fun r hr => cells_get l i hi r hr
  unfold cmdCells at hg
  obtain ⟨b, off, hx, h0⟩ := h (i * 5 + 0) _ (hg 0 (by decide))
  obtain ⟨b1, off1, hx1, h1⟩ := h (i * 5 + 1) _ (hg 1 (by decide))
  rw [hx] at hx1
  injection hx1 with hx1
  injection hx1 with p1 q1
  subst p1 q1
  obtain ⟨b2, off2, hx2, h2⟩ := h (i * 5 + 2) _ (hg 2 (by decide))
  rw [hx] at hx2
  injection hx2 with hx2
  injection hx2 with p2 q2
  subst p2 q2
  obtain ⟨b3, off3, hx3, h3⟩ := h (i * 5 + 3) _ (hg 3 (by decide))
  rw [hx] at hx3
  injection hx3 with hx3
  injection hx3 with p3 q3
  subst p3 q3
  obtain ⟨b4, off4, hx4, h4⟩ := h (i * 5 + 4) _ (hg 4 (by decide))
  rw [hx] at hx4
  injection hx4 with hx4
  injection hx4 with p4 q4
  subst p4 q4
  exact ⟨b, off, hx, h0, by rw [Nat.add_assoc]; exact h1, by rw [Nat.add_assoc]; exact h2, by rw [Nat.add_assoc]; exact h3, by rw [Nat.add_assoc]; exact h4⟩
theorem flat_Cmds (l : List CmdS) : (l.flatMap CmdS.cells).length = l.length * 5 := by
  induction l with
  | nil => rfl
  | cons c l ih => rw [List.flatMap_cons, List.length_append, ih, List.length_cons]; simp; omega
theorem one_Cmds (l : List CmdS) : ∀ u ∈ l.flatMap CmdS.cells, u.oneCell' = true := by
  intro u hu
  obtain ⟨c, _, hc⟩ := List.mem_flatMap.1 hu
  simp at hc
  rcases hc with rfl | rfl | rfl | rfl | rfl <;> rfl

abbrev OwnCmds (w : World) (base : Nat) (v : Value) (l : List CmdS) : Prop := OwnG 68 5 CmdS.cells w base v l
theorem OwnCmds.at_ {w : World} {base : Nat} {v : Value} {l : List CmdS} (h : OwnCmds w base v l) : ∃ x cap, v = .slice x l.length cap ∧ CmdsAt w x l ∧ l.length ≤ cap := by
  obtain ⟨x, cap, hv, hr, hc⟩ := own_slice h
  exact ⟨x, cap, hv, Cmds_of_row hr, hc⟩

def MadeCmds (w : World) (l : List CmdS) (e : Ending) (w' : World) : Prop := ∃ v, e = .returned v ∧ OwnCmds w' w.heap.size v l ∧ Below w.heap.size w w'

set_option maxRecDepth 100000 in
theorem copy_Cmds (x : Option Addr) (l : List CmdS) (c : Nat) (w : World) (hx : CmdsAt w x l) (hl : l.length ≤ 1000000) :
    Calls Tryz.prog 61 #[.slice x l.length c] w (MadeCmds w l) := by
  obtain ⟨i0, hi, hz0, hz1, hz2⟩ := info_parts infoCmd
  have hrow := row_of_Cmds hx
  go_enter Tryz.func61, Tryz.ntmps61
  go_wp2_with (at_builtin; refine wpList_append_any rfl _ _ _ rfl w.heap.size 68 i0 _ 5 72 Tryz.underlying22 hi hz0 hz1 hz2 rfl (by omega) (.slice none 0 0) 0 [] rfl (by simp [World.ownsRow]) x l.length c (l.flatMap CmdS.cells) rfl (flat_Cmds l) hrow (one_Cmds l) (by unfold maxLen; omega) (by omega) (by omega) ?_; intro x' cap w1 hown hgrow hor)
  rw [Nat.zero_add, List.nil_append] at hown
  have hb : Below w.heap.size w w1 := (Below.refl _ _).grown hgrow (Nat.le_refl _) (fun j hj => by simp [Value.ownBlock] at hj)
  have Hown := veil hown
  clear hown hgrow hor hrow hx
  go_wp2
  go_ret
  exact ⟨_, rfl, Hown.out, hb⟩

set_option maxHeartbeats 1000000 in
set_option maxRecDepth 100000 in
theorem same_Cmds (x y : Option Addr) (l : List CmdS) (c d : Nat) (w : World) (hx : CmdsAt w x l) (hy : CmdsAt w y l) (hl : l.length ≤ 1000000) :
    Calls Tryz.prog 113 #[.slice x l.length c, .slice y l.length d] w (BoolPost w true) := by
  have HX := veil hx
  have HY := veil hy
  clear hx hy
  go_enter Tryz.func113, Tryz.ntmps113
  go_wp2_with fail
  go_loopw [5] (fun i wr => ∃ k : Nat, k ≤ l.length ∧ i = .int .i64 k ∧ Below w.heap.size w wr) (fun i _ => l.length - (intOf i).toNat)
  case atStart => exact ⟨0, Nat.zero_le _, rfl, Below.refl _ _⟩
  case round =>
    obtain ⟨k, hk, rfl, hb⟩ := hrel
    by_cases hlt : k < l.length
    · obtain ⟨bb, off, rfl, k0, k1, k2, k3, k4⟩ := (HX.out.below hb) k hlt
      obtain ⟨cc, off2, rfl, j0, j1, j2, j3, j4⟩ := (HY.out.below hb) k hlt
      have i0 : (0 : Int) ≤ (k : Int) := by omega
      have i1 : (k : Int) < (l.length : Int) := by omega
      obtain ⟨p, hp⟩ : ∃ p, p = l[k] := ⟨_, rfl⟩
      rw [← hp] at k0 k1 k2 k3 k4 j0 j1 j2 j3 j4
      clear hp
      obtain ⟨a0, a1, a2, a3, a4⟩ := p
      simp only at k0 k1 k2 k3 k4 j0 j1 j2 j3 j4
      go_wp2_with fail
      go_region
      all_goals (
        go_wp2
        go_roundw
        case rel => exact ⟨k + 1, by omega, by go_num, hb.drew⟩
        case measure => simp [intOf]; omega)
    · obtain rfl : k = l.length := by omega
      go_wp2
      go_ret
      exact ⟨rfl, hb⟩

/-- The mark at place k of list i. -/
def markCmds (i k : Int) : CmdS := ⟨-1000 * i - k - 1, ⟨#[]⟩, ⟨#[]⟩, ⟨#[]⟩, ⟨#[]⟩⟩
def marksCmds (i f : Int) (n : Nat) : List CmdS := (List.range n).map fun j : Nat => markCmds i (f + (j : Int))
theorem marksCmds_length (i f : Int) (n : Nat) : (marksCmds i f n).length = n := by unfold marksCmds; rw [List.length_map, List.length_range]
theorem marksCmds_succ (i f : Int) (n : Nat) : marksCmds i f (n + 1) = marksCmds i f n ++ [markCmds i (f + n)] := by unfold marksCmds; rw [List.range_succ, List.map_append]; rfl
theorem marksCmds_more (i : Int) (a b : Nat) : marksCmds i 0 (a + b) = marksCmds i 0 a ++ marksCmds i a b := by
  unfold marksCmds
  rw [List.range_add, List.map_append, List.map_map]
  congr 1
  refine List.map_congr_left fun j _ => ?_
  show markCmds i (0 + ((a + j : Nat) : Int)) = markCmds i ((a : Int) + (j : Int))
  congr 1
  omega

set_option maxHeartbeats 1000000 in
set_option maxRecDepth 100000 in
theorem mark_Cmds (i f n : Nat) (w : World) (hi : i ≤ 1000) (hf : f ≤ 1000000) (hn : n ≤ 1000000) :
    Calls Tryz.prog 130 #[.int .i64 i, .int .i64 f, .int .i64 n] w (MadeCmds w (marksCmds i f n)) := by
  obtain ⟨i0, hti, hz0, hz1, hz2⟩ := info_parts infoCmd
  have hfn : IntKind.i64.wrap ((f : Int) + (n : Int)) = (f : Int) + (n : Int) := IntWalk.i64_in _ (by omega)
  go_enter Tryz.func130, Tryz.ntmps130
  go_wp2_with fail
  go_loopw [7, 8] (fun v0 j wr => ∃ (k : Nat) (v : Value), k ≤ n ∧ j = .int .i64 ((f : Int) + (k : Int)) ∧ v = v0 ∧ OwnCmds wr w.heap.size v (marksCmds i f k) ∧ Below w.heap.size w wr) (fun _ j _ => ((f : Int) + (n : Int) - intOf j).toNat)
  case atStart => exact ⟨0, _, Nat.zero_le _, by simp, rfl, by simp [OwnG, World.ownsRow, marksCmds], Below.refl _ _⟩
  case round =>
    obtain ⟨k, v, hk, rfl, rfl, hown, hb⟩ := hrel
    have hsz := hb.size
    have hml := marksCmds_length i f k
    by_cases hlt : k < n
    · have hx : (-1000) * (i : Int) - ((f : Int) + (k : Int)) - 1 = (markCmds i ((f : Int) + k)).kind := rfl
      have j1 : (f : Int) + (k : Int) < (f : Int) + (n : Int) := by omega
      have hm1 : -1000000 ≤ (-1000) * (i : Int) := by omega
      have hm2 : (-1000) * (i : Int) ≤ 0 := by omega
      have hm3 : -2000001000 ≤ (-1000) * (i : Int) - ((f : Int) + (k : Int)) := by omega
      have hm4 : (-1000) * (i : Int) - ((f : Int) + (k : Int)) ≤ 0 := by omega
      obtain ⟨X, hX⟩ : ∃ X, X = (markCmds i ((f : Int) + k)).kind := ⟨_, rfl⟩
      rw [← hX] at hx
      have Hown := veil hown
      have Hnext : Hid ((marksCmds i f (k + 1)).flatMap CmdS.cells = (marksCmds i f k).flatMap CmdS.cells ++ [.int .i64 X, .string ⟨#[]⟩, .string ⟨#[]⟩, .string ⟨#[]⟩, .string ⟨#[]⟩]) := veil (by rw [marksCmds_succ, List.flatMap_append, List.flatMap_cons, List.flatMap_nil, List.append_nil, hX]; rfl)
      clear hown hX
      go_wp2_with (at_builtin; refine wpList_append_any rfl _ _ _ rfl w.heap.size 68 i0 _ 5 72 Tryz.underlying22 hti hz0 hz1 hz2 rfl (by omega) _ _ _ rfl ((Hown.out.below ((Below.refl _ _).alloc (Nat.le_refl _) _))) (some ⟨wr.heap.size, 0, none⟩) 1 1 [.int .i64 X, .string ⟨#[]⟩, .string ⟨#[]⟩, .string ⟨#[]⟩, .string ⟨#[]⟩] rfl rfl (by intro j u hj; refine ⟨wr.heap.size, 0, rfl, ?_⟩; have := World.news_of_block (cs := #[.int .i64 X, .string ⟨#[]⟩, .string ⟨#[]⟩, .string ⟨#[]⟩, .string ⟨#[]⟩]) (t := 68) (fr := (0, 0)) (heap_alloc_new wr _) j u hj; rw [add_plain0] at this; rw [Nat.zero_add]; exact this) (by simp [Value.oneCell']) (by unfold maxLen; omega) (by omega) (by simp; omega) ?_; intro x' cap w1 hown1 hgrow hor)
      have hown2 : OwnCmds w1 w.heap.size (.slice x' (k + 1) cap) (marksCmds i f (k + 1)) := by
        unfold OwnCmds OwnG
        rw [Hnext.out, marksCmds_length]
        rw [hml] at hown1
        exact hown1
      have hb2 : Below w.heap.size w w1 := (hb.alloc hsz _).grown hgrow (by simp; omega) (fun g hg => (Hown.out.lt hg).1)
      exact ⟨⟨k + 1, _, by omega, by congr 1, rfl, hown2, hb2⟩, by simp [intOf]; omega⟩
    · obtain rfl : k = n := by omega
      go_wp2
      go_ret
      exact ⟨_, rfl, hown, hb⟩
end Go.Proofs.YtjonmggkmalgaaaGreatDoor
-- W71Replies
namespace Go.Proofs.YtjonmggkmalgaaaGreatDoor
open Go.RowKit Go.Lib

theorem row_of_Replies {w : World} {x : Option Addr} {l : List RepS} (h : RepsAt w x l) : RowAt w x (l.flatMap RepS.cells) := by
  intro j u hj
  have hlen : (l.flatMap RepS.cells).length = l.length * 2 := by
    clear h hj
    induction l with
    | nil => rfl
    | cons c l ih => rw [List.flatMap_cons, List.length_append, ih, List.length_cons]; simp; omega
  have hjl : j < l.length * 2 := by
    rcases Nat.lt_or_ge j (l.length * 2) with h1 | h1
    · exact h1
    · rw [List.getElem?_eq_none (by omega)] at hj; cases hj
  obtain ⟨i, r, hi, hr, rfl⟩ : ∃ i r, i < l.length ∧ r < 2 ∧ j = i * 2 + r := ⟨j / 2, j % 2, by omega, by omega, by omega⟩
  have hg := rcells_get l i hi r hr
  unfold repCells at hg
  rw [hg] at hj
  obtain ⟨b, off, hx, k0, k1⟩ := h i hi
  refine ⟨b, off, hx, ?_⟩
  rcases (show r = 0 ∨ r = 1 by omega) with rfl | rfl
  · rw [← hj, ← Nat.add_assoc]; exact k0
  · rw [← hj, ← Nat.add_assoc]; exact k1
theorem Replies_of_row {w : World} {x : Option Addr} {l : List RepS} (h : RowAt w x (l.flatMap RepS.cells)) : RepsAt w x l := by
  intro i hi
  have hg := fun r hr => rcells_get l i hi r hr
  unfold repCells at hg
  obtain ⟨b, off, hx, h0⟩ := h (i * 2 + 0) _ (hg 0 (by decide))
  obtain ⟨b1, off1, hx1, h1⟩ := h (i * 2 + 1) _ (hg 1 (by decide))
  rw [hx] at hx1
  injection hx1 with hx1
  injection hx1 with p1 q1
  subst p1 q1
  exact ⟨b, off, hx, h0, by rw [Nat.add_assoc]; exact h1⟩
theorem flat_Replies (l : List RepS) : (l.flatMap RepS.cells).length = l.length * 2 := by
  induction l with
  | nil => rfl
  | cons c l ih => rw [List.flatMap_cons, List.length_append, ih, List.length_cons]; simp; omega
theorem one_Replies (l : List RepS) : ∀ u ∈ l.flatMap RepS.cells, u.oneCell' = true := by
  intro u hu
  obtain ⟨c, _, hc⟩ := List.mem_flatMap.1 hu
  simp at hc
  rcases hc with rfl | rfl <;> rfl

abbrev OwnReplies (w : World) (base : Nat) (v : Value) (l : List RepS) : Prop := OwnG 42 2 RepS.cells w base v l
theorem OwnReplies.at_ {w : World} {base : Nat} {v : Value} {l : List RepS} (h : OwnReplies w base v l) : ∃ x cap, v = .slice x l.length cap ∧ RepsAt w x l ∧ l.length ≤ cap := by
  obtain ⟨x, cap, hv, hr, hc⟩ := own_slice h
  exact ⟨x, cap, hv, Replies_of_row hr, hc⟩

def MadeReplies (w : World) (l : List RepS) (e : Ending) (w' : World) : Prop := ∃ v, e = .returned v ∧ OwnReplies w' w.heap.size v l ∧ Below w.heap.size w w'

set_option maxRecDepth 100000 in
theorem copy_Replies (x : Option Addr) (l : List RepS) (c : Nat) (w : World) (hx : RepsAt w x l) (hl : l.length ≤ 1000000) :
    Calls Tryz.prog 62 #[.slice x l.length c] w (MadeReplies w l) := by
  obtain ⟨i0, hi, hz0, hz1, hz2⟩ := info_parts infoRep
  have hrow := row_of_Replies hx
  go_enter Tryz.func62, Tryz.ntmps62
  go_wp2_with (at_builtin; refine wpList_append_any rfl _ _ _ rfl w.heap.size 42 i0 _ 2 24 Tryz.underlying39 hi hz0 hz1 hz2 rfl (by omega) (.slice none 0 0) 0 [] rfl (by simp [World.ownsRow]) x l.length c (l.flatMap RepS.cells) rfl (flat_Replies l) hrow (one_Replies l) (by unfold maxLen; omega) (by omega) (by omega) ?_; intro x' cap w1 hown hgrow hor)
  rw [Nat.zero_add, List.nil_append] at hown
  have hb : Below w.heap.size w w1 := (Below.refl _ _).grown hgrow (Nat.le_refl _) (fun j hj => by simp [Value.ownBlock] at hj)
  have Hown := veil hown
  clear hown hgrow hor hrow hx
  go_wp2
  go_ret
  exact ⟨_, rfl, Hown.out, hb⟩

set_option maxHeartbeats 1000000 in
set_option maxRecDepth 100000 in
theorem same_Replies (x y : Option Addr) (l : List RepS) (c d : Nat) (w : World) (hx : RepsAt w x l) (hy : RepsAt w y l) (hl : l.length ≤ 1000000) :
    Calls Tryz.prog 120 #[.slice x l.length c, .slice y l.length d] w (BoolPost w true) := by
  have HX := veil hx
  have HY := veil hy
  clear hx hy
  go_enter Tryz.func120, Tryz.ntmps120
  go_wp2_with fail
  go_loopw [5] (fun i wr => ∃ k : Nat, k ≤ l.length ∧ i = .int .i64 k ∧ Below w.heap.size w wr) (fun i _ => l.length - (intOf i).toNat)
  case atStart => exact ⟨0, Nat.zero_le _, rfl, Below.refl _ _⟩
  case round =>
    obtain ⟨k, hk, rfl, hb⟩ := hrel
    by_cases hlt : k < l.length
    · obtain ⟨bb, off, rfl, k0, k1⟩ := (HX.out.below hb) k hlt
      obtain ⟨cc, off2, rfl, j0, j1⟩ := (HY.out.below hb) k hlt
      have i0 : (0 : Int) ≤ (k : Int) := by omega
      have i1 : (k : Int) < (l.length : Int) := by omega
      obtain ⟨p, hp⟩ : ∃ p, p = l[k] := ⟨_, rfl⟩
      rw [← hp] at k0 k1 j0 j1
      clear hp
      obtain ⟨a0, a1⟩ := p
      simp only at k0 k1 j0 j1
      go_wp2_with fail
      go_region
      all_goals (
        go_wp2
        go_roundw
        case rel => exact ⟨k + 1, by omega, by go_num, hb.drew⟩
        case measure => simp [intOf]; omega)
    · obtain rfl : k = l.length := by omega
      go_wp2
      go_ret
      exact ⟨rfl, hb⟩

/-- The mark at place k of list i. -/
def markReplies (i k : Int) : RepS := ⟨-1000 * i - k - 1, ⟨#[]⟩⟩
def marksReplies (i f : Int) (n : Nat) : List RepS := (List.range n).map fun j : Nat => markReplies i (f + (j : Int))
theorem marksReplies_length (i f : Int) (n : Nat) : (marksReplies i f n).length = n := by unfold marksReplies; rw [List.length_map, List.length_range]
theorem marksReplies_succ (i f : Int) (n : Nat) : marksReplies i f (n + 1) = marksReplies i f n ++ [markReplies i (f + n)] := by unfold marksReplies; rw [List.range_succ, List.map_append]; rfl
theorem marksReplies_more (i : Int) (a b : Nat) : marksReplies i 0 (a + b) = marksReplies i 0 a ++ marksReplies i a b := by
  unfold marksReplies
  rw [List.range_add, List.map_append, List.map_map]
  congr 1
  refine List.map_congr_left fun j _ => ?_
  show markReplies i (0 + ((a + j : Nat) : Int)) = markReplies i ((a : Int) + (j : Int))
  congr 1
  omega

set_option maxHeartbeats 1000000 in
set_option maxRecDepth 100000 in
theorem mark_Replies (i f n : Nat) (w : World) (hi : i ≤ 1000) (hf : f ≤ 1000000) (hn : n ≤ 1000000) :
    Calls Tryz.prog 129 #[.int .i64 i, .int .i64 f, .int .i64 n] w (MadeReplies w (marksReplies i f n)) := by
  obtain ⟨i0, hti, hz0, hz1, hz2⟩ := info_parts infoRep
  have hfn : IntKind.i64.wrap ((f : Int) + (n : Int)) = (f : Int) + (n : Int) := IntWalk.i64_in _ (by omega)
  go_enter Tryz.func129, Tryz.ntmps129
  go_wp2_with fail
  go_loopw [7, 8] (fun v0 j wr => ∃ (k : Nat) (v : Value), k ≤ n ∧ j = .int .i64 ((f : Int) + (k : Int)) ∧ v = v0 ∧ OwnReplies wr w.heap.size v (marksReplies i f k) ∧ Below w.heap.size w wr) (fun _ j _ => ((f : Int) + (n : Int) - intOf j).toNat)
  case atStart => exact ⟨0, _, Nat.zero_le _, by simp, rfl, by simp [OwnG, World.ownsRow, marksReplies], Below.refl _ _⟩
  case round =>
    obtain ⟨k, v, hk, rfl, rfl, hown, hb⟩ := hrel
    have hsz := hb.size
    have hml := marksReplies_length i f k
    by_cases hlt : k < n
    · have hx : (-1000) * (i : Int) - ((f : Int) + (k : Int)) - 1 = (markReplies i ((f : Int) + k)).err := rfl
      have j1 : (f : Int) + (k : Int) < (f : Int) + (n : Int) := by omega
      have hm1 : -1000000 ≤ (-1000) * (i : Int) := by omega
      have hm2 : (-1000) * (i : Int) ≤ 0 := by omega
      have hm3 : -2000001000 ≤ (-1000) * (i : Int) - ((f : Int) + (k : Int)) := by omega
      have hm4 : (-1000) * (i : Int) - ((f : Int) + (k : Int)) ≤ 0 := by omega
      obtain ⟨X, hX⟩ : ∃ X, X = (markReplies i ((f : Int) + k)).err := ⟨_, rfl⟩
      rw [← hX] at hx
      have Hown := veil hown
      have Hnext : Hid ((marksReplies i f (k + 1)).flatMap RepS.cells = (marksReplies i f k).flatMap RepS.cells ++ [.int .i64 X, .string ⟨#[]⟩]) := veil (by rw [marksReplies_succ, List.flatMap_append, List.flatMap_cons, List.flatMap_nil, List.append_nil, hX]; rfl)
      clear hown hX
      go_wp2_with (at_builtin; refine wpList_append_any rfl _ _ _ rfl w.heap.size 42 i0 _ 2 24 Tryz.underlying39 hti hz0 hz1 hz2 rfl (by omega) _ _ _ rfl ((Hown.out.below ((Below.refl _ _).alloc (Nat.le_refl _) _))) (some ⟨wr.heap.size, 0, none⟩) 1 1 [.int .i64 X, .string ⟨#[]⟩] rfl rfl (by intro j u hj; refine ⟨wr.heap.size, 0, rfl, ?_⟩; have := World.news_of_block (cs := #[.int .i64 X, .string ⟨#[]⟩]) (t := 42) (fr := (0, 0)) (heap_alloc_new wr _) j u hj; rw [add_plain0] at this; rw [Nat.zero_add]; exact this) (by simp [Value.oneCell']) (by unfold maxLen; omega) (by omega) (by simp; omega) ?_; intro x' cap w1 hown1 hgrow hor)
      have hown2 : OwnReplies w1 w.heap.size (.slice x' (k + 1) cap) (marksReplies i f (k + 1)) := by
        unfold OwnReplies OwnG
        rw [Hnext.out, marksReplies_length]
        rw [hml] at hown1
        exact hown1
      have hb2 : Below w.heap.size w w1 := (hb.alloc hsz _).grown hgrow (by simp; omega) (fun g hg => (Hown.out.lt hg).1)
      exact ⟨⟨k + 1, _, by omega, by congr 1, rfl, hown2, hb2⟩, by simp [intOf]; omega⟩
    · obtain rfl : k = n := by omega
      go_wp2
      go_ret
      exact ⟨_, rfl, hown, hb⟩
end Go.Proofs.YtjonmggkmalgaaaGreatDoor

/-
  Joined by merge.py: W72Cmds, W72Replies.
-/
import Derived.Test.YtjonmggkmalgaaaGreatDoorW71Kinds
import Derived.Deep.RegionHeld3
import Derived.Deep.RegionLaw
-- W72Cmds
namespace Go.Proofs.YtjonmggkmalgaaaGreatDoor
open Go.RowKit Go.Lib
attribute [local go_sem ↓] Go.wp_at_zero Go.wp_at_succ

theorem infoSCmds : (Tryz.prog.info? 22).map (fun i => (i.zero, i.size, i.bytes)) = some (some (.slice none 0 0), 1, 24) := by kernel_rfl

/-- What the book may turn where it keeps one more: itself, its rows of slices. -/
def KSCmds (kb : Nat) (w : World) (k : Nat) : Prop := k = kb ∨ UT 22 kb w k
def KeptCmds (kb B1 : Nat) (w : World) (f0 f1 f2 f3 f4 f5 f6 f7 f8 f9 f10 f11 _f12 _f13 f14 f15 f16 f17 : Value) (cs : List (List CmdS)) (e : Ending) (w' : World) : Prop :=
  ∃ fv wv, e = .returned (.tuple #[]) ∧ Lies w' kb 54 [f0, f1, f2, f3, f4, f5, f6, f7, f8, f9, f10, f11, fv, wv, f14, f15, f16, f17] ∧ FieldG 68 22 5 CmdS.cells w' kb B1 fv cs ∧ FieldG 68 22 5 CmdS.cells w' kb w'.heap.size wv cs ∧ (∀ g, fv.ownBlock = some g → wv.ownBlock ≠ some g) ∧ Keeps (KSCmds kb w) w w'

set_option maxHeartbeats 4000000 in
set_option maxRecDepth 100000 in
theorem kept_Cmds (kb B B1 : Nat) (f0 f1 f2 f3 f4 f5 f6 f7 f8 f9 f10 f11 f12 f13 f14 f15 f16 f17 : Value) (x : Option Addr) (cap : Nat) (l : List CmdS) (cs : List (List CmdS)) (w : World)
    (hk : Lies w kb 54 [f0, f1, f2, f3, f4, f5, f6, f7, f8, f9, f10, f11, f12, f13, f14, f15, f16, f17]) (hf : FieldG 68 22 5 CmdS.cells w kb B f12 cs) (hw : FieldG 68 22 5 CmdS.cells w kb w.heap.size f13 cs) (hd : ∀ g, f12.ownBlock = some g → f13.ownBlock ≠ some g)
    (hv : OwnCmds w B (.slice x l.length cap) l) (hkB : kb + 1 ≤ B) (hB : ∀ g, (Value.slice x l.length cap).ownBlock = some g → g < B1) (hBB : B ≤ B1) (hn : cs.length < 250) (hl : l.length ≤ 100000) :
    Calls Tryz.prog 24 #[.pointer (some ⟨kb, 0, none⟩), .slice x l.length cap] w (KeptCmds kb B1 w f0 f1 f2 f3 f4 f5 f6 f7 f8 f9 f10 f11 f12 f13 f14 f15 f16 f17 (cs ++ [l])) := by
  obtain ⟨i0, hi, hz0, hz1, hz2⟩ := info_parts infoSCmds
  obtain ⟨vs, hr, hfam, hfB⟩ := hf
  obtain ⟨ws, hwr, hwfam, hwB⟩ := hw
  have hvl : vs.length < 250 := by rw [hfam.len]; exact hn
  have hwl : ws.length < 250 := by rw [hwfam.len]; exact hn
  obtain ⟨xf, cf, rfl, _, hcf⟩ := own_slice hr
  obtain ⟨xw, cw, rfl, _, hcw⟩ := own_slice hwr
  have c12 := hk.cell 12
  have c13 := hk.cell 13
  have hkl := hk.lt
  have hlt250 : (vs.length : Int) < 250 := by omega
  simp at c12 c13
  have hne := own_lies_ne hr hk (by decide)
  have hnew := World.news_of_block (cs := #[.slice x l.length cap]) (t := 22) (fr := (0, 0)) (heap_alloc_new w _)
  have HD := veil (And.intro hd (And.intro hB (And.intro hfB hwB)))
  have HV := veil (And.intro hr (And.intro hwr (And.intro hfam (And.intro hwfam hv))))
  clear hd hB hfB hwB hr hwr hfam hwfam hv
  go_enter Tryz.func24, Tryz.ntmps24
  go_wp2_with (at_builtin; refine wpList_append_any rfl _ _ _ rfl (kb + 1) 22 i0 _ 1 24 Tryz.underlying50 hi hz0 hz1 hz2 rfl (by omega) _ _ _ rfl (own_keeps (S := fun _ => False) HV.out.1 (Keeps.below ((Below.refl _ _).alloc (Nat.le_refl _) _) (fun j hj hj' => absurd hj (by omega))) (fun _ _ => id)) (some ⟨w.heap.size, 0, none⟩) 1 1 [.slice x l.length cap] rfl rfl (by intro j u hj; refine ⟨w.heap.size, 0, rfl, ?_⟩; have := hnew j u hj; rw [add_plain0] at this; rw [Nat.zero_add]; exact this) (by simp [Value.oneCell']) (by unfold maxLen; omega) (by omega) (by simp; omega) ?_; intro xf' cf' w1 hown1 hgrow1 hor1; have l1 := (hk.alloc (.cells #[.slice x l.length cap] 22)).grown hgrow1 (fun e => hne e.symm); have d12 : w1.cell? ⟨kb, 12, none⟩ = some (.slice xf vs.length cf) := l1.cell 12; have g12 : w1.frozen? ⟨kb, 12, none⟩ = false := l1.frozen 12)
  have K0 : Keeps (fun k => k = kb ∨ (Value.slice xf vs.length cf).ownBlock = some k) w (w.alloc (.cells #[.slice x l.length cap] 22)) := (Keeps.rfl' _ _).alloc _
  have K1 := (K0.grown hgrow1 (fun k _ e => .inr e)).setCell (p := ⟨kb, 12, none⟩) (.inr (.inl rfl)) (.slice xf' (vs.length + 1) cf')
  have l2 := l1.put 12 (.slice xf' (vs.length + 1) cf')
  have hsz1 := hgrow1.size
  simp only [World.alloc, Array.size_push] at hsz1
  have R1 : (w1.setCell ⟨kb, 12, none⟩ (.slice xf' (vs.length + 1) cf')).ownsRow (kb + 1) 22 1 (.slice xf' (vs.length + 1) cf') (vs.length + 1) (vs ++ [.slice x l.length cap]) :=
    own_keeps (S := fun k => k = kb) hown1 (Keeps.setCell (S := fun k => k = kb) (p := ⟨kb, 12, none⟩) (Keeps.rfl' _ _) (.inr rfl) _) (fun g hg e => by have := (own_lt hown1 hg).1; omega)
  have hor2 : ∀ g, (Value.slice xf' (vs.length + 1) cf').ownBlock = some g → (Value.slice xf vs.length cf).ownBlock = some g ∨ g = w.heap.size + 1 := by
    intro g hg
    rcases hor1 with h | ⟨h, _⟩
    · exact .inl (h.symm.trans hg)
    · right
      rw [hg] at h
      injection h with h
      simpa using h
  obtain ⟨W2, hW2⟩ : ∃ W2, W2 = w1.setCell ⟨kb, 12, none⟩ (.slice xf' (vs.length + 1) cf') := ⟨_, rfl⟩
  have hs2 : w1.heap.size = W2.heap.size := by rw [hW2]; simp [World.setCell]
  rw [← hW2] at K1 l2 R1
  have hl2 := l2.lt
  obtain ⟨hr, hwr, hfam, hwfam, hv⟩ := HV.out
  obtain ⟨hd, hB, hfB, hwB⟩ := HD.out
  have htyp : ∀ g, (g = kb ∨ (Value.slice xf vs.length cf).ownBlock = some g) → ∀ cur, w.heap[g]? ≠ some (.cells cur 68 (0, 0)) := by
    rintro g (rfl | hg) cur hc
    · unfold Lies at hk
      rw [hk] at hc
      injection hc with hc
      injection hc with _ hc
      exact absurd hc (by decide)
    · obtain ⟨cur', hc'⟩ := OwnG.typed (t := 22) (sz := 1) (cell := fun v => [v]) (l := vs) (by unfold OwnG; simpa using hr) hg
      rw [hc'] at hc
      injection hc with hc
      injection hc with _ hc
      exact absurd hc (by decide)
  have R2 := own_keeps hwr K1 (fun g hg e => by
    rcases e with rfl | e
    · have := (own_lt hwr hg).1; omega
    · exact hd g e hg)
  have F1 := hfam.kept K1 htyp
  have F2 := hwfam.kept K1 htyp
  have V1 := hv.kept K1 (fun g hg e => by obtain ⟨cur, hc⟩ := hv.typed hg; exact htyp g e cur hc)
  obtain ⟨_, _, e0, hat, _⟩ := OwnCmds.at_ V1
  injection e0 with e0 e1 e2
  subst e0 e2
  have c13 := l2.cell 13
  have g13 := l2.frozen 13
  have hne2 := own_lies_ne R2 l2 (by decide)
  have HA := veil hat
  have H2 := veil (And.intro R1 (And.intro R2 (And.intro F1 (And.intro F2 V1))))
  have HK := veil (And.intro K1 (And.intro l2 hor2))
  simp at c13
  have HR := veil (And.intro hr hwr)
  clear hr hwr hfam hwfam hv hd hB hfB hwB htyp R1 R2 F1 F2 V1 hat K0 K1 hown1 hgrow1 hor1 hor2 l1 d12 g12 hnew hk HV
  go_wp2_with fail
  rw [← hW2]
  clear hW2
  go_region_law
    (first
      | (go_simp; go_at_call 61; refine (copy_Cmds _ _ _ _ (HA.out.below (Below.refl _ _).drew) (by omega)).mono ?_; rintro e w5 ⟨u, rfl, hu, hb5⟩; obtain ⟨xu, cu, rfl, _, _⟩ := own_slice hu; have hb5' : Below W2.heap.size W2 w5 := (Below.refl _ _).drew.trans hb5; have l5 := HK.out.2.1.below hb5' hl2; have c5 : w5.cell? ⟨kb, 13, none⟩ = some (.slice xw ws.length cw) := l5.cell 13; have l5n := l5.lt; have hnew5 := World.news_of_block (cs := #[.slice xu l.length cu]) (t := 22) (fr := (0, 0)) (heap_alloc_new w5 _))
      | (refine step_append_any rfl _ _ _ rfl (kb + 1) 22 i0 _ 1 24 Tryz.underlying50 hi hz0 hz1 hz2 rfl (by omega) _ _ _ rfl (own_keeps (S := fun _ => False) H2.out.2.1 (Keeps.below (hb5'.trans ((Below.refl _ _).alloc (hb5'.size) _)) (fun j hj hj' => absurd hj (by omega))) (fun _ _ => id)) (some ⟨w5.heap.size, 0, none⟩) 1 1 [.slice xu l.length cu] rfl rfl (by intro j u hj; refine ⟨w5.heap.size, 0, rfl, ?_⟩; have := hnew5 j u hj; rw [add_plain0] at this; rw [Nat.zero_add]; exact this) (by simp [Value.oneCell']) (by unfold maxLen; omega) (by omega) (by simp; omega) ?_; intro xw' cw' w6 hown6 hgrow6 hor6; have l6 := (l5.alloc (.cells #[.slice xu l.length cu] 22)).grown hgrow6 (fun e => hne2 e.symm); have c6 : w6.cell? ⟨kb, 13, none⟩ = some (.slice xw ws.length cw) := l6.cell 13; have g6 : w6.frozen? ⟨kb, 13, none⟩ = false := l6.frozen 13))
  all_goals (
    obtain ⟨K1, l2, hor2⟩ := HK.out
    obtain ⟨R1, R2, F1, F2, V1⟩ := H2.out
    obtain ⟨hd, hB, hfB, hwB⟩ := HD.out
    have hsb := hb5'.size
    have hs6 := hgrow6.size
    simp only [World.alloc, Array.size_push] at hs6
    have hus : OwnCmds w5 (kb + 1) (.slice xu l.length cu) l := (show FamG 68 5 CmdS.cells w5 (kb + 1) [Value.slice xu l.length cu] [l] from FamG.mono (base := W2.drew.heap.size) ⟨rfl, fun i h1 h2 => by (obtain rfl : i = 0 := by simpa using h1); exact hu, fun i j h1 h2 g _ _ => by simp at h1 h2; omega⟩ (by show kb + 1 ≤ W2.heap.size; omega)).own 0 (by simp) (by simp)
    have hul := fun g hg => OwnG.lt hu (g := g) hg
    have e1 := R1.1
    have hlv : (vs ++ [Value.slice x l.length cap]).length = vs.length + 1 := by simp
    have hlw : (ws ++ [Value.slice xu l.length cu]).length = ws.length + 1 := by simp
    have hwlt := fun g hg => own_lt R2 (g := g) hg
    have K2 : Keeps (fun k => k = kb ∨ (Value.slice xw ws.length cw).ownBlock = some k) W2 (w6.setCell ⟨kb, 13, none⟩ (.slice xw' (ws.length + 1) cw')) :=
      (((Keeps.below (S := fun k => k = kb ∨ (Value.slice xw ws.length cw).ownBlock = some k) hb5' (fun k hk hk' => absurd hk (by omega))).alloc (.cells #[.slice xu l.length cu] 22)).grown hgrow6 (fun k _ e => .inr e)).setCell (p := ⟨kb, 13, none⟩) (.inr (.inl rfl)) _
    have K3 : Keeps (fun k => k = kb ∨ (Value.slice xw ws.length cw).ownBlock = some k) w5 (w6.setCell ⟨kb, 13, none⟩ (.slice xw' (ws.length + 1) cw')) :=
      ((((Keeps.rfl' (fun k => k = kb ∨ (Value.slice xw ws.length cw).ownBlock = some k) w5)).alloc (.cells #[.slice xu l.length cu] 22)).grown hgrow6 (fun k _ e => .inr e)).setCell (p := ⟨kb, 13, none⟩) (.inr (.inl rfl)) _
    have hwx := fun g hg => OwnG.typed (t := 22) (sz := 1) (cell := fun v => [v]) (l := ws) (by unfold OwnG; simpa using R2) (g := g) hg
    have htyp : ∀ g, (g = kb ∨ (Value.slice xw ws.length cw).ownBlock = some g) → ∀ cur, W2.heap[g]? ≠ some (.cells cur 68 (0, 0)) := by
      rintro g (rfl | hg) cur hc
      · unfold Lies at l2
        rw [l2] at hc
        injection hc with hc
        injection hc with _ hc
        exact absurd hc (by decide)
      · obtain ⟨cur', hc'⟩ := hwx g hg
        rw [hc'] at hc
        injection hc with hc
        injection hc with _ hc
        exact absurd hc (by decide)
    have hor3 : ∀ g, (Value.slice xw' (ws.length + 1) cw').ownBlock = some g → (Value.slice xw ws.length cw).ownBlock = some g ∨ g = w5.heap.size + 1 := by
      intro g hg
      rcases hor6 with h | ⟨h, _⟩
      · exact .inl (h.symm.trans hg)
      · right
        rw [hg] at h
        injection h with h
        simpa using h
    have hfold : ∀ g, (Value.slice xf vs.length cf).ownBlock = some g → g < w.heap.size := by
      intro g hg
      obtain ⟨hr, _⟩ := HR.out
      exact (own_lt hr hg).2
    have hwold : ∀ g, (Value.slice xw ws.length cw).ownBlock = some g → g < w.heap.size := by
      intro g hg
      obtain ⟨_, hwr⟩ := HR.out
      exact (own_lt hwr hg).2
    have hk1 := K1.size
    go_end0
    refine ⟨.slice xf' (vs.length + 1) cf', .slice xw' (ws.length + 1) cw', rfl, l6.put 13 _, ⟨vs ++ [.slice x l.length cap], ?_, ?_, ?_⟩, ⟨ws ++ [.slice xu l.length cu], ?_, ?_, ?_⟩, ?_, ?_⟩
    · rw [hlv]
      refine own_keeps R1 K2 (fun g hg e => ?_)
      rcases e with rfl | e
      · have := (own_lt R1 hg).1; omega
      · rcases hor2 g hg with h | h
        · exact hd g h e
        · have := hwold g e; omega
    · refine (F1.snoc ?_ ?_).kept K2 htyp
      · exact (show FamG 68 5 CmdS.cells W2 (kb + 1) [Value.slice x l.length cap] [l] from FamG.mono (base := B) ⟨rfl, fun i h1 h2 => by (obtain rfl : i = 0 := by simpa using h1); exact V1, fun i j h1 h2 g _ _ => by simp at h1 h2; omega⟩ hkB).own 0 (by simp) (by simp)
      · intro i hi g hg hv
        have h1 := hfB i hi g hg
        have h2 := (OwnG.lt V1 hv).1
        omega
    · intro i hi g hg
      rw [List.getElem_append] at hg
      by_cases h1 : i < vs.length
      · rw [dif_pos h1] at hg
        have := hfB i h1 g hg
        omega
      · rw [dif_neg h1] at hg
        simp at hg
        exact hB g hg
    · rw [hlw]
      exact own_keeps (S := fun k => k = kb) hown6 (Keeps.setCell (S := fun k => k = kb) (p := ⟨kb, 13, none⟩) (Keeps.rfl' _ _) (.inr rfl) _) (fun g hg e => by have := (own_lt hown6 hg).1; omega)
    · refine (F2.kept K2 htyp).snoc (hus.kept K3 (fun g hg e => ?_)) ?_
      · rcases e with rfl | e
        · have := hul _ hg; simp only [World.drew] at this; omega
        · have h1 := (hul g hg).1
          have h2 := hwold g e
          simp only [World.drew] at h1
          omega
      · intro i hi g hg hv
        have h1 := hwB i hi g hg
        have h2 := (hul g hv).1
        simp only [World.drew] at h2
        omega
    · intro i hi g hg
      show g < (w6.heap.modify _ _).size
      rw [Array.size_modify]
      rw [List.getElem_append] at hg
      by_cases h1 : i < ws.length
      · rw [dif_pos h1] at hg
        have := hwB i h1 g hg
        omega
      · rw [dif_neg h1] at hg
        simp at hg
        have := (hul g hg).2
        omega
    · intro g hg hw
      rcases hor2 g hg with h | h
      · rcases hor3 g hw with h' | h'
        · exact hd g h h'
        · have := hfold g h; omega
      · rcases hor3 g hw with h' | h'
        · have := hwold g h'; omega
        · omega
    · obtain ⟨hr, hwr⟩ := HR.out
      refine (K1.more (S' := KSCmds kb w) (fun k hk e => ?_)).trans K2 (fun k hk e => ?_)
      · rcases e with rfl | e
        · exact .inl rfl
        · obtain ⟨cur, hc⟩ := OwnG.typed (t := 22) (sz := 1) (cell := fun v => [v]) (l := vs) (by unfold OwnG; simpa using hr) e
          exact .inr ⟨by have := (own_lt hr e).1; omega, cur, hc⟩
      · rcases e with rfl | e
        · exact .inl rfl
        · obtain ⟨cur, hc⟩ := OwnG.typed (t := 22) (sz := 1) (cell := fun v => [v]) (l := ws) (by unfold OwnG; simpa using hwr) e
          exact .inr ⟨by have := (own_lt hwr e).1; omega, cur, hc⟩)
end Go.Proofs.YtjonmggkmalgaaaGreatDoor
-- W72Replies
namespace Go.Proofs.YtjonmggkmalgaaaGreatDoor
open Go.RowKit Go.Lib
attribute [local go_sem ↓] Go.wp_at_zero Go.wp_at_succ

theorem infoSReplies : (Tryz.prog.info? 39).map (fun i => (i.zero, i.size, i.bytes)) = some (some (.slice none 0 0), 1, 24) := by kernel_rfl

/-- What the book may turn where it keeps one more: itself, its rows of slices. -/
def KSReplies (kb : Nat) (w : World) (k : Nat) : Prop := k = kb ∨ UT 39 kb w k
def KeptReplies (kb B1 : Nat) (w : World) (f0 f1 f2 f3 f4 f5 f6 f7 f8 f9 _f10 _f11 f12 f13 f14 f15 f16 f17 : Value) (cs : List (List RepS)) (e : Ending) (w' : World) : Prop :=
  ∃ fv wv, e = .returned (.tuple #[]) ∧ Lies w' kb 54 [f0, f1, f2, f3, f4, f5, f6, f7, f8, f9, fv, wv, f12, f13, f14, f15, f16, f17] ∧ FieldG 42 39 2 RepS.cells w' kb B1 fv cs ∧ FieldG 42 39 2 RepS.cells w' kb w'.heap.size wv cs ∧ (∀ g, fv.ownBlock = some g → wv.ownBlock ≠ some g) ∧ Keeps (KSReplies kb w) w w'

set_option maxHeartbeats 4000000 in
set_option maxRecDepth 100000 in
theorem kept_Replies (kb B B1 : Nat) (f0 f1 f2 f3 f4 f5 f6 f7 f8 f9 f10 f11 f12 f13 f14 f15 f16 f17 : Value) (x : Option Addr) (cap : Nat) (l : List RepS) (cs : List (List RepS)) (w : World)
    (hk : Lies w kb 54 [f0, f1, f2, f3, f4, f5, f6, f7, f8, f9, f10, f11, f12, f13, f14, f15, f16, f17]) (hf : FieldG 42 39 2 RepS.cells w kb B f10 cs) (hw : FieldG 42 39 2 RepS.cells w kb w.heap.size f11 cs) (hd : ∀ g, f10.ownBlock = some g → f11.ownBlock ≠ some g)
    (hv : OwnReplies w B (.slice x l.length cap) l) (hkB : kb + 1 ≤ B) (hB : ∀ g, (Value.slice x l.length cap).ownBlock = some g → g < B1) (hBB : B ≤ B1) (hn : cs.length < 250) (hl : l.length ≤ 100000) :
    Calls Tryz.prog 25 #[.pointer (some ⟨kb, 0, none⟩), .slice x l.length cap] w (KeptReplies kb B1 w f0 f1 f2 f3 f4 f5 f6 f7 f8 f9 f10 f11 f12 f13 f14 f15 f16 f17 (cs ++ [l])) := by
  obtain ⟨i0, hi, hz0, hz1, hz2⟩ := info_parts infoSReplies
  obtain ⟨vs, hr, hfam, hfB⟩ := hf
  obtain ⟨ws, hwr, hwfam, hwB⟩ := hw
  have hvl : vs.length < 250 := by rw [hfam.len]; exact hn
  have hwl : ws.length < 250 := by rw [hwfam.len]; exact hn
  obtain ⟨xf, cf, rfl, _, hcf⟩ := own_slice hr
  obtain ⟨xw, cw, rfl, _, hcw⟩ := own_slice hwr
  have c10 := hk.cell 10
  have c11 := hk.cell 11
  have hkl := hk.lt
  have hlt250 : (vs.length : Int) < 250 := by omega
  simp at c10 c11
  have hne := own_lies_ne hr hk (by decide)
  have hnew := World.news_of_block (cs := #[.slice x l.length cap]) (t := 39) (fr := (0, 0)) (heap_alloc_new w _)
  have HD := veil (And.intro hd (And.intro hB (And.intro hfB hwB)))
  have HV := veil (And.intro hr (And.intro hwr (And.intro hfam (And.intro hwfam hv))))
  clear hd hB hfB hwB hr hwr hfam hwfam hv
  go_enter Tryz.func25, Tryz.ntmps25
  go_wp2_with (at_builtin; refine wpList_append_any rfl _ _ _ rfl (kb + 1) 39 i0 _ 1 24 Tryz.underlying49 hi hz0 hz1 hz2 rfl (by omega) _ _ _ rfl (own_keeps (S := fun _ => False) HV.out.1 (Keeps.below ((Below.refl _ _).alloc (Nat.le_refl _) _) (fun j hj hj' => absurd hj (by omega))) (fun _ _ => id)) (some ⟨w.heap.size, 0, none⟩) 1 1 [.slice x l.length cap] rfl rfl (by intro j u hj; refine ⟨w.heap.size, 0, rfl, ?_⟩; have := hnew j u hj; rw [add_plain0] at this; rw [Nat.zero_add]; exact this) (by simp [Value.oneCell']) (by unfold maxLen; omega) (by omega) (by simp; omega) ?_; intro xf' cf' w1 hown1 hgrow1 hor1; have l1 := (hk.alloc (.cells #[.slice x l.length cap] 39)).grown hgrow1 (fun e => hne e.symm); have d10 : w1.cell? ⟨kb, 10, none⟩ = some (.slice xf vs.length cf) := l1.cell 10; have g10 : w1.frozen? ⟨kb, 10, none⟩ = false := l1.frozen 10)
  have K0 : Keeps (fun k => k = kb ∨ (Value.slice xf vs.length cf).ownBlock = some k) w (w.alloc (.cells #[.slice x l.length cap] 39)) := (Keeps.rfl' _ _).alloc _
  have K1 := (K0.grown hgrow1 (fun k _ e => .inr e)).setCell (p := ⟨kb, 10, none⟩) (.inr (.inl rfl)) (.slice xf' (vs.length + 1) cf')
  have l2 := l1.put 10 (.slice xf' (vs.length + 1) cf')
  have hsz1 := hgrow1.size
  simp only [World.alloc, Array.size_push] at hsz1
  have R1 : (w1.setCell ⟨kb, 10, none⟩ (.slice xf' (vs.length + 1) cf')).ownsRow (kb + 1) 39 1 (.slice xf' (vs.length + 1) cf') (vs.length + 1) (vs ++ [.slice x l.length cap]) :=
    own_keeps (S := fun k => k = kb) hown1 (Keeps.setCell (S := fun k => k = kb) (p := ⟨kb, 10, none⟩) (Keeps.rfl' _ _) (.inr rfl) _) (fun g hg e => by have := (own_lt hown1 hg).1; omega)
  have hor2 : ∀ g, (Value.slice xf' (vs.length + 1) cf').ownBlock = some g → (Value.slice xf vs.length cf).ownBlock = some g ∨ g = w.heap.size + 1 := by
    intro g hg
    rcases hor1 with h | ⟨h, _⟩
    · exact .inl (h.symm.trans hg)
    · right
      rw [hg] at h
      injection h with h
      simpa using h
  obtain ⟨W2, hW2⟩ : ∃ W2, W2 = w1.setCell ⟨kb, 10, none⟩ (.slice xf' (vs.length + 1) cf') := ⟨_, rfl⟩
  have hs2 : w1.heap.size = W2.heap.size := by rw [hW2]; simp [World.setCell]
  rw [← hW2] at K1 l2 R1
  have hl2 := l2.lt
  obtain ⟨hr, hwr, hfam, hwfam, hv⟩ := HV.out
  obtain ⟨hd, hB, hfB, hwB⟩ := HD.out
  have htyp : ∀ g, (g = kb ∨ (Value.slice xf vs.length cf).ownBlock = some g) → ∀ cur, w.heap[g]? ≠ some (.cells cur 42 (0, 0)) := by
    rintro g (rfl | hg) cur hc
    · unfold Lies at hk
      rw [hk] at hc
      injection hc with hc
      injection hc with _ hc
      exact absurd hc (by decide)
    · obtain ⟨cur', hc'⟩ := OwnG.typed (t := 39) (sz := 1) (cell := fun v => [v]) (l := vs) (by unfold OwnG; simpa using hr) hg
      rw [hc'] at hc
      injection hc with hc
      injection hc with _ hc
      exact absurd hc (by decide)
  have R2 := own_keeps hwr K1 (fun g hg e => by
    rcases e with rfl | e
    · have := (own_lt hwr hg).1; omega
    · exact hd g e hg)
  have F1 := hfam.kept K1 htyp
  have F2 := hwfam.kept K1 htyp
  have V1 := hv.kept K1 (fun g hg e => by obtain ⟨cur, hc⟩ := hv.typed hg; exact htyp g e cur hc)
  obtain ⟨_, _, e0, hat, _⟩ := OwnReplies.at_ V1
  injection e0 with e0 e1 e2
  subst e0 e2
  have c11 := l2.cell 11
  have g11 := l2.frozen 11
  have hne2 := own_lies_ne R2 l2 (by decide)
  have HA := veil hat
  have H2 := veil (And.intro R1 (And.intro R2 (And.intro F1 (And.intro F2 V1))))
  have HK := veil (And.intro K1 (And.intro l2 hor2))
  simp at c11
  have HR := veil (And.intro hr hwr)
  clear hr hwr hfam hwfam hv hd hB hfB hwB htyp R1 R2 F1 F2 V1 hat K0 K1 hown1 hgrow1 hor1 hor2 l1 d10 g10 hnew hk HV
  go_wp2_with fail
  rw [← hW2]
  clear hW2
  go_region_law
    (first
      | (go_simp; go_at_call 62; refine (copy_Replies _ _ _ _ (HA.out.below (Below.refl _ _).drew) (by omega)).mono ?_; rintro e w5 ⟨u, rfl, hu, hb5⟩; obtain ⟨xu, cu, rfl, _, _⟩ := own_slice hu; have hb5' : Below W2.heap.size W2 w5 := (Below.refl _ _).drew.trans hb5; have l5 := HK.out.2.1.below hb5' hl2; have c5 : w5.cell? ⟨kb, 11, none⟩ = some (.slice xw ws.length cw) := l5.cell 11; have l5n := l5.lt; have hnew5 := World.news_of_block (cs := #[.slice xu l.length cu]) (t := 39) (fr := (0, 0)) (heap_alloc_new w5 _))
      | (refine step_append_any rfl _ _ _ rfl (kb + 1) 39 i0 _ 1 24 Tryz.underlying49 hi hz0 hz1 hz2 rfl (by omega) _ _ _ rfl (own_keeps (S := fun _ => False) H2.out.2.1 (Keeps.below (hb5'.trans ((Below.refl _ _).alloc (hb5'.size) _)) (fun j hj hj' => absurd hj (by omega))) (fun _ _ => id)) (some ⟨w5.heap.size, 0, none⟩) 1 1 [.slice xu l.length cu] rfl rfl (by intro j u hj; refine ⟨w5.heap.size, 0, rfl, ?_⟩; have := hnew5 j u hj; rw [add_plain0] at this; rw [Nat.zero_add]; exact this) (by simp [Value.oneCell']) (by unfold maxLen; omega) (by omega) (by simp; omega) ?_; intro xw' cw' w6 hown6 hgrow6 hor6; have l6 := (l5.alloc (.cells #[.slice xu l.length cu] 39)).grown hgrow6 (fun e => hne2 e.symm); have c6 : w6.cell? ⟨kb, 11, none⟩ = some (.slice xw ws.length cw) := l6.cell 11; have g6 : w6.frozen? ⟨kb, 11, none⟩ = false := l6.frozen 11))
  all_goals (
    obtain ⟨K1, l2, hor2⟩ := HK.out
    obtain ⟨R1, R2, F1, F2, V1⟩ := H2.out
    obtain ⟨hd, hB, hfB, hwB⟩ := HD.out
    have hsb := hb5'.size
    have hs6 := hgrow6.size
    simp only [World.alloc, Array.size_push] at hs6
    have hus : OwnReplies w5 (kb + 1) (.slice xu l.length cu) l := (show FamG 42 2 RepS.cells w5 (kb + 1) [Value.slice xu l.length cu] [l] from FamG.mono (base := W2.drew.heap.size) ⟨rfl, fun i h1 h2 => by (obtain rfl : i = 0 := by simpa using h1); exact hu, fun i j h1 h2 g _ _ => by simp at h1 h2; omega⟩ (by show kb + 1 ≤ W2.heap.size; omega)).own 0 (by simp) (by simp)
    have hul := fun g hg => OwnG.lt hu (g := g) hg
    have e1 := R1.1
    have hlv : (vs ++ [Value.slice x l.length cap]).length = vs.length + 1 := by simp
    have hlw : (ws ++ [Value.slice xu l.length cu]).length = ws.length + 1 := by simp
    have hwlt := fun g hg => own_lt R2 (g := g) hg
    have K2 : Keeps (fun k => k = kb ∨ (Value.slice xw ws.length cw).ownBlock = some k) W2 (w6.setCell ⟨kb, 11, none⟩ (.slice xw' (ws.length + 1) cw')) :=
      (((Keeps.below (S := fun k => k = kb ∨ (Value.slice xw ws.length cw).ownBlock = some k) hb5' (fun k hk hk' => absurd hk (by omega))).alloc (.cells #[.slice xu l.length cu] 39)).grown hgrow6 (fun k _ e => .inr e)).setCell (p := ⟨kb, 11, none⟩) (.inr (.inl rfl)) _
    have K3 : Keeps (fun k => k = kb ∨ (Value.slice xw ws.length cw).ownBlock = some k) w5 (w6.setCell ⟨kb, 11, none⟩ (.slice xw' (ws.length + 1) cw')) :=
      ((((Keeps.rfl' (fun k => k = kb ∨ (Value.slice xw ws.length cw).ownBlock = some k) w5)).alloc (.cells #[.slice xu l.length cu] 39)).grown hgrow6 (fun k _ e => .inr e)).setCell (p := ⟨kb, 11, none⟩) (.inr (.inl rfl)) _
    have hwx := fun g hg => OwnG.typed (t := 39) (sz := 1) (cell := fun v => [v]) (l := ws) (by unfold OwnG; simpa using R2) (g := g) hg
    have htyp : ∀ g, (g = kb ∨ (Value.slice xw ws.length cw).ownBlock = some g) → ∀ cur, W2.heap[g]? ≠ some (.cells cur 42 (0, 0)) := by
      rintro g (rfl | hg) cur hc
      · unfold Lies at l2
        rw [l2] at hc
        injection hc with hc
        injection hc with _ hc
        exact absurd hc (by decide)
      · obtain ⟨cur', hc'⟩ := hwx g hg
        rw [hc'] at hc
        injection hc with hc
        injection hc with _ hc
        exact absurd hc (by decide)
    have hor3 : ∀ g, (Value.slice xw' (ws.length + 1) cw').ownBlock = some g → (Value.slice xw ws.length cw).ownBlock = some g ∨ g = w5.heap.size + 1 := by
      intro g hg
      rcases hor6 with h | ⟨h, _⟩
      · exact .inl (h.symm.trans hg)
      · right
        rw [hg] at h
        injection h with h
        simpa using h
    have hfold : ∀ g, (Value.slice xf vs.length cf).ownBlock = some g → g < w.heap.size := by
      intro g hg
      obtain ⟨hr, _⟩ := HR.out
      exact (own_lt hr hg).2
    have hwold : ∀ g, (Value.slice xw ws.length cw).ownBlock = some g → g < w.heap.size := by
      intro g hg
      obtain ⟨_, hwr⟩ := HR.out
      exact (own_lt hwr hg).2
    have hk1 := K1.size
    go_end0
    refine ⟨.slice xf' (vs.length + 1) cf', .slice xw' (ws.length + 1) cw', rfl, l6.put 11 _, ⟨vs ++ [.slice x l.length cap], ?_, ?_, ?_⟩, ⟨ws ++ [.slice xu l.length cu], ?_, ?_, ?_⟩, ?_, ?_⟩
    · rw [hlv]
      refine own_keeps R1 K2 (fun g hg e => ?_)
      rcases e with rfl | e
      · have := (own_lt R1 hg).1; omega
      · rcases hor2 g hg with h | h
        · exact hd g h e
        · have := hwold g e; omega
    · refine (F1.snoc ?_ ?_).kept K2 htyp
      · exact (show FamG 42 2 RepS.cells W2 (kb + 1) [Value.slice x l.length cap] [l] from FamG.mono (base := B) ⟨rfl, fun i h1 h2 => by (obtain rfl : i = 0 := by simpa using h1); exact V1, fun i j h1 h2 g _ _ => by simp at h1 h2; omega⟩ hkB).own 0 (by simp) (by simp)
      · intro i hi g hg hv
        have h1 := hfB i hi g hg
        have h2 := (OwnG.lt V1 hv).1
        omega
    · intro i hi g hg
      rw [List.getElem_append] at hg
      by_cases h1 : i < vs.length
      · rw [dif_pos h1] at hg
        have := hfB i h1 g hg
        omega
      · rw [dif_neg h1] at hg
        simp at hg
        exact hB g hg
    · rw [hlw]
      exact own_keeps (S := fun k => k = kb) hown6 (Keeps.setCell (S := fun k => k = kb) (p := ⟨kb, 11, none⟩) (Keeps.rfl' _ _) (.inr rfl) _) (fun g hg e => by have := (own_lt hown6 hg).1; omega)
    · refine (F2.kept K2 htyp).snoc (hus.kept K3 (fun g hg e => ?_)) ?_
      · rcases e with rfl | e
        · have := hul _ hg; simp only [World.drew] at this; omega
        · have h1 := (hul g hg).1
          have h2 := hwold g e
          simp only [World.drew] at h1
          omega
      · intro i hi g hg hv
        have h1 := hwB i hi g hg
        have h2 := (hul g hv).1
        simp only [World.drew] at h2
        omega
    · intro i hi g hg
      show g < (w6.heap.modify _ _).size
      rw [Array.size_modify]
      rw [List.getElem_append] at hg
      by_cases h1 : i < ws.length
      · rw [dif_pos h1] at hg
        have := hwB i h1 g hg
        omega
      · rw [dif_neg h1] at hg
        simp at hg
        have := (hul g hg).2
        omega
    · intro g hg hw
      rcases hor2 g hg with h | h
      · rcases hor3 g hw with h' | h'
        · exact hd g h h'
        · have := hfold g h; omega
      · rcases hor3 g hw with h' | h'
        · have := hwold g h'; omega
        · omega
    · obtain ⟨hr, hwr⟩ := HR.out
      refine (K1.more (S' := KSReplies kb w) (fun k hk e => ?_)).trans K2 (fun k hk e => ?_)
      · rcases e with rfl | e
        · exact .inl rfl
        · obtain ⟨cur, hc⟩ := OwnG.typed (t := 39) (sz := 1) (cell := fun v => [v]) (l := vs) (by unfold OwnG; simpa using hr) e
          exact .inr ⟨by have := (own_lt hr e).1; omega, cur, hc⟩
      · rcases e with rfl | e
        · exact .inl rfl
        · obtain ⟨cur, hc⟩ := OwnG.typed (t := 39) (sz := 1) (cell := fun v => [v]) (l := ws) (by unfold OwnG; simpa using hwr) e
          exact .inr ⟨by have := (own_lt hwr e).1; omega, cur, hc⟩)
end Go.Proofs.YtjonmggkmalgaaaGreatDoor

/-
  Joined by merge.py: W73Cmds, W73Replies.
-/
import Derived.Test.YtjonmggkmalgaaaGreatDoorW72Kinds
-- W73Cmds
namespace Go.Proofs.YtjonmggkmalgaaaGreatDoor
open Go.RowKit Go.Lib
attribute [local go_sem ↓] Go.wp_at_zero Go.wp_at_succ

theorem fam_at_Cmds {w : World} {base : Nat} {vs : List Value} {cs : List (List CmdS)} (h : FamG 68 5 CmdS.cells w base vs cs) (k : Nat) (h1 : k < vs.length) (h2 : k < cs.length) :
    ∃ x c, vs[k] = .slice x cs[k].length c ∧ CmdsAt w x cs[k] := by
  obtain ⟨x, c, hv, ha, _⟩ := OwnCmds.at_ (h.own k h1 h2)
  exact ⟨x, c, hv, ha⟩

set_option maxHeartbeats 2000000 in
set_option maxRecDepth 100000 in
theorem still_Cmds (kb B B' : Nat) (f0 f1 f2 f3 f4 f5 f6 f7 f8 f9 f10 f11 f12 f13 f14 f15 f16 f17 : Value) (cs : List (List CmdS)) (w : World)
    (hk : Lies w kb 54 [f0, f1, f2, f3, f4, f5, f6, f7, f8, f9, f10, f11, f12, f13, f14, f15, f16, f17]) (hf : FieldG 68 22 5 CmdS.cells w kb B f12 cs) (hw : FieldG 68 22 5 CmdS.cells w kb B' f13 cs) (hn : cs.length ≤ 250) (hl : ∀ l ∈ cs, l.length ≤ 100000) :
    Calls Tryz.prog 73 #[.pointer (some ⟨kb, 0, none⟩)] w (BoolPost w true) := by
  obtain ⟨vs, hr, hfam, _⟩ := hf
  obtain ⟨ws, hwr, hwfam, _⟩ := hw
  have hvl := hfam.len
  have hwl := hwfam.len
  obtain ⟨xf, cf, rfl, hrow, _⟩ := own_slice hr
  obtain ⟨xw, cw, rfl, hwrow, _⟩ := own_slice hwr
  have HV := veil (And.intro hrow (And.intro hwrow (And.intro hfam hwfam)))
  have HK := veil (And.intro hk hl)
  have hkl := hk.lt
  clear hr hwr hfam hwfam hrow hwrow hk hl
  go_enter Tryz.func73, Tryz.ntmps73
  go_wp2_with fail
  go_loopw [3] (fun i wr => ∃ k : Nat, k ≤ vs.length ∧ i = .int .i64 k ∧ Below w.heap.size w wr) (fun i _ => vs.length - (intOf i).toNat)
  case atStart => exact ⟨0, Nat.zero_le _, rfl, Below.refl _ _⟩
  case round =>
    obtain ⟨k, hkv, rfl, hb⟩ := hrel
    have l1 := HK.out.1.below hb hkl
    have c12 := l1.cell 12
    have c13 := l1.cell 13
    simp at c12 c13
    by_cases hlt : k < vs.length
    · have h2 : k < ws.length := by omega
      have h3 : k < cs.length := by omega
      obtain ⟨hrow, hwrow, hfam, hwfam⟩ := HV.out
      obtain ⟨x1, c1, hv1, ha1⟩ := fam_at_Cmds hfam k hlt h3
      obtain ⟨x2, c2, hv2, ha2⟩ := fam_at_Cmds hwfam k h2 h3
      have hle := HK.out.2 cs[k] (List.getElem_mem h3)
      obtain ⟨bb, off, rfl, r1⟩ := (hrow.below hb) k _ (by rw [List.getElem?_eq_getElem hlt, hv1])
      obtain ⟨bc, off2, rfl, r2⟩ := (hwrow.below hb) k _ (by rw [List.getElem?_eq_getElem h2, hv2])
      obtain ⟨l, hlx⟩ : ∃ l, l = cs[k] := ⟨_, rfl⟩
      rw [← hlx] at hv1 hv2 ha1 ha2 hle r1 r2
      have HA := veil (And.intro (ha1.below hb) (ha2.below hb))
      have b1 := World.block_lt_of_cell? wr _ r1
      have b2 := World.block_lt_of_cell? wr _ r2
      have b3 := l1.lt
      have i0 : (0 : Int) ≤ (k : Int) := by omega
      have i1 : (k : Int) < (vs.length : Int) := by omega
      have i2 : (k : Int) < (ws.length : Int) := by omega
      simp only at b1 b2
      clear hrow hwrow hfam hwfam hv1 hv2 ha1 ha2 hlx l1
      go_wp2_with fail
      go_region_held3 (fun w' => w'.cell? ⟨kb, 12, none⟩ = some (.slice (some ⟨bb, off, none⟩) vs.length cf) ∧ w'.cell? ⟨kb, 13, none⟩ = some (.slice (some ⟨bc, off2, none⟩) ws.length cw) ∧ w'.cell? ⟨bb, off + k, none⟩ = some (.slice x1 l.length c1) ∧ w'.cell? ⟨bc, off2 + k, none⟩ = some (.slice x2 l.length c2))
        (first
          | exact ⟨(hbx.cell b3).trans c12, (hbx.cell b3).trans c13, (hbx.cell b1).trans r1, (hbx.cell b2).trans r2⟩
          | exact ⟨c12, c13, r1, r2⟩)
        ((go_at_call 113; refine (same_Cmds _ _ l _ _ _ (HA.out.1.below (Below.refl _ _).drew) (HA.out.2.below (Below.refl _ _).drew) (by omega)).mono ?_; rintro e w5 ⟨rfl, hb5⟩; have hbx : Below wr.heap.size wr w5 := (Below.refl _ _).drew.trans hb5))
      all_goals (
        have hb2 := hb.trans (hbx.mono hb.size)
        go_wp2
        go_roundw
        case rel => exact ⟨k + 1, by omega, by go_num, hb2⟩
        case measure => simp [intOf]; omega)
    · obtain rfl : k = vs.length := by omega
      go_wp2
      go_ret
      exact ⟨rfl, hb⟩

/-- The slice v reads as the marks of list j, so many of them. -/
def ReadCmds (w : World) (v : Value) (j m : Nat) : Prop := ∃ x c, v = .slice x m c ∧ CmdsAt w x (marksCmds j 0 m)
theorem ReadCmds.below {w w' : World} {v : Value} {j m : Nat} (h : ReadCmds w v j m) (hb : Below w.heap.size w w') : ReadCmds w' v j m := by
  obtain ⟨x, c, hv, ha⟩ := h
  exact ⟨x, c, hv, ha.below hb⟩
theorem ReadCmds.kept {S : Nat → Prop} {w w' : World} {v : Value} {j m : Nat} (h : ReadCmds w v j m) (hk : Keeps S w w') (hn : ∀ g, v.ownBlock = some g → ¬ S g) : ReadCmds w' v j m := by
  obtain ⟨x, c, hv, ha⟩ := h
  refine ⟨x, c, hv, Cmds_of_row ((row_of_Cmds ha).kept hk (fun a hx => hn _ ?_))⟩
  subst hv hx
  rfl
theorem ReadCmds.of_own {w : World} {base j m : Nat} {v : Value} (h : OwnCmds w base v (marksCmds j 0 m)) : ReadCmds w v j m := by
  obtain ⟨x, c, hv, ha, _⟩ := OwnCmds.at_ h
  rw [marksCmds_length] at hv
  exact ⟨x, c, hv, ha⟩

set_option maxHeartbeats 2000000 in
set_option maxRecDepth 100000 in
theorem marked_Cmds (x : Option Addr) (c : Nat) (vs : List Value) (ns : List Nat) (w : World) (hrow : RowAt w x vs) (hv : vs.length = ns.length) (hm : ∀ k (h1 : k < vs.length) (h2 : k < ns.length), ReadCmds w vs[k] k ns[k]) (hn : vs.length ≤ 300) (hl : ∀ m ∈ ns, m ≤ 200000) :
    Calls Tryz.prog 100 #[.slice x vs.length c] w (BoolPost w true) := by
  have HV := veil (And.intro hrow (And.intro hm hl))
  have HN := veil hv
  clear hrow hm hl hv
  go_enter Tryz.func100, Tryz.ntmps100
  go_wp2_with fail
  go_loopw [3] (fun i wr => ∃ k : Nat, k ≤ vs.length ∧ i = .int .i64 k ∧ Below w.heap.size w wr) (fun i _ => vs.length - (intOf i).toNat)
  case atStart => exact ⟨0, Nat.zero_le _, rfl, Below.refl _ _⟩
  case round =>
    obtain ⟨k, hkv, rfl, hb⟩ := hrel
    by_cases hlt : k < vs.length
    · have h3 : k < ns.length := by have := HN.out; omega
      obtain ⟨hrow, hm, hl⟩ := HV.out
      obtain ⟨x1, c1, hv1, ha1⟩ := hm k hlt h3
      have hle := hl ns[k] (List.getElem_mem h3)
      obtain ⟨bb, off, rfl, r1⟩ := (hrow.below hb) k _ (by rw [List.getElem?_eq_getElem hlt, hv1])
      obtain ⟨m, hlx⟩ : ∃ m, m = ns[k] := ⟨_, rfl⟩
      rw [← hlx] at hv1 ha1 hle r1
      have HA := veil (ha1.below hb)
      have b1 := World.block_lt_of_cell? wr _ r1
      have i0 : (0 : Int) ≤ (k : Int) := by omega
      have i1 : (k : Int) < (vs.length : Int) := by omega
      have hmk : ∀ W, Calls Tryz.prog 130 #[.int .i64 k, .int .i64 0, .int .i64 m] W (MadeCmds W (marksCmds k 0 m)) := fun W => mark_Cmds k 0 m W (by omega) (by omega) (by omega)
      have hml := marksCmds_length k 0 m
      simp only at b1
      have HM := veil hmk
      have HL := veil hml
      clear hrow hm hl hv1 ha1 hlx hmk hml
      go_wp2_with fail
      go_region_held3 (fun w' => w'.cell? ⟨bb, off + k, none⟩ = some (.slice x1 m c1))
        (first
          | exact (hbx.cell b1).trans r1
          | exact r1)
        (first
          | (go_at_call 130; refine (HM.out _).mono ?_; rintro e w5 ⟨u, rfl, hu, hb5⟩; obtain ⟨xu, cu, rfl, hua, _⟩ := OwnCmds.at_ hu; rw [HL.out]; have hbx : Below wr.heap.size wr w5 := (Below.refl _ _).drew.trans hb5; have hsm := same_Cmds x1 xu (marksCmds k 0 m) c1 cu w5 (HA.out.below hbx) hua (by rw [HL.out]; omega); rw [HL.out] at hsm; have HSM := veil hsm; clear hsm)
          | (go_at_call 113; refine HSM.out.mono ?_; rintro e w6 ⟨rfl, hb6⟩; have hbx := hbx.trans (hb6.mono hbx.size)))
      all_goals (
        have hb2 := hb.trans (hbx.mono hb.size)
        go_wp2
        go_roundw
        case rel => exact ⟨k + 1, by omega, by go_num, hb2⟩
        case measure => simp [intOf]; omega)
    · obtain rfl : k = vs.length := by omega
      go_wp2
      go_ret
      exact ⟨rfl, hb⟩

/-- Some of the book's lists have been grown; the others wait. -/
structure GrowICmds (kb : Nat) (w wr : World) (vs : List Value) (cs : List (List CmdS)) (gs : List Value) (k : Nat) : Prop where
  keep : Keeps (UT 68 kb w) w wr
  done1 : ∀ j (h1 : j < vs.length) (h2 : j < cs.length), j < k → ReadCmds wr vs[j] j cs[j].length
  done2 : ∀ j (h1 : j < gs.length) (h2 : j < cs.length), OwnCmds wr (kb + 1) gs[j] (marksCmds j 0 (cs[j].length + 72))
  todo : ∀ j (h1 : j < vs.length) (h2 : j < cs.length), k ≤ j → OwnCmds wr (kb + 1) vs[j] cs[j]
  far : ∀ j (h1 : j < gs.length) m (h2 : m < vs.length), k ≤ m → ∀ g, gs[j].ownBlock = some g → vs[m].ownBlock ≠ some g
  old : ∀ j (h1 : j < vs.length) g, vs[j].ownBlock = some g → g < w.heap.size
  keep2 : Keeps (fun g => ∃ j, ∃ h : j < vs.length, vs[j].ownBlock = some g) w wr
theorem growI_nextCmds {kb : Nat} {w wr wz we : World} {vs : List Value} {cs : List (List CmdS)} {gs : List Value} {k : Nat} {ov l2 : Value} (h : GrowICmds kb w wr vs cs gs k) (hk1 : k < vs.length) (hk2 : k < cs.length) (hgl : gs.length = k)
    (hap : ∀ i j (hi : i < vs.length) (hj : j < vs.length) g, vs[i].ownBlock = some g → vs[j].ownBlock = some g → i = j) (hcs : cs[k] = marksCmds k 0 cs[k].length)
    (hg : GrowAt 68 5 CmdS.cells wr wz (kb + 1) vs[k] l2 cs[k] (marksCmds k 0 (cs[k].length + 72))) (hov : wz.ownsRow w.heap.size 22 1 ov gs.length gs)
    (KB : Keeps (fun g => ov.ownBlock = some g) wz we) : GrowICmds kb w we vs cs (gs ++ [l2]) (k + 1) := by
  have KA := hg.keep
  have hsz := h.keep.size
  have hov1 := fun g hg => (own_lt hov (g := g) hg).1
  have hKA : ∀ {v : Value}, (∀ g, v.ownBlock = some g → ¬ vs[k].ownBlock = some g) → ∀ g, v.ownBlock = some g → ¬ (fun g => vs[k].ownBlock = some g) g := fun h g hg e => h g hg e
  refine ⟨?_, ?_, ?_, ?_, ?_, h.old, (h.keep2.trans KA (fun j hj e => ⟨k, hk1, e⟩)).trans KB (fun j hj e => by have := hov1 j e; omega)⟩
  · refine (h.keep.trans KA (fun j hj e => ?_)).trans KB (fun j hj e => ?_)
    · refine UT.back h.keep hj ?_
      obtain ⟨cur, hc⟩ := OwnG.typed (h.todo k hk1 hk2 (Nat.le_refl _)) e
      exact ⟨by have := (OwnG.lt (h.todo k hk1 hk2 (Nat.le_refl _)) e).1; omega, cur, hc⟩
    · have := hov1 j e
      omega
  · intro j h1 h2 hj
    by_cases hjk : j = k
    · subst hjk
      obtain ⟨x, c, hv, hr⟩ := hg.read
      refine ReadCmds.kept (S := fun g => ov.ownBlock = some g) (w := wz) ⟨x, c, hv, ?_⟩ KB (fun g hg e => ?_)
      · rw [← hcs]
        exact Cmds_of_row hr
      · have := h.old j h1 g hg
        have := hov1 g e
        omega
    · refine ((h.done1 j h1 h2 (by omega)).kept KA (fun g hg e => hjk (hap j k h1 hk1 g hg e))).kept KB (fun g hg e => ?_)
      have := h.old j h1 g hg
      have := hov1 g e
      omega
  · intro j h1 h2
    have hl : (gs ++ [l2]).length = k + 1 := by rw [List.length_append, hgl]; rfl
    rw [List.getElem_append]
    by_cases hjk : j < gs.length
    · rw [dif_pos hjk]
      have o1 := OwnG.kept (h.done2 j hjk h2) KA (fun g hg e => h.far j hjk k hk1 (Nat.le_refl _) g hg e)
      refine OwnG.kept o1 KB (fun g hg e => ?_)
      obtain ⟨c1, e1⟩ := OwnG.typed o1 hg
      obtain ⟨c2, e2⟩ := own_typed hov e
      exact types_ne e1 e2 (by decide)
    · rw [dif_neg hjk]
      obtain rfl : j = k := by omega
      simp only [hgl, Nat.sub_self, List.getElem_cons_zero]
      refine OwnG.kept hg.own KB (fun g hgg e => ?_)
      obtain ⟨c1, e1⟩ := OwnG.typed hg.own hgg
      obtain ⟨c2, e2⟩ := own_typed hov e
      exact types_ne e1 e2 (by decide)
  · intro j h1 h2 hj
    refine OwnG.kept (OwnG.kept (h.todo j h1 h2 (by omega)) KA (fun g hg e => by have := hap j k h1 hk1 g hg e; omega)) KB (fun g hg e => ?_)
    have := h.old j h1 g hg
    have := hov1 g e
    omega
  · intro j h1 m h2 hm g hgg
    rw [List.getElem_append] at hgg
    by_cases hjk : j < gs.length
    · rw [dif_pos hjk] at hgg
      exact h.far j hjk m h2 (by omega) g hgg
    · rw [dif_neg hjk] at hgg
      have hj2 : j - gs.length = 0 := by rw [List.length_append, List.length_singleton] at h1; omega
      simp only [hj2, List.getElem_cons_zero] at hgg
      intro hv
      rcases hg.place with hp | hp
      · rw [hp] at hgg
        have := hap k m hk1 h2 g hgg hv
        omega
      · have h3 := hp g hgg
        have h4 := h.old m h2 g hv
        omega

def GrownCmds (kb : Nat) (w : World) (vs : List Value) (cs : List (List CmdS)) (e : Ending) (w' : World) : Prop :=
  ∃ xo co gs, e = .returned (.slice xo gs.length co) ∧ gs.length = vs.length ∧ RowAt w' xo gs ∧ (∀ j (h1 : j < gs.length) (h2 : j < cs.length), ReadCmds w' gs[j] j (cs[j].length + 72)) ∧
    (∀ j (h1 : j < vs.length) (h2 : j < cs.length), ReadCmds w' vs[j] j cs[j].length) ∧ Keeps (UT 68 kb w) w w' ∧
    Keeps (fun g => ∃ j, ∃ h : j < vs.length, vs[j].ownBlock = some g) w w' ∧ w'.ownsRow w.heap.size 22 1 (.slice xo gs.length co) gs.length gs ∧ (∀ j (h1 : j < gs.length) (h2 : j < cs.length), OwnCmds w' (kb + 1) gs[j] (marksCmds j 0 (cs[j].length + 72)))

set_option maxHeartbeats 4000000 in
set_option maxRecDepth 100000 in
theorem grow_Cmds (kb : Nat) (f0 f1 f2 f3 f4 f5 f6 f7 f8 f9 f10 f11 f12 f13 f14 f15 f16 f17 : Value) (vs : List Value) (cs : List (List CmdS)) (w : World)
    (hk : Lies w kb 54 [f0, f1, f2, f3, f4, f5, f6, f7, f8, f9, f10, f11, f12, f13, f14, f15, f16, f17]) (hr : w.ownsRow (kb + 1) 22 1 f12 vs.length vs) (hfam : FamG 68 5 CmdS.cells w (kb + 1) vs cs) (hcs : ∀ j (h : j < cs.length), cs[j] = marksCmds j 0 cs[j].length)
    (hn : cs.length ≤ 250) (hl : ∀ l ∈ cs, l.length ≤ 100000) :
    Calls Tryz.prog 91 #[.pointer (some ⟨kb, 0, none⟩)] w (GrownCmds kb w vs cs) := by
  obtain ⟨i0, hi, hz0, hz1, hz2⟩ := info_parts infoSCmds
  obtain ⟨e0, he, hy0, hy1, hy2⟩ := info_parts infoCmd
  have hvl := hfam.len
  obtain ⟨xf, cf, rfl, hrow, _⟩ := own_slice hr
  have hkl := hk.lt
  have hstart : GrowICmds kb w w vs cs [] 0 := ⟨Keeps.rfl' _ _, fun j h1 h2 hj => absurd hj (Nat.not_lt_zero _), fun j h1 => absurd h1 (Nat.not_lt_zero _), fun j h1 h2 _ => hfam.own j h1 h2, fun j h1 => absurd h1 (Nat.not_lt_zero _), fun j h1 g hg => (OwnG.lt (hfam.own j h1 (by omega)) hg).2, Keeps.rfl' _ _⟩
  have HV := veil (And.intro hk (And.intro hr (And.intro hfam.apart (And.intro hcs (And.intro hl hvl)))))
  have HS := veil hstart
  have hvn : vs.length ≤ 250 := by omega
  clear hk hr hfam hcs hl hrow hstart hvl
  go_enter Tryz.func91, Tryz.ntmps91
  go_wp2_with fail
  go_loopw [3, 4] (fun o i wr => ∃ (k : Nat) (ov : Value) (gs : List Value), k ≤ vs.length ∧ i = .int .i64 k ∧ ov = o ∧ Hid (gs.length = k) ∧ wr.ownsRow w.heap.size 22 1 ov gs.length gs ∧ GrowICmds kb w wr vs cs gs k) (fun _ i _ => vs.length - (intOf i).toNat)
  case atStart => exact ⟨0, _, [], Nat.zero_le _, rfl, rfl, veil rfl, by simp [World.ownsRow], HS.out⟩
  case round =>
    obtain ⟨k, ov, gs, hkv, rfl, rfl, hgl, hown, hI⟩ := hrel
    obtain ⟨hk, hr, hap, hcs, hl, hvl⟩ := HV.out
    have l1 := UT.lies hI.keep hk (by decide)
    have hr1 := UT.own hI.keep hr (by decide)
    obtain ⟨xf2, cf2, e1, hrow, _⟩ := own_slice hr1
    injection e1 with e1 _ e2
    subst e1 e2
    have c12 := l1.cell 12
    have b3 := l1.lt
    have hsz := hI.keep.size
    simp at c12
    by_cases hlt : k < vs.length
    · have h3 : k < cs.length := by omega
      obtain ⟨x1, c1, hv1, ha1, _⟩ := OwnCmds.at_ (hI.todo k hlt h3 (Nat.le_refl _))
      obtain ⟨xo, co, rfl, hzz1, hzz2⟩ := own_slice hown
      clear hzz1 hzz2
      have hle := hl cs[k] (List.getElem_mem h3)
      have hck := hcs k h3
      obtain ⟨bb, off, rfl, r1⟩ := hrow k _ (by rw [List.getElem?_eq_getElem hlt, hv1])
      have hst := GrowAt.start (hI.todo k hlt h3 (Nat.le_refl _))
      obtain ⟨m, hm⟩ : ∃ m, m = cs[k].length := ⟨_, rfl⟩
      rw [← hm] at hv1 hle hck r1
      have hst2 : GrowAt 68 5 CmdS.cells wr wr (kb + 1) vs[k] (.slice x1 m c1) cs[k] (marksCmds k 0 (m + 0)) := by
        show GrowAt 68 5 CmdS.cells wr wr (kb + 1) vs[k] (.slice x1 m c1) cs[k] (marksCmds k 0 m)
        rw [← hv1, ← hck]
        exact hst
      have Hst := veil hst2
      have HI := veil (And.intro hI (And.intro hown (And.intro hv1 (And.intro hm hck))))
      have b1 := World.block_lt_of_cell? wr _ r1
      have i0' : (0 : Int) ≤ (k : Int) := by omega
      have i1 : (k : Int) < (vs.length : Int) := by omega
      clear hk hr hap hcs hl hvl hr1 hrow ha1 hst hst2 hI hown hv1 hm hck l1
      obtain ⟨wo, hwo⟩ : ∃ wo : World, wo = wr := ⟨_, rfl⟩
      rw [← hwo] at HI Hst c12 r1 b1 b3 hsz ⊢
      clear hwo wr
      go_wp2_with fail
      go_loopw [5, 6] (fun lv j wi => ∃ (a : Nat) (v : Value), a ≤ 12 ∧ j = .int .i64 a ∧ v = lv ∧ GrowAt 68 5 CmdS.cells wo wi (kb + 1) vs[k] v cs[k] (marksCmds k 0 (m + a))) (fun _ j _ => 12 - (intOf j).toNat)
      case atStart => exact ⟨0, _, Nat.zero_le _, rfl, rfl, Hst.out⟩
      case round =>
        obtain ⟨a, v, ha12, rfl, rfl, hG⟩ := hrel
        have hml := marksCmds_length k 0 (m + a)
        obtain ⟨xv, cv, rfl, _, _⟩ := own_slice hG.own
        rw [hml] at hG ⊢
        have hsi := hG.keep.size
        by_cases ha : a < 12
        · have hmk : ∀ W, Calls Tryz.prog 130 #[.int .i64 k, .int .i64 ((m : Int) + (a : Int)), .int .i64 1] W (MadeCmds W (marksCmds k (m + a : Nat) 1)) := fun W => mark_Cmds k (m + a) 1 W (by omega) (by omega) (by omega)
          have HG := veil hG
          have a1 : (a : Int) < 12 := by omega
          clear hG hml
          go_wp2_with fail
          refine (hmk _).mono ?_
          rintro e w5 ⟨u, rfl, hu, hb5⟩
          obtain ⟨xu, cu, rfl, hua, _⟩ := own_slice hu
          have hul := marksCmds_length k (m + a : Nat) 1
          rw [hul]
          have HU := veil hua
          have hG5 := HG.out.below hb5
          have H5 := veil hG5
          have hs5 := hb5.size
          clear hu hua hG5 hmk hul
          go_wp2_with (at_builtin; refine wpList_append_any rfl _ _ _ rfl (kb + 1) 68 e0 _ 5 72 Tryz.underlying22 he hy0 hy1 hy2 rfl (by omega) _ _ _ rfl H5.out.own xu 1 cu ((marksCmds k (m + a : Nat) 1).flatMap CmdS.cells) rfl (by rw [flat_Cmds, marksCmds_length]) HU.out (one_Cmds _) (by rw [marksCmds_length]; unfold maxLen; omega) (by rw [marksCmds_length]; omega) (by omega) ?_; intro x' cap' w6 hown6 hgrow6 hor6)
          have hnx : marksCmds k 0 (m + (a + 1)) = marksCmds k 0 (m + a) ++ marksCmds k (m + a : Nat) 1 := marksCmds_more k (m + a) 1
          have hstep := H5.out.step (M := marksCmds k (m + a : Nat) 1) hown6 (by rw [List.length_append, marksCmds_length, marksCmds_length]) hgrow6 hor6
          rw [← hnx] at hstep
          exact ⟨⟨a + 1, _, by omega, by go_num, rfl, hstep⟩, by simp [intOf]; omega⟩
        · obtain rfl : a = 12 := by omega
          have hmk : ∀ W, Calls Tryz.prog 130 #[.int .i64 k, .int .i64 ((m : Int) + 12), .int .i64 60] W (MadeCmds W (marksCmds k (m + 12 : Nat) 60)) := fun W => mark_Cmds k (m + 12) 60 W (by omega) (by omega) (by omega)
          have HG := veil hG
          clear hG hml
          go_wp2_with fail
          refine (hmk _).mono ?_
          rintro e w5 ⟨u, rfl, hu, hb5⟩
          obtain ⟨xu, cu, rfl, hua, _⟩ := own_slice hu
          have hul := marksCmds_length k (m + 12 : Nat) 60
          rw [hul]
          have HU := veil hua
          have hG5 := HG.out.below hb5
          have H5 := veil hG5
          have hs5 := hb5.size
          clear hu hua hG5 hmk hul
          go_wp2_with (first | (at_builtin; refine wpList_append_any rfl (.tmp 34) (.tmp 38) _ rfl (kb + 1) 68 e0 _ 5 72 Tryz.underlying22 he hy0 hy1 hy2 rfl (by omega) _ _ _ rfl H5.out.own xu 60 cu ((marksCmds k (m + 12 : Nat) 60).flatMap CmdS.cells) rfl (by rw [flat_Cmds, marksCmds_length]) HU.out (one_Cmds _) (by rw [marksCmds_length]; unfold maxLen; omega) (by rw [marksCmds_length]; omega) (by omega) ?_; intro x' cap' w6 hown6 hgrow6 hor6; have hstep := H5.out.step (M := marksCmds k (m + 12 : Nat) 60) hown6 (by rw [List.length_append, marksCmds_length, marksCmds_length]) hgrow6 hor6; have hov6 := own_keeps HI.out.2.1 hstep.keep (fun g hg e => by obtain ⟨q1, q2⟩ := own_typed HI.out.2.1 hg; obtain ⟨q3, q4⟩ := OwnG.typed (HI.out.1.todo k hlt h3 (Nat.le_refl _)) e; exact types_ne q4 q2 (by decide)); have hnew6 := World.news_of_block (cs := #[.slice x' ((marksCmds k 0 (m + 12)).length + 60) cap']) (t := 22) (fr := (0, 0)) (heap_alloc_new w6 _); have hs6 := hstep.keep.size; have HST := veil hstep; have HOV := veil hov6; have HGR := veil (And.intro hgrow6 hor6); clear hown6 hgrow6 hor6 hstep hov6) | (at_builtin; refine wpList_append_any rfl (.tmp 33) (.tmp 40) _ rfl w.heap.size 22 i0 _ 1 24 Tryz.underlying50 hi hz0 hz1 hz2 rfl (by omega) _ _ _ rfl (own_keeps (S := fun _ => False) HOV.out (Keeps.below ((Below.refl _ _).alloc (Nat.le_refl _) _) (fun j hj hj' => absurd hj (by omega))) (fun _ _ => id)) (some ⟨w6.heap.size, 0, none⟩) 1 1 [.slice x' ((marksCmds k 0 (m + 12)).length + 60) cap'] rfl rfl (by intro j u hj; refine ⟨w6.heap.size, 0, rfl, ?_⟩; have := hnew6 j u hj; rw [add_plain0] at this; rw [Nat.zero_add]; exact this) (by simp [Value.oneCell']) (by unfold maxLen; have := hgl.out; omega) (by have := hgl.out; omega) (by simp; omega) ?_; intro xo' co' w7 hown7 hgrow7 hor7))
          obtain ⟨hI, hown, hv1, hm, hck⟩ := HI.out
          obtain ⟨hk, hr, hap, hcs, hl, hvl⟩ := HV.out
          have KB : Keeps (fun g => (Value.slice xo gs.length co).ownBlock = some g) w6 w7 := ((Keeps.rfl' (fun g => (Value.slice xo gs.length co).ownBlock = some g) w6).alloc (.cells #[.slice x' ((marksCmds k 0 (m + 12)).length + 60) cap'] 22)).grown hgrow7 (fun k _ e => e)
          have hnx : marksCmds k 0 (m + 12) ++ marksCmds k (m + 12 : Nat) 60 = marksCmds k 0 (cs[k].length + 72) := by
            rw [← hm]
            exact (marksCmds_more k (m + 12) 60).symm
          have hG6 := HST.out
          rw [hnx] at hG6
          have hnext := growI_nextCmds hI hlt h3 hgl.out hap (by rw [← hm]; exact hck) hG6 HOV.out KB
          have hgl2 := hgl.out
          refine ⟨⟨k + 1, _, gs ++ [.slice x' ((marksCmds k 0 (m + 12)).length + 60) cap'], by omega, by go_num, rfl, veil (by rw [List.length_append, hgl2]; rfl), ?_, hnext⟩, by simp [intOf]; omega⟩
          rw [List.length_append]
          exact hown7
    · obtain rfl : k = vs.length := by omega
      obtain ⟨xo, co, rfl, hro, _⟩ := own_slice hown
      clear hk hr hap hl l1 hr1 hrow
      go_wp2
      go_ret
      exact ⟨xo, co, gs, rfl, hgl.out, hro, fun j h1 h2 => ReadCmds.of_own (hI.done2 j h1 h2), fun j h1 h2 => hI.done1 j h1 h2 h1, hI.keep, hI.keep2, hown, hI.done2⟩

end Go.Proofs.YtjonmggkmalgaaaGreatDoor
-- W73Replies
namespace Go.Proofs.YtjonmggkmalgaaaGreatDoor
open Go.RowKit Go.Lib
attribute [local go_sem ↓] Go.wp_at_zero Go.wp_at_succ

theorem fam_at_Replies {w : World} {base : Nat} {vs : List Value} {cs : List (List RepS)} (h : FamG 42 2 RepS.cells w base vs cs) (k : Nat) (h1 : k < vs.length) (h2 : k < cs.length) :
    ∃ x c, vs[k] = .slice x cs[k].length c ∧ RepsAt w x cs[k] := by
  obtain ⟨x, c, hv, ha, _⟩ := OwnReplies.at_ (h.own k h1 h2)
  exact ⟨x, c, hv, ha⟩

set_option maxHeartbeats 2000000 in
set_option maxRecDepth 100000 in
theorem still_Replies (kb B B' : Nat) (f0 f1 f2 f3 f4 f5 f6 f7 f8 f9 f10 f11 f12 f13 f14 f15 f16 f17 : Value) (cs : List (List RepS)) (w : World)
    (hk : Lies w kb 54 [f0, f1, f2, f3, f4, f5, f6, f7, f8, f9, f10, f11, f12, f13, f14, f15, f16, f17]) (hf : FieldG 42 39 2 RepS.cells w kb B f10 cs) (hw : FieldG 42 39 2 RepS.cells w kb B' f11 cs) (hn : cs.length ≤ 250) (hl : ∀ l ∈ cs, l.length ≤ 100000) :
    Calls Tryz.prog 72 #[.pointer (some ⟨kb, 0, none⟩)] w (BoolPost w true) := by
  obtain ⟨vs, hr, hfam, _⟩ := hf
  obtain ⟨ws, hwr, hwfam, _⟩ := hw
  have hvl := hfam.len
  have hwl := hwfam.len
  obtain ⟨xf, cf, rfl, hrow, _⟩ := own_slice hr
  obtain ⟨xw, cw, rfl, hwrow, _⟩ := own_slice hwr
  have HV := veil (And.intro hrow (And.intro hwrow (And.intro hfam hwfam)))
  have HK := veil (And.intro hk hl)
  have hkl := hk.lt
  clear hr hwr hfam hwfam hrow hwrow hk hl
  go_enter Tryz.func72, Tryz.ntmps72
  go_wp2_with fail
  go_loopw [3] (fun i wr => ∃ k : Nat, k ≤ vs.length ∧ i = .int .i64 k ∧ Below w.heap.size w wr) (fun i _ => vs.length - (intOf i).toNat)
  case atStart => exact ⟨0, Nat.zero_le _, rfl, Below.refl _ _⟩
  case round =>
    obtain ⟨k, hkv, rfl, hb⟩ := hrel
    have l1 := HK.out.1.below hb hkl
    have c10 := l1.cell 10
    have c11 := l1.cell 11
    simp at c10 c11
    by_cases hlt : k < vs.length
    · have h2 : k < ws.length := by omega
      have h3 : k < cs.length := by omega
      obtain ⟨hrow, hwrow, hfam, hwfam⟩ := HV.out
      obtain ⟨x1, c1, hv1, ha1⟩ := fam_at_Replies hfam k hlt h3
      obtain ⟨x2, c2, hv2, ha2⟩ := fam_at_Replies hwfam k h2 h3
      have hle := HK.out.2 cs[k] (List.getElem_mem h3)
      obtain ⟨bb, off, rfl, r1⟩ := (hrow.below hb) k _ (by rw [List.getElem?_eq_getElem hlt, hv1])
      obtain ⟨bc, off2, rfl, r2⟩ := (hwrow.below hb) k _ (by rw [List.getElem?_eq_getElem h2, hv2])
      obtain ⟨l, hlx⟩ : ∃ l, l = cs[k] := ⟨_, rfl⟩
      rw [← hlx] at hv1 hv2 ha1 ha2 hle r1 r2
      have HA := veil (And.intro (ha1.below hb) (ha2.below hb))
      have b1 := World.block_lt_of_cell? wr _ r1
      have b2 := World.block_lt_of_cell? wr _ r2
      have b3 := l1.lt
      have i0 : (0 : Int) ≤ (k : Int) := by omega
      have i1 : (k : Int) < (vs.length : Int) := by omega
      have i2 : (k : Int) < (ws.length : Int) := by omega
      simp only at b1 b2
      clear hrow hwrow hfam hwfam hv1 hv2 ha1 ha2 hlx l1
      go_wp2_with fail
      go_region_held3 (fun w' => w'.cell? ⟨kb, 10, none⟩ = some (.slice (some ⟨bb, off, none⟩) vs.length cf) ∧ w'.cell? ⟨kb, 11, none⟩ = some (.slice (some ⟨bc, off2, none⟩) ws.length cw) ∧ w'.cell? ⟨bb, off + k, none⟩ = some (.slice x1 l.length c1) ∧ w'.cell? ⟨bc, off2 + k, none⟩ = some (.slice x2 l.length c2))
        (first
          | exact ⟨(hbx.cell b3).trans c10, (hbx.cell b3).trans c11, (hbx.cell b1).trans r1, (hbx.cell b2).trans r2⟩
          | exact ⟨c10, c11, r1, r2⟩)
        ((go_at_call 120; refine (same_Replies _ _ l _ _ _ (HA.out.1.below (Below.refl _ _).drew) (HA.out.2.below (Below.refl _ _).drew) (by omega)).mono ?_; rintro e w5 ⟨rfl, hb5⟩; have hbx : Below wr.heap.size wr w5 := (Below.refl _ _).drew.trans hb5))
      all_goals (
        have hb2 := hb.trans (hbx.mono hb.size)
        go_wp2
        go_roundw
        case rel => exact ⟨k + 1, by omega, by go_num, hb2⟩
        case measure => simp [intOf]; omega)
    · obtain rfl : k = vs.length := by omega
      go_wp2
      go_ret
      exact ⟨rfl, hb⟩

/-- The slice v reads as the marks of list j, so many of them. -/
def ReadReplies (w : World) (v : Value) (j m : Nat) : Prop := ∃ x c, v = .slice x m c ∧ RepsAt w x (marksReplies j 0 m)
theorem ReadReplies.below {w w' : World} {v : Value} {j m : Nat} (h : ReadReplies w v j m) (hb : Below w.heap.size w w') : ReadReplies w' v j m := by
  obtain ⟨x, c, hv, ha⟩ := h
  exact ⟨x, c, hv, ha.below hb⟩
theorem ReadReplies.kept {S : Nat → Prop} {w w' : World} {v : Value} {j m : Nat} (h : ReadReplies w v j m) (hk : Keeps S w w') (hn : ∀ g, v.ownBlock = some g → ¬ S g) : ReadReplies w' v j m := by
  obtain ⟨x, c, hv, ha⟩ := h
  refine ⟨x, c, hv, Replies_of_row ((row_of_Replies ha).kept hk (fun a hx => hn _ ?_))⟩
  subst hv hx
  rfl
theorem ReadReplies.of_own {w : World} {base j m : Nat} {v : Value} (h : OwnReplies w base v (marksReplies j 0 m)) : ReadReplies w v j m := by
  obtain ⟨x, c, hv, ha, _⟩ := OwnReplies.at_ h
  rw [marksReplies_length] at hv
  exact ⟨x, c, hv, ha⟩

set_option maxHeartbeats 2000000 in
set_option maxRecDepth 100000 in
theorem marked_Replies (x : Option Addr) (c : Nat) (vs : List Value) (ns : List Nat) (w : World) (hrow : RowAt w x vs) (hv : vs.length = ns.length) (hm : ∀ k (h1 : k < vs.length) (h2 : k < ns.length), ReadReplies w vs[k] k ns[k]) (hn : vs.length ≤ 300) (hl : ∀ m ∈ ns, m ≤ 200000) :
    Calls Tryz.prog 99 #[.slice x vs.length c] w (BoolPost w true) := by
  have HV := veil (And.intro hrow (And.intro hm hl))
  have HN := veil hv
  clear hrow hm hl hv
  go_enter Tryz.func99, Tryz.ntmps99
  go_wp2_with fail
  go_loopw [3] (fun i wr => ∃ k : Nat, k ≤ vs.length ∧ i = .int .i64 k ∧ Below w.heap.size w wr) (fun i _ => vs.length - (intOf i).toNat)
  case atStart => exact ⟨0, Nat.zero_le _, rfl, Below.refl _ _⟩
  case round =>
    obtain ⟨k, hkv, rfl, hb⟩ := hrel
    by_cases hlt : k < vs.length
    · have h3 : k < ns.length := by have := HN.out; omega
      obtain ⟨hrow, hm, hl⟩ := HV.out
      obtain ⟨x1, c1, hv1, ha1⟩ := hm k hlt h3
      have hle := hl ns[k] (List.getElem_mem h3)
      obtain ⟨bb, off, rfl, r1⟩ := (hrow.below hb) k _ (by rw [List.getElem?_eq_getElem hlt, hv1])
      obtain ⟨m, hlx⟩ : ∃ m, m = ns[k] := ⟨_, rfl⟩
      rw [← hlx] at hv1 ha1 hle r1
      have HA := veil (ha1.below hb)
      have b1 := World.block_lt_of_cell? wr _ r1
      have i0 : (0 : Int) ≤ (k : Int) := by omega
      have i1 : (k : Int) < (vs.length : Int) := by omega
      have hmk : ∀ W, Calls Tryz.prog 129 #[.int .i64 k, .int .i64 0, .int .i64 m] W (MadeReplies W (marksReplies k 0 m)) := fun W => mark_Replies k 0 m W (by omega) (by omega) (by omega)
      have hml := marksReplies_length k 0 m
      simp only at b1
      have HM := veil hmk
      have HL := veil hml
      clear hrow hm hl hv1 ha1 hlx hmk hml
      go_wp2_with fail
      go_region_held3 (fun w' => w'.cell? ⟨bb, off + k, none⟩ = some (.slice x1 m c1))
        (first
          | exact (hbx.cell b1).trans r1
          | exact r1)
        (first
          | (go_at_call 129; refine (HM.out _).mono ?_; rintro e w5 ⟨u, rfl, hu, hb5⟩; obtain ⟨xu, cu, rfl, hua, _⟩ := OwnReplies.at_ hu; rw [HL.out]; have hbx : Below wr.heap.size wr w5 := (Below.refl _ _).drew.trans hb5; have hsm := same_Replies x1 xu (marksReplies k 0 m) c1 cu w5 (HA.out.below hbx) hua (by rw [HL.out]; omega); rw [HL.out] at hsm; have HSM := veil hsm; clear hsm)
          | (go_at_call 120; refine HSM.out.mono ?_; rintro e w6 ⟨rfl, hb6⟩; have hbx := hbx.trans (hb6.mono hbx.size)))
      all_goals (
        have hb2 := hb.trans (hbx.mono hb.size)
        go_wp2
        go_roundw
        case rel => exact ⟨k + 1, by omega, by go_num, hb2⟩
        case measure => simp [intOf]; omega)
    · obtain rfl : k = vs.length := by omega
      go_wp2
      go_ret
      exact ⟨rfl, hb⟩

/-- Some of the book's lists have been grown; the others wait. -/
structure GrowIReplies (kb : Nat) (w wr : World) (vs : List Value) (cs : List (List RepS)) (gs : List Value) (k : Nat) : Prop where
  keep : Keeps (UT 42 kb w) w wr
  done1 : ∀ j (h1 : j < vs.length) (h2 : j < cs.length), j < k → ReadReplies wr vs[j] j cs[j].length
  done2 : ∀ j (h1 : j < gs.length) (h2 : j < cs.length), OwnReplies wr (kb + 1) gs[j] (marksReplies j 0 (cs[j].length + 72))
  todo : ∀ j (h1 : j < vs.length) (h2 : j < cs.length), k ≤ j → OwnReplies wr (kb + 1) vs[j] cs[j]
  far : ∀ j (h1 : j < gs.length) m (h2 : m < vs.length), k ≤ m → ∀ g, gs[j].ownBlock = some g → vs[m].ownBlock ≠ some g
  old : ∀ j (h1 : j < vs.length) g, vs[j].ownBlock = some g → g < w.heap.size
  keep2 : Keeps (fun g => ∃ j, ∃ h : j < vs.length, vs[j].ownBlock = some g) w wr
theorem growI_nextReplies {kb : Nat} {w wr wz we : World} {vs : List Value} {cs : List (List RepS)} {gs : List Value} {k : Nat} {ov l2 : Value} (h : GrowIReplies kb w wr vs cs gs k) (hk1 : k < vs.length) (hk2 : k < cs.length) (hgl : gs.length = k)
    (hap : ∀ i j (hi : i < vs.length) (hj : j < vs.length) g, vs[i].ownBlock = some g → vs[j].ownBlock = some g → i = j) (hcs : cs[k] = marksReplies k 0 cs[k].length)
    (hg : GrowAt 42 2 RepS.cells wr wz (kb + 1) vs[k] l2 cs[k] (marksReplies k 0 (cs[k].length + 72))) (hov : wz.ownsRow w.heap.size 39 1 ov gs.length gs)
    (KB : Keeps (fun g => ov.ownBlock = some g) wz we) : GrowIReplies kb w we vs cs (gs ++ [l2]) (k + 1) := by
  have KA := hg.keep
  have hsz := h.keep.size
  have hov1 := fun g hg => (own_lt hov (g := g) hg).1
  have hKA : ∀ {v : Value}, (∀ g, v.ownBlock = some g → ¬ vs[k].ownBlock = some g) → ∀ g, v.ownBlock = some g → ¬ (fun g => vs[k].ownBlock = some g) g := fun h g hg e => h g hg e
  refine ⟨?_, ?_, ?_, ?_, ?_, h.old, (h.keep2.trans KA (fun j hj e => ⟨k, hk1, e⟩)).trans KB (fun j hj e => by have := hov1 j e; omega)⟩
  · refine (h.keep.trans KA (fun j hj e => ?_)).trans KB (fun j hj e => ?_)
    · refine UT.back h.keep hj ?_
      obtain ⟨cur, hc⟩ := OwnG.typed (h.todo k hk1 hk2 (Nat.le_refl _)) e
      exact ⟨by have := (OwnG.lt (h.todo k hk1 hk2 (Nat.le_refl _)) e).1; omega, cur, hc⟩
    · have := hov1 j e
      omega
  · intro j h1 h2 hj
    by_cases hjk : j = k
    · subst hjk
      obtain ⟨x, c, hv, hr⟩ := hg.read
      refine ReadReplies.kept (S := fun g => ov.ownBlock = some g) (w := wz) ⟨x, c, hv, ?_⟩ KB (fun g hg e => ?_)
      · rw [← hcs]
        exact Replies_of_row hr
      · have := h.old j h1 g hg
        have := hov1 g e
        omega
    · refine ((h.done1 j h1 h2 (by omega)).kept KA (fun g hg e => hjk (hap j k h1 hk1 g hg e))).kept KB (fun g hg e => ?_)
      have := h.old j h1 g hg
      have := hov1 g e
      omega
  · intro j h1 h2
    have hl : (gs ++ [l2]).length = k + 1 := by rw [List.length_append, hgl]; rfl
    rw [List.getElem_append]
    by_cases hjk : j < gs.length
    · rw [dif_pos hjk]
      have o1 := OwnG.kept (h.done2 j hjk h2) KA (fun g hg e => h.far j hjk k hk1 (Nat.le_refl _) g hg e)
      refine OwnG.kept o1 KB (fun g hg e => ?_)
      obtain ⟨c1, e1⟩ := OwnG.typed o1 hg
      obtain ⟨c2, e2⟩ := own_typed hov e
      exact types_ne e1 e2 (by decide)
    · rw [dif_neg hjk]
      obtain rfl : j = k := by omega
      simp only [hgl, Nat.sub_self, List.getElem_cons_zero]
      refine OwnG.kept hg.own KB (fun g hgg e => ?_)
      obtain ⟨c1, e1⟩ := OwnG.typed hg.own hgg
      obtain ⟨c2, e2⟩ := own_typed hov e
      exact types_ne e1 e2 (by decide)
  · intro j h1 h2 hj
    refine OwnG.kept (OwnG.kept (h.todo j h1 h2 (by omega)) KA (fun g hg e => by have := hap j k h1 hk1 g hg e; omega)) KB (fun g hg e => ?_)
    have := h.old j h1 g hg
    have := hov1 g e
    omega
  · intro j h1 m h2 hm g hgg
    rw [List.getElem_append] at hgg
    by_cases hjk : j < gs.length
    · rw [dif_pos hjk] at hgg
      exact h.far j hjk m h2 (by omega) g hgg
    · rw [dif_neg hjk] at hgg
      have hj2 : j - gs.length = 0 := by rw [List.length_append, List.length_singleton] at h1; omega
      simp only [hj2, List.getElem_cons_zero] at hgg
      intro hv
      rcases hg.place with hp | hp
      · rw [hp] at hgg
        have := hap k m hk1 h2 g hgg hv
        omega
      · have h3 := hp g hgg
        have h4 := h.old m h2 g hv
        omega

def GrownReplies (kb : Nat) (w : World) (vs : List Value) (cs : List (List RepS)) (e : Ending) (w' : World) : Prop :=
  ∃ xo co gs, e = .returned (.slice xo gs.length co) ∧ gs.length = vs.length ∧ RowAt w' xo gs ∧ (∀ j (h1 : j < gs.length) (h2 : j < cs.length), ReadReplies w' gs[j] j (cs[j].length + 72)) ∧
    (∀ j (h1 : j < vs.length) (h2 : j < cs.length), ReadReplies w' vs[j] j cs[j].length) ∧ Keeps (UT 42 kb w) w w' ∧
    Keeps (fun g => ∃ j, ∃ h : j < vs.length, vs[j].ownBlock = some g) w w' ∧ w'.ownsRow w.heap.size 39 1 (.slice xo gs.length co) gs.length gs ∧ (∀ j (h1 : j < gs.length) (h2 : j < cs.length), OwnReplies w' (kb + 1) gs[j] (marksReplies j 0 (cs[j].length + 72)))

set_option maxHeartbeats 4000000 in
set_option maxRecDepth 100000 in
theorem grow_Replies (kb : Nat) (f0 f1 f2 f3 f4 f5 f6 f7 f8 f9 f10 f11 f12 f13 f14 f15 f16 f17 : Value) (vs : List Value) (cs : List (List RepS)) (w : World)
    (hk : Lies w kb 54 [f0, f1, f2, f3, f4, f5, f6, f7, f8, f9, f10, f11, f12, f13, f14, f15, f16, f17]) (hr : w.ownsRow (kb + 1) 39 1 f10 vs.length vs) (hfam : FamG 42 2 RepS.cells w (kb + 1) vs cs) (hcs : ∀ j (h : j < cs.length), cs[j] = marksReplies j 0 cs[j].length)
    (hn : cs.length ≤ 250) (hl : ∀ l ∈ cs, l.length ≤ 100000) :
    Calls Tryz.prog 90 #[.pointer (some ⟨kb, 0, none⟩)] w (GrownReplies kb w vs cs) := by
  obtain ⟨i0, hi, hz0, hz1, hz2⟩ := info_parts infoSReplies
  obtain ⟨e0, he, hy0, hy1, hy2⟩ := info_parts infoRep
  have hvl := hfam.len
  obtain ⟨xf, cf, rfl, hrow, _⟩ := own_slice hr
  have hkl := hk.lt
  have hstart : GrowIReplies kb w w vs cs [] 0 := ⟨Keeps.rfl' _ _, fun j h1 h2 hj => absurd hj (Nat.not_lt_zero _), fun j h1 => absurd h1 (Nat.not_lt_zero _), fun j h1 h2 _ => hfam.own j h1 h2, fun j h1 => absurd h1 (Nat.not_lt_zero _), fun j h1 g hg => (OwnG.lt (hfam.own j h1 (by omega)) hg).2, Keeps.rfl' _ _⟩
  have HV := veil (And.intro hk (And.intro hr (And.intro hfam.apart (And.intro hcs (And.intro hl hvl)))))
  have HS := veil hstart
  have hvn : vs.length ≤ 250 := by omega
  clear hk hr hfam hcs hl hrow hstart hvl
  go_enter Tryz.func90, Tryz.ntmps90
  go_wp2_with fail
  go_loopw [3, 4] (fun o i wr => ∃ (k : Nat) (ov : Value) (gs : List Value), k ≤ vs.length ∧ i = .int .i64 k ∧ ov = o ∧ Hid (gs.length = k) ∧ wr.ownsRow w.heap.size 39 1 ov gs.length gs ∧ GrowIReplies kb w wr vs cs gs k) (fun _ i _ => vs.length - (intOf i).toNat)
  case atStart => exact ⟨0, _, [], Nat.zero_le _, rfl, rfl, veil rfl, by simp [World.ownsRow], HS.out⟩
  case round =>
    obtain ⟨k, ov, gs, hkv, rfl, rfl, hgl, hown, hI⟩ := hrel
    obtain ⟨hk, hr, hap, hcs, hl, hvl⟩ := HV.out
    have l1 := UT.lies hI.keep hk (by decide)
    have hr1 := UT.own hI.keep hr (by decide)
    obtain ⟨xf2, cf2, e1, hrow, _⟩ := own_slice hr1
    injection e1 with e1 _ e2
    subst e1 e2
    have c10 := l1.cell 10
    have b3 := l1.lt
    have hsz := hI.keep.size
    simp at c10
    by_cases hlt : k < vs.length
    · have h3 : k < cs.length := by omega
      obtain ⟨x1, c1, hv1, ha1, _⟩ := OwnReplies.at_ (hI.todo k hlt h3 (Nat.le_refl _))
      obtain ⟨xo, co, rfl, hzz1, hzz2⟩ := own_slice hown
      clear hzz1 hzz2
      have hle := hl cs[k] (List.getElem_mem h3)
      have hck := hcs k h3
      obtain ⟨bb, off, rfl, r1⟩ := hrow k _ (by rw [List.getElem?_eq_getElem hlt, hv1])
      have hst := GrowAt.start (hI.todo k hlt h3 (Nat.le_refl _))
      obtain ⟨m, hm⟩ : ∃ m, m = cs[k].length := ⟨_, rfl⟩
      rw [← hm] at hv1 hle hck r1
      have hst2 : GrowAt 42 2 RepS.cells wr wr (kb + 1) vs[k] (.slice x1 m c1) cs[k] (marksReplies k 0 (m + 0)) := by
        show GrowAt 42 2 RepS.cells wr wr (kb + 1) vs[k] (.slice x1 m c1) cs[k] (marksReplies k 0 m)
        rw [← hv1, ← hck]
        exact hst
      have Hst := veil hst2
      have HI := veil (And.intro hI (And.intro hown (And.intro hv1 (And.intro hm hck))))
      have b1 := World.block_lt_of_cell? wr _ r1
      have i0' : (0 : Int) ≤ (k : Int) := by omega
      have i1 : (k : Int) < (vs.length : Int) := by omega
      clear hk hr hap hcs hl hvl hr1 hrow ha1 hst hst2 hI hown hv1 hm hck l1
      obtain ⟨wo, hwo⟩ : ∃ wo : World, wo = wr := ⟨_, rfl⟩
      rw [← hwo] at HI Hst c10 r1 b1 b3 hsz ⊢
      clear hwo wr
      go_wp2_with fail
      go_loopw [5, 6] (fun lv j wi => ∃ (a : Nat) (v : Value), a ≤ 12 ∧ j = .int .i64 a ∧ v = lv ∧ GrowAt 42 2 RepS.cells wo wi (kb + 1) vs[k] v cs[k] (marksReplies k 0 (m + a))) (fun _ j _ => 12 - (intOf j).toNat)
      case atStart => exact ⟨0, _, Nat.zero_le _, rfl, rfl, Hst.out⟩
      case round =>
        obtain ⟨a, v, ha12, rfl, rfl, hG⟩ := hrel
        have hml := marksReplies_length k 0 (m + a)
        obtain ⟨xv, cv, rfl, _, _⟩ := own_slice hG.own
        rw [hml] at hG ⊢
        have hsi := hG.keep.size
        by_cases ha : a < 12
        · have hmk : ∀ W, Calls Tryz.prog 129 #[.int .i64 k, .int .i64 ((m : Int) + (a : Int)), .int .i64 1] W (MadeReplies W (marksReplies k (m + a : Nat) 1)) := fun W => mark_Replies k (m + a) 1 W (by omega) (by omega) (by omega)
          have HG := veil hG
          have a1 : (a : Int) < 12 := by omega
          clear hG hml
          go_wp2_with fail
          refine (hmk _).mono ?_
          rintro e w5 ⟨u, rfl, hu, hb5⟩
          obtain ⟨xu, cu, rfl, hua, _⟩ := own_slice hu
          have hul := marksReplies_length k (m + a : Nat) 1
          rw [hul]
          have HU := veil hua
          have hG5 := HG.out.below hb5
          have H5 := veil hG5
          have hs5 := hb5.size
          clear hu hua hG5 hmk hul
          go_wp2_with (at_builtin; refine wpList_append_any rfl _ _ _ rfl (kb + 1) 42 e0 _ 2 24 Tryz.underlying39 he hy0 hy1 hy2 rfl (by omega) _ _ _ rfl H5.out.own xu 1 cu ((marksReplies k (m + a : Nat) 1).flatMap RepS.cells) rfl (by rw [flat_Replies, marksReplies_length]) HU.out (one_Replies _) (by rw [marksReplies_length]; unfold maxLen; omega) (by rw [marksReplies_length]; omega) (by omega) ?_; intro x' cap' w6 hown6 hgrow6 hor6)
          have hnx : marksReplies k 0 (m + (a + 1)) = marksReplies k 0 (m + a) ++ marksReplies k (m + a : Nat) 1 := marksReplies_more k (m + a) 1
          have hstep := H5.out.step (M := marksReplies k (m + a : Nat) 1) hown6 (by rw [List.length_append, marksReplies_length, marksReplies_length]) hgrow6 hor6
          rw [← hnx] at hstep
          exact ⟨⟨a + 1, _, by omega, by go_num, rfl, hstep⟩, by simp [intOf]; omega⟩
        · obtain rfl : a = 12 := by omega
          have hmk : ∀ W, Calls Tryz.prog 129 #[.int .i64 k, .int .i64 ((m : Int) + 12), .int .i64 60] W (MadeReplies W (marksReplies k (m + 12 : Nat) 60)) := fun W => mark_Replies k (m + 12) 60 W (by omega) (by omega) (by omega)
          have HG := veil hG
          clear hG hml
          go_wp2_with fail
          refine (hmk _).mono ?_
          rintro e w5 ⟨u, rfl, hu, hb5⟩
          obtain ⟨xu, cu, rfl, hua, _⟩ := own_slice hu
          have hul := marksReplies_length k (m + 12 : Nat) 60
          rw [hul]
          have HU := veil hua
          have hG5 := HG.out.below hb5
          have H5 := veil hG5
          have hs5 := hb5.size
          clear hu hua hG5 hmk hul
          go_wp2_with (first | (at_builtin; refine wpList_append_any rfl (.tmp 34) (.tmp 38) _ rfl (kb + 1) 42 e0 _ 2 24 Tryz.underlying39 he hy0 hy1 hy2 rfl (by omega) _ _ _ rfl H5.out.own xu 60 cu ((marksReplies k (m + 12 : Nat) 60).flatMap RepS.cells) rfl (by rw [flat_Replies, marksReplies_length]) HU.out (one_Replies _) (by rw [marksReplies_length]; unfold maxLen; omega) (by rw [marksReplies_length]; omega) (by omega) ?_; intro x' cap' w6 hown6 hgrow6 hor6; have hstep := H5.out.step (M := marksReplies k (m + 12 : Nat) 60) hown6 (by rw [List.length_append, marksReplies_length, marksReplies_length]) hgrow6 hor6; have hov6 := own_keeps HI.out.2.1 hstep.keep (fun g hg e => by obtain ⟨q1, q2⟩ := own_typed HI.out.2.1 hg; obtain ⟨q3, q4⟩ := OwnG.typed (HI.out.1.todo k hlt h3 (Nat.le_refl _)) e; exact types_ne q4 q2 (by decide)); have hnew6 := World.news_of_block (cs := #[.slice x' ((marksReplies k 0 (m + 12)).length + 60) cap']) (t := 39) (fr := (0, 0)) (heap_alloc_new w6 _); have hs6 := hstep.keep.size; have HST := veil hstep; have HOV := veil hov6; have HGR := veil (And.intro hgrow6 hor6); clear hown6 hgrow6 hor6 hstep hov6) | (at_builtin; refine wpList_append_any rfl (.tmp 33) (.tmp 40) _ rfl w.heap.size 39 i0 _ 1 24 Tryz.underlying49 hi hz0 hz1 hz2 rfl (by omega) _ _ _ rfl (own_keeps (S := fun _ => False) HOV.out (Keeps.below ((Below.refl _ _).alloc (Nat.le_refl _) _) (fun j hj hj' => absurd hj (by omega))) (fun _ _ => id)) (some ⟨w6.heap.size, 0, none⟩) 1 1 [.slice x' ((marksReplies k 0 (m + 12)).length + 60) cap'] rfl rfl (by intro j u hj; refine ⟨w6.heap.size, 0, rfl, ?_⟩; have := hnew6 j u hj; rw [add_plain0] at this; rw [Nat.zero_add]; exact this) (by simp [Value.oneCell']) (by unfold maxLen; have := hgl.out; omega) (by have := hgl.out; omega) (by simp; omega) ?_; intro xo' co' w7 hown7 hgrow7 hor7))
          obtain ⟨hI, hown, hv1, hm, hck⟩ := HI.out
          obtain ⟨hk, hr, hap, hcs, hl, hvl⟩ := HV.out
          have KB : Keeps (fun g => (Value.slice xo gs.length co).ownBlock = some g) w6 w7 := ((Keeps.rfl' (fun g => (Value.slice xo gs.length co).ownBlock = some g) w6).alloc (.cells #[.slice x' ((marksReplies k 0 (m + 12)).length + 60) cap'] 39)).grown hgrow7 (fun k _ e => e)
          have hnx : marksReplies k 0 (m + 12) ++ marksReplies k (m + 12 : Nat) 60 = marksReplies k 0 (cs[k].length + 72) := by
            rw [← hm]
            exact (marksReplies_more k (m + 12) 60).symm
          have hG6 := HST.out
          rw [hnx] at hG6
          have hnext := growI_nextReplies hI hlt h3 hgl.out hap (by rw [← hm]; exact hck) hG6 HOV.out KB
          have hgl2 := hgl.out
          refine ⟨⟨k + 1, _, gs ++ [.slice x' ((marksReplies k 0 (m + 12)).length + 60) cap'], by omega, by go_num, rfl, veil (by rw [List.length_append, hgl2]; rfl), ?_, hnext⟩, by simp [intOf]; omega⟩
          rw [List.length_append]
          exact hown7
    · obtain rfl : k = vs.length := by omega
      obtain ⟨xo, co, rfl, hro, _⟩ := own_slice hown
      clear hk hr hap hl l1 hr1 hrow
      go_wp2
      go_ret
      exact ⟨xo, co, gs, rfl, hgl.out, hro, fun j h1 h2 => ReadReplies.of_own (hI.done2 j h1 h2), fun j h1 h2 => hI.done1 j h1 h2 h1, hI.keep, hI.keep2, hown, hI.done2⟩

end Go.Proofs.YtjonmggkmalgaaaGreatDoor

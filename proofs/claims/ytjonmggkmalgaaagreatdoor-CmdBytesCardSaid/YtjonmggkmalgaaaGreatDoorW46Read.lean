/-
  cmd.Read at whatever bytes.
-/
import Derived.Test.YtjonmggkmalgaaaGreatDoorW45Read
namespace Go.Proofs.YtjonmggkmalgaaaGreatDoor
open Go.RowKit Go.Lib
attribute [local go_sem ↓] Go.wp_at_zero Go.wp_at_succ

def ReadPost (w : World) (r : ReqS) (err : Int) (e : Ending) (w' : World) : Prop :=
  ∃ v, e = .returned (.tuple #[.agg #[.int .i64 r.client, .int .i64 r.seq, v], .int .i64 err]) ∧ CmdsOwn w' w.heap.size v r.cmds ∧ Below w.heap.size w w'

/-- What the loop holds: the reader at g, the request at rb with the row of its own. -/
structure RdAt (w0 w : World) (g rb : Nat) (s : GetS) (c q : Int) (v : Value) (l : List CmdS) : Prop where
  get : GetAt w g s
  req : Lies w rb 24 [.int .i64 c, .int .i64 q, v]
  own : CmdsOwn w w0.heap.size v l
  below : Below w0.heap.size w0 w
  newg : w0.heap.size ≤ g
  newr : w0.heap.size ≤ rb

section
variable {w0 w w' : World} {g rb : Nat} {s s' : GetS} {c q : Int} {v : Value} {l : List CmdS}
theorem RdAt.ne (h : RdAt w0 w g rb s c q v l) : g ≠ rb := Lies.ne_of_type h.get h.req (by decide)
/-- The reader has read on. -/
theorem RdAt.read (h : RdAt w0 w g rb s c q v l) (hg : GetAt w' g s') (hk : Keeps (fun k => k = g) w w') : RdAt w0 w' g rb s' c q v l := by
  have hn := h.newg
  have hz := h.below.size
  exact ⟨hg, h.req.kept hk (fun e => h.ne e.symm), h.own.kept hk (fun j hj e => h.own.ne h.get (by decide) (by rw [hj, e])), h.below.trans (hk.toBelow hz (fun j hj => by omega)), h.newg, h.newr⟩
theorem RdAt.alloc (h : RdAt w0 w g rb s c q v l) (o : Obj) : RdAt w0 (w.alloc o) g rb s c q v l := by
  have hb : Below w.heap.size w (w.alloc o) := (Below.refl _ _).alloc (Nat.le_refl _) _
  exact ⟨Lies.alloc h.get o, h.req.alloc o, h.own.below hb, h.below.alloc h.below.size o, h.newg, h.newr⟩
/-- A cell of a block of a command has been set. -/
theorem RdAt.set {b : Nat} {cs : List Value} (h : RdAt w0 w g rb s c q v l) (hb : Lies w b 68 cs) (hn : v.ownBlock ≠ some b) (hw : w0.heap.size ≤ b) (i : Nat) (u : Value) : RdAt w0 (w.setCell ⟨b, i, none⟩ u) g rb s c q v l := by
  have hk : Keeps (fun k => k = b) w (w.setCell ⟨b, i, none⟩ u) := Keeps.setCell (S := fun k => k = b) (p := ⟨b, i, none⟩) (Keeps.rfl' _ _) (.inr rfl) _
  exact ⟨Lies.far h.get (Lies.ne_of_type h.get hb (by decide)) u, h.req.far (h.req.ne_of_type hb (by decide)) u, h.own.kept hk (fun j hj e => hn (by rw [hj, e])), h.below.setCell hw u, h.newg, h.newr⟩
theorem RdAt.setseq (h : RdAt w0 w g rb s c q v l) (q' : Int) : RdAt w0 (w.setCell ⟨rb, 1, none⟩ (.int .i64 q')) g rb s c q' v l := by
  have hk : Keeps (fun k => k = rb) w (w.setCell ⟨rb, 1, none⟩ (.int .i64 q')) := Keeps.setCell (S := fun k => k = rb) (p := ⟨rb, 1, none⟩) (Keeps.rfl' _ _) (.inr rfl) _
  exact ⟨Lies.far h.get h.ne _, h.req.put 1 _, h.own.kept hk (fun j hj e => h.own.ne h.req (by decide) (by rw [hj, e])), h.below.setCell h.newr _, h.newg, h.newr⟩
/-- The row has grown by a command, and has been stored. -/
theorem RdAt.grown {w1 : World} {g' cap : Nat} {d : CmdS} (h : RdAt w0 w g rb s c q v l) (hg : w.grownBy w1 v.ownBlock)
    (ho : w1.ownsRow w0.heap.size 68 5 (.slice (some ⟨g', 0, none⟩) (l.length + 1) cap) (l.length + 1) (cmdCells l ++ d.cells)) :
    RdAt w0 (w1.setCell ⟨rb, 2, none⟩ (.slice (some ⟨g', 0, none⟩) (l.length + 1) cap)) g rb s c q (.slice (some ⟨g', 0, none⟩) (l.length + 1) cap) (l ++ [d]) := by
  have hr1 := h.req.grown hg (fun e => h.own.ne h.req (by decide) e.symm)
  have hg1 := Lies.grown h.get hg (fun e => h.own.ne h.get (by decide) e.symm)
  have ho1 : CmdsOwn w1 w0.heap.size (.slice (some ⟨g', 0, none⟩) (l.length + 1) cap) (l ++ [d]) := by
    unfold CmdsOwn
    rw [cmdCells_append, List.length_append]
    simpa [cmdCells] using ho
  have hk : Keeps (fun k => k = rb) w1 (w1.setCell ⟨rb, 2, none⟩ (.slice (some ⟨g', 0, none⟩) (l.length + 1) cap)) := Keeps.setCell (S := fun k => k = rb) (p := ⟨rb, 2, none⟩) (Keeps.rfl' _ _) (.inr rfl) _
  have hb1 := h.below.grown hg h.below.size (fun j hj => (own_lt h.own hj).1)
  exact ⟨Lies.far hg1 h.ne _, hr1.put 2 _, ho1.kept hk (fun j hj e => ho1.ne hr1 (by decide) (by rw [hj, e])), hb1.setCell h.newr _, h.newg, h.newr⟩
end

set_option maxHeartbeats 2000000 in
set_option maxRecDepth 100000 in
theorem read_any (bl : List UInt8) (w : World) (hbl : bl.length ≤ 1000000) :
    Calls Tryz.prog 11 #[.string (strS bl)] w (ReadPost w (readR bl).1 (readR bl).2) := by
  obtain ⟨i0, hi, hz0, hz1, hz2⟩ := info_parts infoCmd
  have hm := Lies.made w 24 [.int .i64 0, .int .i64 0, .slice none 0 0]
  have ha := box_made w 24 [.int .i64 0, .int .i64 0, .slice none 0 0]
  have hfrom := from_get (strS bl) (w.alloc (.cells [.int .i64 0, .int .i64 0, .slice none 0 0].toArray 24))
  rw [strS_list] at hfrom
  have Hread := veil (show readR bl = if (endG (reqG (bl, 0)).2).2 ≠ 0 then (noReq, (endG (reqG (bl, 0)).2).2) else if (reqG (bl, 0)).1.check ≠ 0 ∨ (reqG (bl, 0)).1.laid ≠ strS bl then (noReq, 6) else ((reqG (bl, 0)).1, 0) from rfl)
  go_enter Tryz.func11, Tryz.ntmps11
  go_wp2_with fail
  refine hfrom.mono ?_
  rintro e w1 ⟨rfl, hg1, hlt1, hb1⟩
  have hm1 := hm.below hb1 hm.lt
  have hbw1 := ha.trans (hb1.mono ha.size)
  have hsz0 : w.heap.size + 1 ≤ w1.heap.size := by have := hb1.size; simpa using this
  simp only [World.alloc, Array.size_push] at hg1 hlt1
  go_wp2_with fail
  refine (int_get _ _ _ hg1 hbl).mono ?_
  rintro e w2 ⟨rfl, hg2, hk2⟩
  have hs2 := intG_length (bl, 0)
  have hsz1 := hbw1.size
  have hbw2 := hbw1.trans (hk2.toBelow hsz1 (fun j hj => by omega))
  have hm2 := hm1.kept hk2 (by omega)
  have hsz2 := hk2.size
  have hr2 := Lies.made w2 24 [.int .i64 (intG (bl, 0)).1, .int .i64 0, .slice none 0 0]
  have hR2 : RdAt w (w2.alloc (.cells #[.int .i64 (intG (bl, 0)).1, .int .i64 0, .slice none 0 0] 24)) (w.heap.size + 1) w2.heap.size (intG (bl, 0)).2 (intG (bl, 0)).1 0 (.slice none 0 0) [] :=
    ⟨Lies.alloc hg2 _, hr2, CmdsOwn.nil _ _, hbw2.alloc hbw2.size _, by omega, by omega⟩
  have hm3 := hm2.alloc (.cells #[.int .i64 (intG (bl, 0)).1, .int .i64 0, .slice none 0 0] 24)
  clear hfrom hg1 hg2 hk2 hm hm1 hm2 hr2 hbw1 hb1 ha
  go_wp2_with fail
  refine (int_get _ _ _ hR2.get (Nat.le_trans hs2 hbl)).mono ?_
  rintro e w3 ⟨rfl, hg3, hk3⟩
  have hR3 := hR2.read hg3 hk3
  have hm4 := hm3.kept hk3 (by omega)
  have hs3 := intG_length (intG (bl, 0)).2
  have f3 := hR3.req.frozen 1
  have hl3 := hR3.req.lt
  have hg3l := hR3.get.lt
  have hsz3 := hR3.below.size
  have c3 : w3.cell? ⟨w2.heap.size, 1, none⟩ = some (.int .i64 0) := hR3.req.cell 1
  have hR4 := hR3.setseq (intG (intG (bl, 0)).2).1
  have hm5 := hm4.far (p := ⟨w2.heap.size, 1, none⟩) (show w.heap.size ≠ w2.heap.size by omega) (.int .i64 (intG (intG (bl, 0)).2).1)
  clear hR2 hR3 hk3 hm3 hm4 hg3
  obtain ⟨C, hC⟩ : ∃ C, C = (intG (bl, 0)).1 := ⟨_, rfl⟩
  obtain ⟨Q, hQ⟩ : ∃ Q, Q = (intG (intG (bl, 0)).2).1 := ⟨_, rfl⟩
  obtain ⟨sq, hsq⟩ : ∃ sq, sq = (intG (intG (bl, 0)).2).2 := ⟨_, rfl⟩
  have hreq : reqG (bl, 0) = (⟨C, Q, (cmdsG (smallG 1 sq).1.toNat (smallG 1 sq).2).1⟩, (cmdsG (smallG 1 sq).1.toNat (smallG 1 sq).2).2) := by rw [hC, hQ, hsq]; rfl
  rw [← hsq] at hR4 hs3
  rw [← hC, ← hQ] at hR4
  rw [← hQ] at hm5
  rw [← hC, ← hQ]
  rw [hreq] at Hread
  clear hreq hC hQ hsq
  have hsl : sq.1.length ≤ 1000000 := by omega
  clear hs2 hs3
  go_wp2_with fail
  refine (byte_get _ _ _ hR4.get hsl).mono ?_
  rintro e w5 ⟨rfl, hg5, hk5⟩
  have hR5 := hR4.read hg5 hk5
  have hm6 := hm5.kept hk5 (by omega)
  obtain ⟨b0, b1⟩ := smallG_one sq
  have hs0l := smallG_length 1 sq
  obtain ⟨N, hN⟩ : ∃ N : Nat, (smallG 1 sq).1 = (N : Int) := ⟨(smallG 1 sq).1.toNat, by omega⟩
  obtain ⟨s0, hs0⟩ : ∃ s0, s0 = (smallG 1 sq).2 := ⟨_, rfl⟩
  rw [← hs0] at hR5 hs0l
  rw [hN, Int.toNat_natCast, ← hs0] at Hread
  rw [hN] at b1
  rw [hN]
  clear hR4 hg5 hk5 hm5 hN hs0 b0 f3 c3
  have hrl := hR5.req.lt
  have hgl := hR5.get.lt
  have H5 := veil (And.intro hR5 hm6)
  clear hR5 hm6
  go_wp2_with fail
  go_loopw [20] (fun i wr => ∃ (k : Nat) (v : Value), k ≤ N ∧ i = .int .i64 k ∧ RdAt w wr (w.heap.size + 1) w2.heap.size (cmdsG k s0).2 C Q v (cmdsG k s0).1 ∧ Lies wr w.heap.size 24 [.int .i64 0, .int .i64 0, .slice none 0 0]) (fun i _ => N - (intOf i).toNat)
  case atStart => exact ⟨0, _, Nat.zero_le _, rfl, H5.out.1, H5.out.2⟩
  case round =>
    obtain ⟨k, v, hkN, rfl, hR, hm⟩ := hrel
    obtain ⟨l2, l1⟩ := cmdsG_length k s0
    by_cases hlt : k < N
    · have hnext : cmdsG (k + 1) s0 = ((cmdsG k s0).1 ++ [(cmdG (cmdsG k s0).2).1], (cmdG (cmdsG k s0).2).2) := rfl
      obtain ⟨l, hl⟩ : ∃ l, l = (cmdsG k s0).1 := ⟨_, rfl⟩
      obtain ⟨s, hs⟩ : ∃ s, s = (cmdsG k s0).2 := ⟨_, rfl⟩
      rw [← hl, ← hs] at hR hnext
      rw [← hl] at l1
      rw [← hs] at l2
      have Hnext := veil hnext
      clear hnext hl hs
      have i1 : (k : Int) < (N : Int) := by omega
      go_wp2_with fail
      refine (byte_get _ _ _ hR.get (by omega)).mono ?_
      rintro e v1 ⟨rfl, hg1, hk1⟩
      have hR1 := (hR.read hg1 hk1).alloc (.cells #[.int .i64 (smallG 1 s).1, .string ⟨#[]⟩, .string ⟨#[]⟩, .string ⟨#[]⟩, .string ⟨#[]⟩] 68)
      have hm1 := (hm.kept hk1 (by omega)).alloc (.cells #[.int .i64 (smallG 1 s).1, .string ⟨#[]⟩, .string ⟨#[]⟩, .string ⟨#[]⟩, .string ⟨#[]⟩] 68)
      have hc1 := Lies.made v1 68 [.int .i64 (smallG 1 s).1, .string ⟨#[]⟩, .string ⟨#[]⟩, .string ⟨#[]⟩, .string ⟨#[]⟩]
      have hown1 := (hR.read hg1 hk1).own
      have hbel1 := (hR.read hg1 hk1).below.size
      have hne1 : v.ownBlock ≠ some v1.heap.size := fun e => by have := (own_lt hown1 e).2; omega
      have t1 := smallG_length 1 s
      have hgv1 := (hR.read hg1 hk1).get.lt
      have hrv1 := (hR.read hg1 hk1).req.lt
      clear hR hm hg1 hk1 hown1
      go_wp2_with fail
      refine (text_get _ _ _ hR1.get (by omega)).mono ?_
      rintro e v2 ⟨rfl, hg2, hk2⟩
      have hR2 := hR1.read hg2 hk2
      have hm2 := hm1.kept hk2 (by omega)
      have hc2 := hc1.kept hk2 (by omega)
      have t2 := textG_length (smallG 1 s).2
      clear hR1 hm1 hc1 hg2 hk2
      go_wp2_with fail
      refine (text_get _ _ _ hR2.get (by omega)).mono ?_
      rintro e v3 ⟨rfl, hg3, hk3⟩
      have hR3 := hR2.read hg3 hk3
      have hm3 := hm2.kept hk3 (by omega)
      have hc3 := hc2.kept hk3 (by omega)
      have t3 := textG_length (textG (smallG 1 s).2).2
      clear hR2 hm2 hc2 hg3 hk3
      go_wp2_with fail
      refine (text_get _ _ _ hR3.get (by omega)).mono ?_
      rintro e v4 ⟨rfl, hg4, hk4⟩
      have hR4 := hR3.read hg4 hk4
      have hm4 := hm3.kept hk4 (by omega)
      have hc4 := hc3.kept hk4 (by omega)
      have t4 := textG_length (textG (textG (smallG 1 s).2).2).2
      clear hR3 hm3 hc3 hg4 hk4
      go_wp2_with fail
      refine (text_get _ _ _ hR4.get (by omega)).mono ?_
      rintro e v5 ⟨rfl, hg5, hk5⟩
      have hR5 := hR4.read hg5 hk5
      have hm5 := hm4.kept hk5 (by omega)
      have hc5 := hc4.kept hk5 (by omega)
      clear hR4 hm4 hc4 hg5 hk5
      have hcmd : cmdG s = (⟨(smallG 1 s).1, strS (textG (smallG 1 s).2).1, strS (textG (textG (smallG 1 s).2).2).1, strS (textG (textG (textG (smallG 1 s).2).2).2).1, strS (textG (textG (textG (textG (smallG 1 s).2).2).2).2).1⟩, (textG (textG (textG (textG (smallG 1 s).2).2).2).2).2) := rfl
      obtain ⟨s5, hs5⟩ : ∃ s5, s5 = (textG (textG (textG (textG (smallG 1 s).2).2).2).2).2 := ⟨_, rfl⟩
      obtain ⟨x1, hx1⟩ : ∃ x1, x1 = strS (textG (smallG 1 s).2).1 := ⟨_, rfl⟩
      obtain ⟨x2, hx2⟩ : ∃ x2, x2 = strS (textG (textG (smallG 1 s).2).2).1 := ⟨_, rfl⟩
      obtain ⟨x3, hx3⟩ : ∃ x3, x3 = strS (textG (textG (textG (smallG 1 s).2).2).2).1 := ⟨_, rfl⟩
      obtain ⟨x4, hx4⟩ : ∃ x4, x4 = strS (textG (textG (textG (textG (smallG 1 s).2).2).2).2).1 := ⟨_, rfl⟩
      obtain ⟨x0, hx0⟩ : ∃ x0, x0 = (smallG 1 s).1 := ⟨_, rfl⟩
      rw [← hs5] at hR5 hcmd
      rw [← hx1, ← hx2, ← hx3, ← hx4, ← hx0] at hcmd
      rw [← hx0] at hc5
      rw [← hx1, ← hx2, ← hx3, ← hx4, ← hx0]
      rw [hcmd] at Hnext
      clear hs5 hx1 hx2 hx3 hx4 hx0 hcmd t1 t2 t3 t4 l2
      have hw5 := hR5.below.size
      have hcl := hc5.lt
      have e0 := hc5.cell 0
      have e1 := hc5.cell 1
      have e2 := hc5.cell 2
      have e3 := hc5.cell 3
      have e4 := hc5.cell 4
      have f1 := hc5.frozen 1
      have f2 := hc5.frozen 2
      have f3 := hc5.frozen 3
      have f4 := hc5.frozen 4
      have hp1 := hc5.put 1 (.string x1)
      have hp2 := hp1.put 2 (.string x2)
      have hp3 := hp2.put 3 (.string x3)
      have hp4 := hp3.put 4 (.string x4)
      have hq1 := hR5.set hc5 hne1 (by omega) 1 (.string x1)
      have hq2 := hq1.set hp1 hne1 (by omega) 2 (.string x2)
      have hq3 := hq2.set hp2 hne1 (by omega) 3 (.string x3)
      have hq4 := hq3.set hp3 hne1 (by omega) 4 (.string x4)
      have hmn : w.heap.size ≠ v1.heap.size := by omega
      have hm6 := (((hm5.far (p := ⟨v1.heap.size, 1, none⟩) hmn (.string x1)).far (p := ⟨v1.heap.size, 2, none⟩) hmn (.string x2)).far (p := ⟨v1.heap.size, 3, none⟩) hmn (.string x3)).far (p := ⟨v1.heap.size, 4, none⟩) hmn (.string x4)
      have r2 : ((((v5.setCell ⟨v1.heap.size, 1, none⟩ (.string x1)).setCell ⟨v1.heap.size, 2, none⟩ (.string x2)).setCell ⟨v1.heap.size, 3, none⟩ (.string x3)).setCell ⟨v1.heap.size, 4, none⟩ (.string x4)).cell? ⟨w2.heap.size, 2, none⟩ = some v := hq4.req.cell 2
      have g0 : ((((v5.setCell ⟨v1.heap.size, 1, none⟩ (.string x1)).setCell ⟨v1.heap.size, 2, none⟩ (.string x2)).setCell ⟨v1.heap.size, 3, none⟩ (.string x3)).setCell ⟨v1.heap.size, 4, none⟩ (.string x4)).cell? ⟨v1.heap.size, 0, none⟩ = some (.int .i64 x0) := hp4.cell 0
      have Hq4 := veil (And.intro hq4 hm6)
      have hvn := hR5.own.ne hR5.req (by decide)
      have hvm := hR5.own.ne hm5 (by decide)
      clear hR5 hc5 hp1 hp2 hp3 hp4 hq1 hq2 hq3 hq4 hm5 hm6
      simp at e0 e1 e2 e3 e4
      go_wp2_with (at_builtin; refine wpList_append_lies _ rfl _ _ _ rfl w.heap.size 68 i0 _ 5 72 Tryz.underlying22 hi hz0 hz1 hz2 rfl (by omega) _ _ _ rfl ((Hq4.out.1.alloc (.cells #[.int .i64 x0, .string x1, .string x2, .string x3, .string x4] 68)).own) ⟨v5.heap.size, 0, none⟩ 1 1 [.int .i64 x0, .string x1, .string x2, .string x3, .string x4] rfl rfl (World.news_of_block (cs := #[.int .i64 x0, .string x1, .string x2, .string x3, .string x4]) (t := 68) (fr := (0, 0)) (by simpa [World.setCell] using heap_alloc_new ((((v5.setCell ⟨v1.heap.size, 1, none⟩ (.string x1)).setCell ⟨v1.heap.size, 2, none⟩ (.string x2)).setCell ⟨v1.heap.size, 3, none⟩ (.string x3)).setCell ⟨v1.heap.size, 4, none⟩ (.string x4)) _)) (by simp [Value.oneCell']) (by omega) (by unfold maxLen; omega) (by omega) (by simp [World.setCell]; omega) (v5.heap.size + 1) (by simp [World.setCell]) ?_; intro g' cap w10 hown10 hgrow hat hglt; have hR10 := (Hq4.out.1.alloc (.cells #[.int .i64 x0, .string x1, .string x2, .string x3, .string x4] 68)).grown (d := ⟨x0, x1, x2, x3, x4⟩) hgrow hown10; have l10 := ((Hq4.out.1.alloc (.cells #[.int .i64 x0, .string x1, .string x2, .string x3, .string x4] 68)).req).grown hgrow (fun e => hvn e.symm); have c10 : w10.cell? ⟨w2.heap.size, 2, none⟩ = some v := l10.cell 2; have f10 : w10.frozen? ⟨w2.heap.size, 2, none⟩ = false := l10.frozen 2)
      refine ⟨⟨k + 1, .slice (some ⟨g', 0, none⟩) (k + 1) cap, by omega, by go_num, ?_, ?_⟩, by simp [intOf]; omega⟩
      · rw [Hnext.out]
        rw [l1] at hR10
        exact hR10
      · exact ((Hq4.out.2.alloc _).grown hgrow (fun e => hvm e.symm)).far (p := ⟨w2.heap.size, 2, none⟩) (show w.heap.size ≠ w2.heap.size by omega) _
    · obtain rfl : k = N := by omega
      obtain ⟨l, hl⟩ : ∃ l, l = (cmdsG k s0).1 := ⟨_, rfl⟩
      obtain ⟨s, hs⟩ : ∃ s, s = (cmdsG k s0).2 := ⟨_, rfl⟩
      rw [← hl, ← hs] at hR Hread
      rw [← hl] at l1
      clear hl hs l2
      subst l1
      have hlt0 := hm.lt
      obtain ⟨xs, cap, hv, hat⟩ := hR.own.at_
      subst hv
      go_wp2_with fail
      refine (end_get _ _ _ hR.get).mono ?_
      rintro e w6 ⟨rfl, hg6, hk6⟩
      have hR6 := hR.read hg6 hk6
      have hm6 := hm.kept hk6 (by omega)
      have hat6 : CmdsAt w6 xs l := by
        obtain ⟨xs', cap', hv', hat'⟩ := hR6.own.at_
        injection hv' with h1 h2 h3
        rw [h1]; exact hat'
      have d0 := hm6.cell 0
      have d1 := hm6.cell 1
      have d2 := hm6.cell 2
      have e0 := hm6.frozen 0
      have e1 := hm6.frozen 1
      have e2 := hm6.frozen 2
      have r0 := hR6.req.cell 0
      have r1 := hR6.req.cell 1
      have r2 := hR6.req.cell 2
      have hown6 := hR6.own
      have hbw6 := hR6.below
      have hlt6 := hm6.lt
      have hsz6 := hbw6.size
      clear hR hm hg6 hk6 hat
      simp at d0 d1 d2 r0 r1 r2
      by_cases he : (endG s).2 = 0
      · have Hr := veil (show readR bl = if (ReqS.check ⟨C, Q, l⟩ ≠ 0 ∨ ReqS.laid ⟨C, Q, l⟩ ≠ strS bl) then (noReq, 6) else (⟨C, Q, l⟩, 0) by rw [Hread.out]; rw [if_neg (by simpa using he)])
        have heb : ((endG s).2 != 0) = false := by rw [he]; rfl
        have hvm := hown6.ne hm6 (by decide)
        have hlay := lay_any C Q xs l cap w6 hat6 (by omega)
        obtain ⟨ck, hck⟩ : ∃ ck, ck = ReqS.check ⟨C, Q, l⟩ := ⟨_, rfl⟩
        obtain ⟨ls, hls⟩ : ∃ ls, ls = ReqS.laid ⟨C, Q, l⟩ := ⟨_, rfl⟩
        rw [← hck, ← hls] at hlay Hr
        have Hreq := hR6.req
        rw [he]
        clear hck hls Hread he heb hat6 hR6
        go_wp2_with fail
        refine hlay.mono ?_
        rintro e w7 ⟨rfl, hb7⟩
        have hm7 := hm6.below hb7 hlt6
        have hr7 := Hreq.below hb7 Hreq.lt
        have hown7 := hown6.below hb7
        have hbw7 := hbw6.trans (hb7.mono hsz6)
        have d0 := hm7.cell 0
        have d1 := hm7.cell 1
        have d2 := hm7.cell 2
        have e0 := hm7.frozen 0
        have e1 := hm7.frozen 1
        have e2 := hm7.frozen 2
        have r0 := hr7.cell 0
        have r1 := hr7.cell 1
        have r2 := hr7.cell 2
        have hlt7 := hm7.lt
        simp at d0 d1 d2 r0 r1 r2
        by_cases hc0 : ck = 0
        · subst hc0
          by_cases hl0 : ls = strS bl
          · subst hl0
            have Hr2 := veil (show readR bl = (⟨C, Q, l⟩, 0) by rw [Hr.out, if_neg (by simp)])
            have hp := ((hm7.put 0 (.int .i64 C)).put 1 (.int .i64 Q)).put 2 (.slice xs l.length cap)
            have q0 := hp.cell 0
            have q1 := hp.cell 1
            have q2 := hp.cell 2
            have hb9 : Below w.heap.size w (((w7.setCell ⟨w.heap.size, 0, none⟩ (.int .i64 C)).setCell ⟨w.heap.size, 1, none⟩ (.int .i64 Q)).setCell ⟨w.heap.size, 2, none⟩ (.slice xs l.length cap)) := ((hbw7.setCell (p := ⟨w.heap.size, 0, none⟩) (Nat.le_refl _) _).setCell (p := ⟨w.heap.size, 1, none⟩) (Nat.le_refl _) _).setCell (p := ⟨w.heap.size, 2, none⟩) (Nat.le_refl _) _
            have hk9 : Keeps (fun k => k = w.heap.size) w7 (((w7.setCell ⟨w.heap.size, 0, none⟩ (.int .i64 C)).setCell ⟨w.heap.size, 1, none⟩ (.int .i64 Q)).setCell ⟨w.heap.size, 2, none⟩ (.slice xs l.length cap)) := ((Keeps.setCell (S := fun k => k = w.heap.size) (p := ⟨w.heap.size, 0, none⟩) (Keeps.rfl' _ _) (.inr rfl) _).setCell (p := ⟨w.heap.size, 1, none⟩) (.inr rfl) _).setCell (p := ⟨w.heap.size, 2, none⟩) (.inr rfl) _
            have Hown9 := veil (hown7.kept hk9 (fun j hj e => hvm (by rw [hj, e])))
            have Hb9 := veil hb9
            clear hp hk9 hb9 hown7
            go_wp2
            exact bodyPost_ret (v := .tuple #[.agg #[.int .i64 C, .int .i64 Q, .slice xs l.length cap], .int .i64 0]) (by simp at q0 q1 q2; simp [results, Tryz.results11, go_sem, q0, q1, q2]) rfl (by rw [Hr2.out]; exact ⟨_, rfl, Hown9.out, Hb9.out⟩)
          · have hnb : (ls.toList == bl) = false := by
              rw [beq_eq_false_iff_ne, ByteArray.toList_eq]
              exact fun e => hl0 (by apply bytes_ext; rw [e])
            have Hr := veil (show readR bl = (noReq, 6) by rw [Hr.out, if_pos (.inr hl0)])
            clear hl0
            have hp := ((hm7.put 0 (.int .i64 0)).put 1 (.int .i64 0)).put 2 (.slice none 0 0)
            have q0 := hp.cell 0
            have q1 := hp.cell 1
            have q2 := hp.cell 2
            have hb9 : Below w.heap.size w (((w7.setCell ⟨w.heap.size, 0, none⟩ (.int .i64 0)).setCell ⟨w.heap.size, 1, none⟩ (.int .i64 0)).setCell ⟨w.heap.size, 2, none⟩ (.slice none 0 0)) := ((hbw7.setCell (p := ⟨w.heap.size, 0, none⟩) (Nat.le_refl _) _).setCell (p := ⟨w.heap.size, 1, none⟩) (Nat.le_refl _) _).setCell (p := ⟨w.heap.size, 2, none⟩) (Nat.le_refl _) _
            clear hp
            go_wp2
            exact bodyPost_ret (v := .tuple #[.agg #[.int .i64 0, .int .i64 0, .slice none 0 0], .int .i64 6]) (by simp at q0 q1 q2; simp [results, Tryz.results11, go_sem, q0, q1, q2]) rfl (by rw [Hr.out]; exact ⟨_, rfl, CmdsOwn.nil _ _, hb9⟩)
        · have hnb : (ck != 0) = true := by simpa using hc0
          have Hr := veil (show readR bl = (noReq, 6) by rw [Hr.out, if_pos (.inl hc0)])
          have hp := ((hm7.put 0 (.int .i64 0)).put 1 (.int .i64 0)).put 2 (.slice none 0 0)
          have q0 := hp.cell 0
          have q1 := hp.cell 1
          have q2 := hp.cell 2
          have hb9 : Below w.heap.size w (((w7.setCell ⟨w.heap.size, 0, none⟩ (.int .i64 0)).setCell ⟨w.heap.size, 1, none⟩ (.int .i64 0)).setCell ⟨w.heap.size, 2, none⟩ (.slice none 0 0)) := ((hbw7.setCell (p := ⟨w.heap.size, 0, none⟩) (Nat.le_refl _) _).setCell (p := ⟨w.heap.size, 1, none⟩) (Nat.le_refl _) _).setCell (p := ⟨w.heap.size, 2, none⟩) (Nat.le_refl _) _
          clear hp
          go_wp2
          exact bodyPost_ret (v := .tuple #[.agg #[.int .i64 0, .int .i64 0, .slice none 0 0], .int .i64 6]) (by simp at q0 q1 q2; simp [results, Tryz.results11, go_sem, q0, q1, q2]) rfl (by rw [Hr.out]; exact ⟨_, rfl, CmdsOwn.nil _ _, hb9⟩)
      · have heb : ((endG s).2 != 0) = true := by simpa using he
        have Hr := veil (show readR bl = (noReq, (endG s).2) by rw [Hread.out, if_pos he])
        clear Hread
        have hp := ((hm6.put 0 (.int .i64 0)).put 1 (.int .i64 0)).put 2 (.slice none 0 0)
        have q0 := hp.cell 0
        have q1 := hp.cell 1
        have q2 := hp.cell 2
        have hb9 : Below w.heap.size w (((w6.setCell ⟨w.heap.size, 0, none⟩ (.int .i64 0)).setCell ⟨w.heap.size, 1, none⟩ (.int .i64 0)).setCell ⟨w.heap.size, 2, none⟩ (.slice none 0 0)) := ((hbw6.setCell (p := ⟨w.heap.size, 0, none⟩) (Nat.le_refl _) _).setCell (p := ⟨w.heap.size, 1, none⟩) (Nat.le_refl _) _).setCell (p := ⟨w.heap.size, 2, none⟩) (Nat.le_refl _) _
        clear hp
        go_wp2
        exact bodyPost_ret (v := .tuple #[.agg #[.int .i64 0, .int .i64 0, .slice none 0 0], .int .i64 (endG s).2]) (by simp at q0 q1 q2; simp [results, Tryz.results11, go_sem, q0, q1, q2]) rfl (by rw [Hr.out]; exact ⟨_, rfl, CmdsOwn.nil _ _, hb9⟩)
end Go.Proofs.YtjonmggkmalgaaaGreatDoor

/-
  The document's Read at whatever bytes: it tells what cmd.Read tells.
-/
import Derived.Test.YtjonmggkmalgaaaGreatDoorW46Read
import Derived.Test.YtjonmggkmalgaaaGreatDoorW61RefCmd
namespace Go.Proofs.YtjonmggkmalgaaaGreatDoor
open Go.RowKit Go.Lib
attribute [local go_sem ↓] Go.wp_at_zero Go.wp_at_succ

section
variable (g : Nat) (s : GetS) (w : World) (h : RGetAt w g s) (hl : s.1.length ≤ 1000000)
include h hl
theorem num8_rget : Calls Tryz.prog 56 #[.pointer (some ⟨g, 0, none⟩), .int .i64 8] w (RReadsPost w g (.int .i64 (intG s).1) (intG s).2) := num_rget g s w h hl 8 (by decide)
theorem num1_rget : Calls Tryz.prog 56 #[.pointer (some ⟨g, 0, none⟩), .int .i64 1] w (RReadsPost w g (.int .i64 (smallG 1 s).1) (smallG 1 s).2) := by
  have := num_rget g s w h hl 1 (by decide)
  rw [rnum_small 1 s (by decide)] at this
  exact this
theorem num2_rget : Calls Tryz.prog 56 #[.pointer (some ⟨g, 0, none⟩), .int .i64 2] w (RReadsPost w g (.int .i64 (smallG 2 s).1) (smallG 2 s).2) := by
  have := num_rget g s w h hl 2 (by decide)
  rw [rnum_small 2 s (by decide)] at this
  exact this
end

/-- An error stays. -/
theorem rawG_err (n : Int) (s : GetS) (h : s.2 ≠ 0) : (rawG n s).2 = s := by unfold rawG; rw [if_pos h]
theorem smallG_err (n : Nat) (s : GetS) (h : s.2 ≠ 0) : (smallG n s).2 = s := rawG_err n s h
theorem textG_err (s : GetS) (h : s.2 ≠ 0) : (textG s).2 = s := by
  unfold textG
  rw [smallG_err 2 s h]
  exact rawG_err _ s h
theorem cmdG_err (s : GetS) (h : s.2 ≠ 0) : (cmdG s).2 = s := by
  show (textG (textG (textG (textG (smallG 1 s).2).2).2).2).2 = s
  rw [smallG_err 1 s h, textG_err s h, textG_err s h, textG_err s h, textG_err s h]
theorem cmdsG_err (s : GetS) (k : Nat) (h : (cmdsG k s).2.2 ≠ 0) : ∀ m, (cmdsG (k + m) s).2 = (cmdsG k s).2
  | 0 => rfl
  | m + 1 => by
    have ih := cmdsG_err s k h m
    show (cmdG (cmdsG (k + m) s).2).2 = _
    rw [ih]
    exact cmdG_err _ h

/-- What the loop holds: the reader at g, the request at rb with the row of its own. -/
structure RRdAt (w0 w : World) (g rb : Nat) (s : GetS) (c q : Int) (v : Value) (l : List CmdS) : Prop where
  get : RGetAt w g s
  req : Lies w rb 24 [.int .i64 c, .int .i64 q, v]
  own : CmdsOwn w w0.heap.size v l
  below : Below w0.heap.size w0 w
  newg : w0.heap.size ≤ g
  newr : w0.heap.size ≤ rb

section
variable {w0 w w' : World} {g rb : Nat} {s s' : GetS} {c q : Int} {v : Value} {l : List CmdS}
theorem RRdAt.ne (h : RRdAt w0 w g rb s c q v l) : g ≠ rb := Lies.ne_of_type h.get h.req (by decide)
/-- The reader has read on. -/
theorem RRdAt.read (h : RRdAt w0 w g rb s c q v l) (hg : RGetAt w' g s') (hk : Keeps (fun k => k = g) w w') : RRdAt w0 w' g rb s' c q v l := by
  have hn := h.newg
  have hz := h.below.size
  exact ⟨hg, h.req.kept hk (fun e => h.ne e.symm), h.own.kept hk (fun j hj e => h.own.ne h.get (by decide) (by rw [hj, e])), h.below.trans (hk.toBelow hz (fun j hj => by omega)), h.newg, h.newr⟩
theorem RRdAt.alloc (h : RRdAt w0 w g rb s c q v l) (o : Obj) : RRdAt w0 (w.alloc o) g rb s c q v l := by
  have hb : Below w.heap.size w (w.alloc o) := (Below.refl _ _).alloc (Nat.le_refl _) _
  exact ⟨Lies.alloc h.get o, h.req.alloc o, h.own.below hb, h.below.alloc h.below.size o, h.newg, h.newr⟩
/-- A cell of a block of a command has been set. -/
theorem RRdAt.set {b : Nat} {cs : List Value} (h : RRdAt w0 w g rb s c q v l) (hb : Lies w b 68 cs) (hn : v.ownBlock ≠ some b) (hw : w0.heap.size ≤ b) (i : Nat) (u : Value) : RRdAt w0 (w.setCell ⟨b, i, none⟩ u) g rb s c q v l := by
  have hk : Keeps (fun k => k = b) w (w.setCell ⟨b, i, none⟩ u) := Keeps.setCell (S := fun k => k = b) (p := ⟨b, i, none⟩) (Keeps.rfl' _ _) (.inr rfl) _
  exact ⟨Lies.far h.get (Lies.ne_of_type h.get hb (by decide)) u, h.req.far (h.req.ne_of_type hb (by decide)) u, h.own.kept hk (fun j hj e => hn (by rw [hj, e])), h.below.setCell hw u, h.newg, h.newr⟩
theorem RRdAt.setseq (h : RRdAt w0 w g rb s c q v l) (q' : Int) : RRdAt w0 (w.setCell ⟨rb, 1, none⟩ (.int .i64 q')) g rb s c q' v l := by
  have hk : Keeps (fun k => k = rb) w (w.setCell ⟨rb, 1, none⟩ (.int .i64 q')) := Keeps.setCell (S := fun k => k = rb) (p := ⟨rb, 1, none⟩) (Keeps.rfl' _ _) (.inr rfl) _
  exact ⟨Lies.far h.get h.ne _, h.req.put 1 _, h.own.kept hk (fun j hj e => h.own.ne h.req (by decide) (by rw [hj, e])), h.below.setCell h.newr _, h.newg, h.newr⟩
/-- The row has grown by a command, and has been stored. -/
theorem RRdAt.grown {w1 : World} {g' cap : Nat} {d : CmdS} (h : RRdAt w0 w g rb s c q v l) (hg : w.grownBy w1 v.ownBlock)
    (ho : w1.ownsRow w0.heap.size 68 5 (.slice (some ⟨g', 0, none⟩) (l.length + 1) cap) (l.length + 1) (cmdCells l ++ d.cells)) :
    RRdAt w0 (w1.setCell ⟨rb, 2, none⟩ (.slice (some ⟨g', 0, none⟩) (l.length + 1) cap)) g rb s c q (.slice (some ⟨g', 0, none⟩) (l.length + 1) cap) (l ++ [d]) := by
  have hr1 := h.req.grown hg (fun e => h.own.ne h.req (by decide) e.symm)
  have hg1 := Lies.grown h.get hg (fun e => h.own.ne h.get (by decide) e.symm)
  have ho1 : CmdsOwn w1 w0.heap.size (.slice (some ⟨g', 0, none⟩) (l.length + 1) cap) (l ++ [d]) := by
    unfold CmdsOwn
    rw [cmdCells_append, List.length_append]
    simpa [cmdCells] using ho
  have hk : Keeps (fun k => k = rb) w1 (w1.setCell ⟨rb, 2, none⟩ (.slice (some ⟨g', 0, none⟩) (l.length + 1) cap)) := Keeps.setCell (S := fun k => k = rb) (p := ⟨rb, 2, none⟩) (Keeps.rfl' _ _) (.inr rfl) _
  have hb1 := h.below.grown hg h.below.size (fun j hj => (own_lt h.own hj).1)
  exact ⟨Lies.far hg1 h.ne _, hr1.put 2 _, ho1.kept hk (fun j hj e => ho1.ne hr1 (by decide) (by rw [hj, e])), hb1.setCell h.newr _, h.newg, h.newr⟩
end

set_option maxHeartbeats 4000000 in
set_option maxRecDepth 100000 in
theorem read_ref (bl : List UInt8) (w : World) (hbl : bl.length ≤ 1000000) :
    Calls Tryz.prog 20 #[.string (strS bl)] w (ReadPost w (readR bl).1 (readR bl).2) := by
  obtain ⟨i0, hi, hz0, hz1, hz2⟩ := info_parts infoCmd
  have hm := Lies.made w 24 [.int .i64 0, .int .i64 0, .slice none 0 0]
  have ha := box_made w 24 [.int .i64 0, .int .i64 0, .slice none 0 0]
  have hz := strS_size bl
  have hg0 : RGetAt ((w.alloc (.cells #[.int .i64 0, .int .i64 0, .slice none 0 0] 24)).alloc (.cells #[.string (strS bl), .int .i64 0] 97)) (w.heap.size + 1) (bl, 0) := by
    have := Lies.made (w.alloc (.cells #[.int .i64 0, .int .i64 0, .slice none 0 0] 24)) 97 [.string (strS bl), .int .i64 0]
    simpa [RGetAt] using this
  have hm0 := hm.alloc (.cells #[.string (strS bl), .int .i64 0] 97)
  have hb0 := ha.alloc ha.size (.cells #[.string (strS bl), .int .i64 0] 97)
  have Hread := veil (show readR bl = if (endG (reqG (bl, 0)).2).2 ≠ 0 then (noReq, (endG (reqG (bl, 0)).2).2) else if (reqG (bl, 0)).1.check ≠ 0 ∨ (reqG (bl, 0)).1.laid ≠ strS bl then (noReq, 6) else ((reqG (bl, 0)).1, 0) from rfl)
  clear hm ha
  go_enter Tryz.func20, Tryz.ntmps20
  go_wp2_with fail
  refine (num8_rget _ _ _ hg0 hbl).mono ?_
  rintro e w1 ⟨rfl, hg1, hk1⟩
  have hsz0 := hb0.size
  have hb1 := hb0.trans (hk1.toBelow hsz0 (fun j hj => by omega))
  have hm1 := hm0.kept hk1 (by omega)
  have hs1 := intG_length (bl, 0)
  clear hg0 hk1 hm0 hb0 hsz0
  go_wp2_with fail
  refine (num8_rget _ _ _ hg1 (Nat.le_trans hs1 hbl)).mono ?_
  rintro e w2 ⟨rfl, hg2, hk2⟩
  have hsz1 := hb1.size
  have hb2 := hb1.trans (hk2.toBelow hsz1 (fun j hj => by omega))
  have hm2 := hm1.kept hk2 (by omega)
  have hs2 := intG_length (intG (bl, 0)).2
  have hr2 := Lies.made w2 24 [.int .i64 (intG (bl, 0)).1, .int .i64 (intG (intG (bl, 0)).2).1, .slice none 0 0]
  have hgl2 := hg2.lt
  have hR4 : RRdAt w (w2.alloc (.cells #[.int .i64 (intG (bl, 0)).1, .int .i64 (intG (intG (bl, 0)).2).1, .slice none 0 0] 24)) (w.heap.size + 1) w2.heap.size (intG (intG (bl, 0)).2).2 (intG (bl, 0)).1 (intG (intG (bl, 0)).2).1 (.slice none 0 0) [] :=
    ⟨Lies.alloc hg2 _, hr2, CmdsOwn.nil _ _, hb2.alloc hb2.size _, by omega, by omega⟩
  have hm5 := hm2.alloc (.cells #[.int .i64 (intG (bl, 0)).1, .int .i64 (intG (intG (bl, 0)).2).1, .slice none 0 0] 24)
  have hsz2 := hb2.size
  clear hg1 hg2 hk2 hm1 hm2 hr2 hb1 hb2 hsz1
  obtain ⟨C, hC⟩ : ∃ C, C = (intG (bl, 0)).1 := ⟨_, rfl⟩
  obtain ⟨Q, hQ⟩ : ∃ Q, Q = (intG (intG (bl, 0)).2).1 := ⟨_, rfl⟩
  obtain ⟨sq, hsq⟩ : ∃ sq, sq = (intG (intG (bl, 0)).2).2 := ⟨_, rfl⟩
  have hreq : reqG (bl, 0) = (⟨C, Q, (cmdsG (smallG 1 sq).1.toNat (smallG 1 sq).2).1⟩, (cmdsG (smallG 1 sq).1.toNat (smallG 1 sq).2).2) := by rw [hC, hQ, hsq]; rfl
  rw [← hsq] at hR4 hs2
  rw [← hC, ← hQ] at hR4 hm5 ⊢
  rw [hreq] at Hread
  clear hreq hC hQ hsq
  have hsl : sq.1.length ≤ 1000000 := by have : (bl, (0 : Int)).1.length = bl.length := rfl; omega
  clear hs1 hs2
  go_wp2_with fail
  refine (num1_rget _ _ _ hR4.get hsl).mono ?_
  rintro e w5 ⟨rfl, hg5, hk5⟩
  have hR5 := hR4.read hg5 hk5
  have hm6 := hm5.kept hk5 (by omega)
  obtain ⟨b0, b1⟩ := smallG_one sq
  have hs0l := smallG_length 1 sq
  obtain ⟨N, hN⟩ : ∃ N : Nat, (smallG 1 sq).1 = (N : Int) := ⟨(smallG 1 sq).1.toNat, by omega⟩
  obtain ⟨s0, hs0⟩ : ∃ s0, s0 = (smallG 1 sq).2 := ⟨_, rfl⟩
  rw [← hs0] at hR5 hs0l
  rw [hN, Int.toNat_natCast, ← hs0] at Hread
  rw [hN] at b1
  rw [hN]
  clear hR4 hg5 hk5 hm5 hN hs0 b0
  have hrl := hR5.req.lt
  have hgl := hR5.get.lt
  have H5 := veil (And.intro hR5 hm6)
  clear hR5 hm6
  go_wp2_with fail
  go_loopw [7] (fun i wr => ∃ (k : Nat) (v : Value), k ≤ N ∧ i = .int .i64 k ∧ RRdAt w wr (w.heap.size + 1) w2.heap.size (cmdsG k s0).2 C Q v (cmdsG k s0).1 ∧ Lies wr w.heap.size 24 [.int .i64 0, .int .i64 0, .slice none 0 0]) (fun i _ => N - (intOf i).toNat)
  case atStart => exact ⟨0, _, Nat.zero_le _, rfl, H5.out.1, H5.out.2⟩
  case round =>
    obtain ⟨k, v, hkN, rfl, hR, hm⟩ := hrel
    obtain ⟨l2, l1⟩ := cmdsG_length k s0
    have t1 : wr.cell? ⟨w.heap.size + 1, 1, none⟩ = some (.int .i64 (cmdsG k s0).2.2) := hR.get.cell 1
    have hcases : (k < N ∧ (cmdsG k s0).2.2 = 0) ∨ (k < N ∧ (cmdsG k s0).2.2 ≠ 0) ∨ ¬ k < N := by omega
    rcases hcases with ⟨hlt, hz1⟩ | ⟨hlt, hz1⟩ | hlt
    · have hnext : cmdsG (k + 1) s0 = ((cmdsG k s0).1 ++ [(cmdG (cmdsG k s0).2).1], (cmdG (cmdsG k s0).2).2) := rfl
      have hzb : ((cmdsG k s0).2.2 == 0) = true := by rw [hz1]; rfl
      obtain ⟨l, hl⟩ : ∃ l, l = (cmdsG k s0).1 := ⟨_, rfl⟩
      obtain ⟨s, hs⟩ : ∃ s, s = (cmdsG k s0).2 := ⟨_, rfl⟩
      rw [← hl, ← hs] at hR hnext
      rw [← hl] at l1
      rw [← hs] at l2 t1 hzb
      have Hnext := veil hnext
      clear hnext hl hs hz1
      have i1 : (k : Int) < (N : Int) := by omega
      go_wp2_with fail
      refine (num1_rget _ _ _ hR.get (by omega)).mono ?_
      rintro e v1 ⟨rfl, hg1, hk1⟩
      have hR1 := (hR.read hg1 hk1).alloc (.cells #[.int .i64 (smallG 1 s).1, .string ⟨#[]⟩, .string ⟨#[]⟩, .string ⟨#[]⟩, .string ⟨#[]⟩] 68)
      have hm1 := (hm.kept hk1 (by omega)).alloc (.cells #[.int .i64 (smallG 1 s).1, .string ⟨#[]⟩, .string ⟨#[]⟩, .string ⟨#[]⟩, .string ⟨#[]⟩] 68)
      have hc1 := Lies.made v1 68 [.int .i64 (smallG 1 s).1, .string ⟨#[]⟩, .string ⟨#[]⟩, .string ⟨#[]⟩, .string ⟨#[]⟩]
      have hown1 := (hR.read hg1 hk1).own
      have hbel1 := (hR.read hg1 hk1).below.size
      have hne1 : v.ownBlock ≠ some v1.heap.size := fun e => by have := (own_lt hown1 e).2; omega
      have t2 := smallG_length 1 s
      have hgv1 := (hR.read hg1 hk1).get.lt
      have hrv1 := (hR.read hg1 hk1).req.lt
      have hmn : w.heap.size ≠ v1.heap.size := by omega
      obtain ⟨x0, hx0⟩ : ∃ x0, x0 = (smallG 1 s).1 := ⟨_, rfl⟩
      obtain ⟨s1, hs1⟩ : ∃ s1, s1 = (smallG 1 s).2 := ⟨_, rfl⟩
      rw [← hx0] at hR1 hm1 hc1 ⊢
      rw [← hs1] at hR1 t2
      have Hs1 := veil (And.intro hx0 hs1)
      clear hR hm hg1 hk1 hown1 t1 hx0 hs1
      go_wp2_with fail
      refine (text_rget _ _ _ hR1.get (by omega)).mono ?_
      rintro e u1 ⟨rfl, hg2, hk2⟩
      have hRa1 := hR1.read hg2 hk2
      have hma1 := hm1.kept hk2 (by omega)
      have hca1 := hc1.kept hk2 (by omega)
      have hl1 := hca1.lt
      have e1 := hca1.cell 1
      have f1 := hca1.frozen 1
      have y1 := textG_length s1
      obtain ⟨x1, hx1⟩ : ∃ x, x = strS (textG s1).1 := ⟨_, rfl⟩
      obtain ⟨s2, hs2⟩ : ∃ s, s = (textG s1).2 := ⟨_, rfl⟩
      rw [← hx1]
      rw [← hs2] at hRa1 y1
      have Hs2 := veil (And.intro hx1 hs2)
      have hq1 := hRa1.set hca1 hne1 (by omega) 1 (.string x1)
      have hp1 := hca1.put 1 (.string x1)
      have hmb1 := hma1.far (p := ⟨v1.heap.size, 1, none⟩) hmn (.string x1)
      clear hR1 hm1 hc1 hg2 hk2 hRa1 hma1 hca1 hx1 hs2
      simp at e1
      go_wp2_with fail
      refine (text_rget _ _ _ hq1.get (by omega)).mono ?_
      rintro e u2 ⟨rfl, hg3, hk3⟩
      have hRa2 := hq1.read hg3 hk3
      have hma2 := hmb1.kept hk3 (by omega)
      have hca2 := hp1.kept hk3 (by omega)
      have hl2 := hca2.lt
      have e2 := hca2.cell 2
      have f2 := hca2.frozen 2
      have y2 := textG_length s2
      obtain ⟨x2, hx2⟩ : ∃ x, x = strS (textG s2).1 := ⟨_, rfl⟩
      obtain ⟨s3, hs3⟩ : ∃ s, s = (textG s2).2 := ⟨_, rfl⟩
      rw [← hx2]
      rw [← hs3] at hRa2 y2
      have Hs3 := veil (And.intro hx2 hs3)
      have hq2 := hRa2.set hca2 hne1 (by omega) 2 (.string x2)
      have hp2 := hca2.put 2 (.string x2)
      have hmb2 := hma2.far (p := ⟨v1.heap.size, 2, none⟩) hmn (.string x2)
      clear hq1 hmb1 hp1 hg3 hk3 hRa2 hma2 hca2 hx2 hs3
      simp at e2
      go_wp2_with fail
      refine (text_rget _ _ _ hq2.get (by omega)).mono ?_
      rintro e u3 ⟨rfl, hg4, hk4⟩
      have hRa3 := hq2.read hg4 hk4
      have hma3 := hmb2.kept hk4 (by omega)
      have hca3 := hp2.kept hk4 (by omega)
      have hl3 := hca3.lt
      have e3 := hca3.cell 3
      have f3 := hca3.frozen 3
      have y3 := textG_length s3
      obtain ⟨x3, hx3⟩ : ∃ x, x = strS (textG s3).1 := ⟨_, rfl⟩
      obtain ⟨s4, hs4⟩ : ∃ s, s = (textG s3).2 := ⟨_, rfl⟩
      rw [← hx3]
      rw [← hs4] at hRa3 y3
      have Hs4 := veil (And.intro hx3 hs4)
      have hq3 := hRa3.set hca3 hne1 (by omega) 3 (.string x3)
      have hp3 := hca3.put 3 (.string x3)
      have hmb3 := hma3.far (p := ⟨v1.heap.size, 3, none⟩) hmn (.string x3)
      clear hq2 hmb2 hp2 hg4 hk4 hRa3 hma3 hca3 hx3 hs4
      simp at e3
      go_wp2_with fail
      refine (text_rget _ _ _ hq3.get (by omega)).mono ?_
      rintro e u4 ⟨rfl, hg5, hk5⟩
      have hRa4 := hq3.read hg5 hk5
      have hma4 := hmb3.kept hk5 (by omega)
      have hca4 := hp3.kept hk5 (by omega)
      have hl4 := hca4.lt
      have e4 := hca4.cell 4
      have f4 := hca4.frozen 4
      have y4 := textG_length s4
      obtain ⟨x4, hx4⟩ : ∃ x, x = strS (textG s4).1 := ⟨_, rfl⟩
      obtain ⟨s5, hs5⟩ : ∃ s, s = (textG s4).2 := ⟨_, rfl⟩
      rw [← hx4]
      rw [← hs5] at hRa4 y4
      have Hs5 := veil (And.intro hx4 hs5)
      have hq4 := hRa4.set hca4 hne1 (by omega) 4 (.string x4)
      have hp4 := hca4.put 4 (.string x4)
      have hmb4 := hma4.far (p := ⟨v1.heap.size, 4, none⟩) hmn (.string x4)
      clear hq3 hmb3 hp3 hg5 hk5 hRa4 hma4 hca4 hx4 hs5
      simp at e4
      have hcmd : cmdG s = (⟨x0, x1, x2, x3, x4⟩, s5) := by
        obtain ⟨a0, b0⟩ := Hs1.out
        obtain ⟨a1, b1⟩ := Hs2.out
        obtain ⟨a2, b2⟩ := Hs3.out
        obtain ⟨a3, b3⟩ := Hs4.out
        obtain ⟨a4, b4⟩ := Hs5.out
        rw [b4, a4, b3, a3, b2, a2, b1, a1, b0, a0]
        rfl
      rw [hcmd] at Hnext
      have hw5 := hq4.below.size
      have r2 : (u4.setCell ⟨v1.heap.size, 4, none⟩ (.string x4)).cell? ⟨w2.heap.size, 2, none⟩ = some v := hq4.req.cell 2
      have hnb : v1.heap.size ≠ w2.heap.size := by omega
      have g0 := hp4.cell 0
      have g1 := hp4.cell 1
      have g2 := hp4.cell 2
      have g3 := hp4.cell 3
      have g4 := hp4.cell 4
      have Hq4 := veil (And.intro hq4 hmb4)
      have hvn := hq4.own.ne hq4.req (by decide)
      have hvm := hq4.own.ne hmb4 (by decide)
      have hlast := hp4.lt
      clear hcmd hq4 hp4 hmb4 Hs1 Hs2 Hs3 Hs4 Hs5 t2 y1 y2 y3 y4 e1 e2 e3 f1 f2 f3
      simp at g0 g1 g2 g3 g4
      go_wp2_with (at_builtin; refine wpList_append_lies _ rfl _ _ _ rfl w.heap.size 68 i0 _ 5 72 Tryz.underlying22 hi hz0 hz1 hz2 rfl (by omega) _ _ _ rfl ((Hq4.out.1.alloc (.cells #[.int .i64 x0, .string x1, .string x2, .string x3, .string x4] 68)).own) ⟨u4.heap.size, 0, none⟩ 1 1 [.int .i64 x0, .string x1, .string x2, .string x3, .string x4] rfl rfl (World.news_of_block (cs := #[.int .i64 x0, .string x1, .string x2, .string x3, .string x4]) (t := 68) (fr := (0, 0)) (by simpa [World.setCell] using heap_alloc_new (u4.setCell ⟨v1.heap.size, 4, none⟩ (.string x4)) _)) (by simp [Value.oneCell']) (by omega) (by unfold maxLen; omega) (by omega) (by simp [World.setCell]; omega) (u4.heap.size + 1) (by simp [World.setCell]) ?_; intro g' cap w10 hown10 hgrow hat hglt; have hR10 := (Hq4.out.1.alloc (.cells #[.int .i64 x0, .string x1, .string x2, .string x3, .string x4] 68)).grown (d := ⟨x0, x1, x2, x3, x4⟩) hgrow hown10; have l10 := ((Hq4.out.1.alloc (.cells #[.int .i64 x0, .string x1, .string x2, .string x3, .string x4] 68)).req).grown hgrow (fun e => hvn e.symm); have c10 : w10.cell? ⟨w2.heap.size, 2, none⟩ = some v := l10.cell 2; have f10 : w10.frozen? ⟨w2.heap.size, 2, none⟩ = false := l10.frozen 2)
      refine ⟨⟨k + 1, .slice (some ⟨g', 0, none⟩) (k + 1) cap, by omega, by go_num, ?_, ?_⟩, by simp [intOf]; omega⟩
      · rw [Hnext.out]
        rw [l1] at hR10
        exact hR10
      · exact ((Hq4.out.2.alloc _).grown hgrow (fun e => hvm e.symm)).far (p := ⟨w2.heap.size, 2, none⟩) (show w.heap.size ≠ w2.heap.size by omega) _
    · have hst := cmdsG_err s0 k hz1 (N - k)
      rw [show k + (N - k) = N by omega] at hst
      have hek : (endG (cmdsG k s0).2).2 ≠ 0 := by unfold endG leftG; rw [if_pos hz1, if_neg (by decide)]; exact hz1
      have Hr := veil (show readR bl = (noReq, (endG (cmdsG k s0).2).2) by rw [Hread.out]; simp only [hst]; rw [if_pos hek])
      have hzb : ((cmdsG k s0).2.2 == 0) = false := by simpa using hz1
      have i1 : (k : Int) < (N : Int) := by omega
      obtain ⟨l, hl⟩ : ∃ l, l = (cmdsG k s0).1 := ⟨_, rfl⟩
      obtain ⟨s, hs⟩ : ∃ s, s = (cmdsG k s0).2 := ⟨_, rfl⟩
      rw [← hl, ← hs] at hR
      rw [← hl] at l1
      rw [← hs] at t1 hzb Hr hek
      have heb : ((endG s).2 != 0) = true := by simpa using hek
      clear hl hs l2 hst hek hz1 Hread
      have hkl : l.length ≤ 1000000 := by omega
      have hlt0 := hm.lt
      obtain ⟨xs, cap, hv, hat⟩ := hR.own.at_
      subst hv
      go_wp2_with fail
      refine (end_rget _ _ _ hR.get).mono ?_
      rintro e w6 ⟨rfl, hg6, hk6⟩
      have hR6 := hR.read hg6 hk6
      have hm6 := hm.kept hk6 (by omega)
      have hat6 : CmdsAt w6 xs l := by
        obtain ⟨xs', cap', hv', hat'⟩ := hR6.own.at_
        injection hv' with h1 h2 h3
        rw [h1]; exact hat'
      have d0 := hm6.cell 0
      have d1 := hm6.cell 1
      have d2 := hm6.cell 2
      have e0 := hm6.frozen 0
      have e1 := hm6.frozen 1
      have e2 := hm6.frozen 2
      have r0 := hR6.req.cell 0
      have r1 := hR6.req.cell 1
      have r2 := hR6.req.cell 2
      have hown6 := hR6.own
      have hbw6 := hR6.below
      have hlt6 := hm6.lt
      have hsz6 := hbw6.size
      clear hR hm hg6 hk6 hat
      simp at d0 d1 d2 r0 r1 r2
      have hp := ((hm6.put 0 (.int .i64 0)).put 1 (.int .i64 0)).put 2 (.slice none 0 0)
      have q0 := hp.cell 0
      have q1 := hp.cell 1
      have q2 := hp.cell 2
      have hb9 : Below w.heap.size w (((w6.setCell ⟨w.heap.size, 0, none⟩ (.int .i64 0)).setCell ⟨w.heap.size, 1, none⟩ (.int .i64 0)).setCell ⟨w.heap.size, 2, none⟩ (.slice none 0 0)) := ((hbw6.setCell (p := ⟨w.heap.size, 0, none⟩) (Nat.le_refl _) _).setCell (p := ⟨w.heap.size, 1, none⟩) (Nat.le_refl _) _).setCell (p := ⟨w.heap.size, 2, none⟩) (Nat.le_refl _) _
      clear hp
      go_wp2
      exact bodyPost_ret (v := .tuple #[.agg #[.int .i64 0, .int .i64 0, .slice none 0 0], .int .i64 (endG s).2]) (by simp at q0 q1 q2; simp [results, Tryz.results20, go_sem, q0, q1, q2]) rfl (by rw [Hr.out]; exact ⟨_, rfl, CmdsOwn.nil _ _, hb9⟩)
    · obtain rfl : k = N := by omega
      obtain ⟨l, hl⟩ : ∃ l, l = (cmdsG k s0).1 := ⟨_, rfl⟩
      obtain ⟨s, hs⟩ : ∃ s, s = (cmdsG k s0).2 := ⟨_, rfl⟩
      rw [← hl, ← hs] at hR Hread
      rw [← hl] at l1
      rw [← hs] at t1
      clear hl hs l2
      subst l1
      have hlt0 := hm.lt
      obtain ⟨xs, cap, hv, hat⟩ := hR.own.at_
      subst hv
      go_wp2_with fail
      refine (end_rget _ _ _ hR.get).mono ?_
      rintro e w6 ⟨rfl, hg6, hk6⟩
      have hR6 := hR.read hg6 hk6
      have hm6 := hm.kept hk6 (by omega)
      have hat6 : CmdsAt w6 xs l := by
        obtain ⟨xs', cap', hv', hat'⟩ := hR6.own.at_
        injection hv' with h1 h2 h3
        rw [h1]; exact hat'
      have d0 := hm6.cell 0
      have d1 := hm6.cell 1
      have d2 := hm6.cell 2
      have e0 := hm6.frozen 0
      have e1 := hm6.frozen 1
      have e2 := hm6.frozen 2
      have r0 := hR6.req.cell 0
      have r1 := hR6.req.cell 1
      have r2 := hR6.req.cell 2
      have hown6 := hR6.own
      have hbw6 := hR6.below
      have hlt6 := hm6.lt
      have hsz6 := hbw6.size
      clear hR hm hg6 hk6 hat
      simp at d0 d1 d2 r0 r1 r2
      by_cases he : (endG s).2 = 0
      · have Hr := veil (show readR bl = if (ReqS.check ⟨C, Q, l⟩ ≠ 0 ∨ ReqS.laid ⟨C, Q, l⟩ ≠ strS bl) then (noReq, 6) else (⟨C, Q, l⟩, 0) by rw [Hread.out]; rw [if_neg (by simpa using he)])
        have heb : ((endG s).2 != 0) = false := by rw [he]; rfl
        have hvm := hown6.ne hm6 (by decide)
        have hlay := lay_ref C Q xs l cap w6 hat6
        obtain ⟨ck, hck⟩ : ∃ ck, ck = ReqS.check ⟨C, Q, l⟩ := ⟨_, rfl⟩
        obtain ⟨ls, hls⟩ : ∃ ls, ls = ReqS.laid ⟨C, Q, l⟩ := ⟨_, rfl⟩
        rw [← hck, ← hls] at hlay Hr
        have Hreq := hR6.req
        rw [he]
        clear hck hls Hread he heb hat6 hR6
        go_wp2_with fail
        refine hlay.mono ?_
        rintro e w7 ⟨rfl, hb7⟩
        have hm7 := hm6.below hb7 hlt6
        have hr7 := Hreq.below hb7 Hreq.lt
        have hown7 := hown6.below hb7
        have hbw7 := hbw6.trans (hb7.mono hsz6)
        have d0 := hm7.cell 0
        have d1 := hm7.cell 1
        have d2 := hm7.cell 2
        have e0 := hm7.frozen 0
        have e1 := hm7.frozen 1
        have e2 := hm7.frozen 2
        have r0 := hr7.cell 0
        have r1 := hr7.cell 1
        have r2 := hr7.cell 2
        have hlt7 := hm7.lt
        simp at d0 d1 d2 r0 r1 r2
        by_cases hc0 : ck = 0
        · subst hc0
          by_cases hl0 : ls = strS bl
          · subst hl0
            have Hr2 := veil (show readR bl = (⟨C, Q, l⟩, 0) by rw [Hr.out, if_neg (by simp)])
            have hp := ((hm7.put 0 (.int .i64 C)).put 1 (.int .i64 Q)).put 2 (.slice xs l.length cap)
            have q0 := hp.cell 0
            have q1 := hp.cell 1
            have q2 := hp.cell 2
            have hb9 : Below w.heap.size w (((w7.setCell ⟨w.heap.size, 0, none⟩ (.int .i64 C)).setCell ⟨w.heap.size, 1, none⟩ (.int .i64 Q)).setCell ⟨w.heap.size, 2, none⟩ (.slice xs l.length cap)) := ((hbw7.setCell (p := ⟨w.heap.size, 0, none⟩) (Nat.le_refl _) _).setCell (p := ⟨w.heap.size, 1, none⟩) (Nat.le_refl _) _).setCell (p := ⟨w.heap.size, 2, none⟩) (Nat.le_refl _) _
            have hk9 : Keeps (fun k => k = w.heap.size) w7 (((w7.setCell ⟨w.heap.size, 0, none⟩ (.int .i64 C)).setCell ⟨w.heap.size, 1, none⟩ (.int .i64 Q)).setCell ⟨w.heap.size, 2, none⟩ (.slice xs l.length cap)) := ((Keeps.setCell (S := fun k => k = w.heap.size) (p := ⟨w.heap.size, 0, none⟩) (Keeps.rfl' _ _) (.inr rfl) _).setCell (p := ⟨w.heap.size, 1, none⟩) (.inr rfl) _).setCell (p := ⟨w.heap.size, 2, none⟩) (.inr rfl) _
            have Hown9 := veil (hown7.kept hk9 (fun j hj e => hvm (by rw [hj, e])))
            have Hb9 := veil hb9
            clear hp hk9 hb9 hown7
            go_wp2
            exact bodyPost_ret (v := .tuple #[.agg #[.int .i64 C, .int .i64 Q, .slice xs l.length cap], .int .i64 0]) (by simp at q0 q1 q2; simp [results, Tryz.results20, go_sem, q0, q1, q2]) rfl (by rw [Hr2.out]; exact ⟨_, rfl, Hown9.out, Hb9.out⟩)
          · have hnb : (ls.toList == bl) = false := by
              rw [beq_eq_false_iff_ne, ByteArray.toList_eq]
              exact fun e => hl0 (by apply bytes_ext; rw [e])
            have Hr := veil (show readR bl = (noReq, 6) by rw [Hr.out, if_pos (.inr hl0)])
            clear hl0
            have hp := ((hm7.put 0 (.int .i64 0)).put 1 (.int .i64 0)).put 2 (.slice none 0 0)
            have q0 := hp.cell 0
            have q1 := hp.cell 1
            have q2 := hp.cell 2
            have hb9 : Below w.heap.size w (((w7.setCell ⟨w.heap.size, 0, none⟩ (.int .i64 0)).setCell ⟨w.heap.size, 1, none⟩ (.int .i64 0)).setCell ⟨w.heap.size, 2, none⟩ (.slice none 0 0)) := ((hbw7.setCell (p := ⟨w.heap.size, 0, none⟩) (Nat.le_refl _) _).setCell (p := ⟨w.heap.size, 1, none⟩) (Nat.le_refl _) _).setCell (p := ⟨w.heap.size, 2, none⟩) (Nat.le_refl _) _
            clear hp
            go_wp2
            exact bodyPost_ret (v := .tuple #[.agg #[.int .i64 0, .int .i64 0, .slice none 0 0], .int .i64 6]) (by simp at q0 q1 q2; simp [results, Tryz.results20, go_sem, q0, q1, q2]) rfl (by rw [Hr.out]; exact ⟨_, rfl, CmdsOwn.nil _ _, hb9⟩)
        · have hnb : (ck != 0) = true := by simpa using hc0
          have Hr := veil (show readR bl = (noReq, 6) by rw [Hr.out, if_pos (.inl hc0)])
          have hp := ((hm7.put 0 (.int .i64 0)).put 1 (.int .i64 0)).put 2 (.slice none 0 0)
          have q0 := hp.cell 0
          have q1 := hp.cell 1
          have q2 := hp.cell 2
          have hb9 : Below w.heap.size w (((w7.setCell ⟨w.heap.size, 0, none⟩ (.int .i64 0)).setCell ⟨w.heap.size, 1, none⟩ (.int .i64 0)).setCell ⟨w.heap.size, 2, none⟩ (.slice none 0 0)) := ((hbw7.setCell (p := ⟨w.heap.size, 0, none⟩) (Nat.le_refl _) _).setCell (p := ⟨w.heap.size, 1, none⟩) (Nat.le_refl _) _).setCell (p := ⟨w.heap.size, 2, none⟩) (Nat.le_refl _) _
          clear hp
          go_wp2
          exact bodyPost_ret (v := .tuple #[.agg #[.int .i64 0, .int .i64 0, .slice none 0 0], .int .i64 6]) (by simp at q0 q1 q2; simp [results, Tryz.results20, go_sem, q0, q1, q2]) rfl (by rw [Hr.out]; exact ⟨_, rfl, CmdsOwn.nil _ _, hb9⟩)
      · have heb : ((endG s).2 != 0) = true := by simpa using he
        have Hr := veil (show readR bl = (noReq, (endG s).2) by rw [Hread.out, if_pos he])
        clear Hread
        have hp := ((hm6.put 0 (.int .i64 0)).put 1 (.int .i64 0)).put 2 (.slice none 0 0)
        have q0 := hp.cell 0
        have q1 := hp.cell 1
        have q2 := hp.cell 2
        have hb9 : Below w.heap.size w (((w6.setCell ⟨w.heap.size, 0, none⟩ (.int .i64 0)).setCell ⟨w.heap.size, 1, none⟩ (.int .i64 0)).setCell ⟨w.heap.size, 2, none⟩ (.slice none 0 0)) := ((hbw6.setCell (p := ⟨w.heap.size, 0, none⟩) (Nat.le_refl _) _).setCell (p := ⟨w.heap.size, 1, none⟩) (Nat.le_refl _) _).setCell (p := ⟨w.heap.size, 2, none⟩) (Nat.le_refl _) _
        clear hp
        go_wp2
        exact bodyPost_ret (v := .tuple #[.agg #[.int .i64 0, .int .i64 0, .slice none 0 0], .int .i64 (endG s).2]) (by simp at q0 q1 q2; simp [results, Tryz.results20, go_sem, q0, q1, q2]) rfl (by rw [Hr.out]; exact ⟨_, rfl, CmdsOwn.nil _ _, hb9⟩)
end Go.Proofs.YtjonmggkmalgaaaGreatDoor

/-
  cmd.ReadEntry at whatever bytes. (Printed by gen_readentry.py.)
-/
import Derived.Test.YtjonmggkmalgaaaGreatDoorW46Read
namespace Go.Proofs.YtjonmggkmalgaaaGreatDoor
open Go.RowKit Go.Lib

def noEnt : EntS := ⟨0, 0, noReq⟩
def readE (b : List UInt8) : EntS × Int :=
  let i := smallG 4 (b, 0)
  let t := smallG 4 i.2
  if t.2.2 ≠ 0 then (noEnt, t.2.2)
  else
    let r := readR (rawG (leftG t.2) t.2).1
    if r.2 ≠ 0 then (noEnt, r.2)
    else if EntS.check ⟨i.1, t.1, r.1⟩ ≠ 0 ∨ EntS.laid ⟨i.1, t.1, r.1⟩ ≠ strS b then (noEnt, 6) else (⟨i.1, t.1, r.1⟩, 0)

def ReadEPost (w : World) (x : EntS) (err : Int) (e : Ending) (w' : World) : Prop :=
  ∃ v, e = .returned (.tuple #[.agg #[.int .i64 x.index, .int .i64 x.term, .int .i64 x.req.client, .int .i64 x.req.seq, v], .int .i64 err]) ∧ CmdsOwn w' w.heap.size v x.req.cmds ∧ Below w.heap.size w w'

theorem CmdsOwn.base {w : World} {b b' : Nat} {v : Value} {l : List CmdS} (h : CmdsOwn w b v l) (hb : b' ≤ b) : CmdsOwn w b' v l := by
  obtain ⟨hl, hh⟩ := h
  refine ⟨hl, ?_⟩
  rcases hh with hh | ⟨g, cap, cur, h1, h2, h3⟩
  · exact .inl hh
  · exact .inr ⟨g, cap, cur, h1, by omega, h3⟩

theorem readR_length (b : List UInt8) : (readR b).1.cmds.length ≤ 255 := by
  unfold readR
  simp only
  split
  · simp [noReq]
  · split
    · simp [noReq]
    · unfold reqG
      simp only
      rw [(cmdsG_length _ _).2]
      have := smallG_one (intG (intG (b, 0)).2).2
      omega

theorem Lies.put5 {w : World} {b : Nat} {t : TypeId} {a0 a1 a2 a3 a4 : Value} (h : Lies w b t [a0, a1, a2, a3, a4]) (u0 u1 u2 u3 u4 : Value) :
    Lies (((((w.setCell ⟨b, 0, none⟩ u0).setCell ⟨b, 1, none⟩ u1).setCell ⟨b, 2, none⟩ u2).setCell ⟨b, 3, none⟩ u3).setCell ⟨b, 4, none⟩ u4) b t [u0, u1, u2, u3, u4] :=
  ((((h.put 0 u0).put 1 u1).put 2 u2).put 3 u3).put 4 u4
theorem Keeps.put5 {w : World} (b : Nat) (u0 u1 u2 u3 u4 : Value) :
    Keeps (fun k => k = b) w (((((w.setCell ⟨b, 0, none⟩ u0).setCell ⟨b, 1, none⟩ u1).setCell ⟨b, 2, none⟩ u2).setCell ⟨b, 3, none⟩ u3).setCell ⟨b, 4, none⟩ u4) :=
  ((((Keeps.setCell (S := fun k => k = b) (p := ⟨b, 0, none⟩) (Keeps.rfl' _ _) (.inr rfl) _).setCell (p := ⟨b, 1, none⟩) (.inr rfl) _).setCell (p := ⟨b, 2, none⟩) (.inr rfl) _).setCell (p := ⟨b, 3, none⟩) (.inr rfl) _).setCell (p := ⟨b, 4, none⟩) (.inr rfl) _

set_option maxHeartbeats 2000000 in
set_option maxRecDepth 100000 in
theorem readentry_any (bl : List UInt8) (w : World) (hbl : bl.length ≤ 1000000) :
    Calls Tryz.prog 9 #[.string (strS bl)] w (ReadEPost w (readE bl).1 (readE bl).2) := by
  have hm := Lies.made w 31 [.int .i64 0, .int .i64 0, .int .i64 0, .int .i64 0, .slice none 0 0]
  have ha := box_made w 31 [.int .i64 0, .int .i64 0, .int .i64 0, .int .i64 0, .slice none 0 0]
  have hfrom := from_get (strS bl) (w.alloc (.cells [.int .i64 0, .int .i64 0, .int .i64 0, .int .i64 0, .slice none 0 0].toArray 31))
  rw [strS_list] at hfrom
  obtain ⟨I, hI⟩ : ∃ I, I = smallG 4 (bl, 0) := ⟨_, rfl⟩
  obtain ⟨J, hJ⟩ : ∃ J, J = smallG 4 I.2 := ⟨_, rfl⟩
  have Hread := veil (show readE bl = if J.2.2 ≠ 0 then (noEnt, J.2.2) else if (readR (rawG (leftG J.2) J.2).1).2 ≠ 0 then (noEnt, (readR (rawG (leftG J.2) J.2).1).2) else if EntS.check ⟨I.1, J.1, (readR (rawG (leftG J.2) J.2).1).1⟩ ≠ 0 ∨ EntS.laid ⟨I.1, J.1, (readR (rawG (leftG J.2) J.2).1).1⟩ ≠ strS bl then (noEnt, 6) else (⟨I.1, J.1, (readR (rawG (leftG J.2) J.2).1).1⟩, 0) by rw [hJ, hI]; rfl)
  have hIl : I.2.1.length ≤ 1000000 := by rw [hI]; exact Nat.le_trans (smallG_length 4 (bl, 0)) hbl
  have hJl : J.2.1.length ≤ 1000000 := by rw [hJ]; exact Nat.le_trans (smallG_length 4 I.2) hIl
  go_enter Tryz.func9, Tryz.ntmps9
  go_wp2_with fail
  refine hfrom.mono ?_
  rintro e w1 ⟨rfl, hg1, hlt1, hb1⟩
  have hm1 := hm.below hb1 hm.lt
  have hbw1 := ha.trans (hb1.mono ha.size)
  have hsz0 : w.heap.size + 1 ≤ w1.heap.size := by have := hb1.size; simpa using this
  simp only [World.alloc, Array.size_push] at hg1 hlt1
  have hw1 := word_get _ _ _ hg1 hbl
  rw [← hI] at hw1
  clear hI
  go_wp2_with fail
  refine hw1.mono ?_
  rintro e w2 ⟨rfl, hg2, hk2⟩
  have hsz1 := hbw1.size
  have hbw2 := (hbw1.trans (hk2.toBelow hsz1 (fun j hj => by omega))).alloc (by have := hk2.size; omega) (.cells #[.int .i64 I.1, .int .i64 0, .int .i64 0, .int .i64 0, .slice none 0 0] 31)
  have hm2 := (hm1.kept hk2 (by omega)).alloc (.cells #[.int .i64 I.1, .int .i64 0, .int .i64 0, .int .i64 0, .slice none 0 0] 31)
  have he2 := Lies.made w2 31 [.int .i64 I.1, .int .i64 0, .int .i64 0, .int .i64 0, .slice none 0 0]
  have hg2' : GetAt (w2.alloc (.cells #[.int .i64 I.1, .int .i64 0, .int .i64 0, .int .i64 0, .slice none 0 0] 31)) (w.heap.size + 1) I.2 := Lies.alloc hg2 _
  have hsz2 := hk2.size
  have hw2 := word_get _ _ _ hg2' hIl
  rw [← hJ] at hw2
  clear hfrom hg1 hk2 hm hm1 hbw1 hb1 ha hJ hw1 hg2
  go_wp2_with fail
  refine hw2.mono ?_
  rintro e w3 ⟨rfl, hg3, hk3⟩
  have hm3 := hm2.kept hk3 (by omega)
  have he3 := he2.kept hk3 (by omega)
  have hszb := hbw2.size
  have hbw3 := hbw2.trans (hk3.toBelow hszb (fun j hj => by omega))
  have c1 := he3.cell 1
  have f1 := he3.frozen 1
  have hl3 := he3.lt
  have hm4 := hm3.far (p := ⟨w2.heap.size, 1, none⟩) (show w.heap.size ≠ w2.heap.size by omega) (.int .i64 J.1)
  have he4 := he3.put 1 (.int .i64 J.1)
  have hg4 : GetAt (w3.setCell ⟨w2.heap.size, 1, none⟩ (.int .i64 J.1)) (w.heap.size + 1) J.2 := Lies.far hg3 (p := ⟨w2.heap.size, 1, none⟩) (show w.heap.size + 1 ≠ w2.heap.size by omega) _
  have hbw4 := hbw3.setCell (p := ⟨w2.heap.size, 1, none⟩) (show w.heap.size ≤ w2.heap.size by omega) (.int .i64 J.1)
  simp at c1
  clear hw2 hg2' hk3 hm2 he2 hbw2 hm3 he3 hg3 hbw3
  go_wp2_with fail
  refine (bad_get _ _ _ hg4).mono ?_
  rintro e w4 ⟨rfl, rfl⟩
  clear c1 f1
  obtain ⟨w4, hw4⟩ : ∃ w4, w4 = w3.setCell ⟨w2.heap.size, 1, none⟩ (.int .i64 J.1) := ⟨_, rfl⟩
  rw [← hw4] at hm4 he4 hg4 hbw4 ⊢
  have hsz4 : w3.heap.size = w4.heap.size := by rw [hw4]; simp [World.setCell]
  rw [hsz4] at hl3
  clear hw4 hsz4
  have hml := hm4.lt
  have hszw4 := hbw4.size
  by_cases hJ0 : J.2.2 = 0
  · have hJb : (J.2.2 != 0) = false := by rw [hJ0]; rfl
    have Hr := veil (show readE bl = if (readR (rawG (leftG J.2) J.2).1).2 ≠ 0 then (noEnt, (readR (rawG (leftG J.2) J.2).1).2) else if EntS.check ⟨I.1, J.1, (readR (rawG (leftG J.2) J.2).1).1⟩ ≠ 0 ∨ EntS.laid ⟨I.1, J.1, (readR (rawG (leftG J.2) J.2).1).1⟩ ≠ strS bl then (noEnt, 6) else (⟨I.1, J.1, (readR (rawG (leftG J.2) J.2).1).1⟩, 0) by rw [Hread.out, if_neg (by simpa using hJ0)])
    have hleft := left_get _ _ _ hg4
    have hll : leftG J.2 ≤ 1000000000 := by unfold leftG; split <;> omega
    have hrl : (rawG (leftG J.2) J.2).1.length ≤ 1000000 := by
      unfold rawG
      split
      · simp
      · split
        · simp
        · split
          · simp
          · simp; omega
    have hraw := raw_get _ (leftG J.2) _ _ hg4 hJl hll
    obtain ⟨L, hL⟩ : ∃ L, L = leftG J.2 := ⟨_, rfl⟩
    rw [← hL] at Hr hleft hraw hrl
    obtain ⟨R, hR⟩ : ∃ R, R = (rawG L J.2).1 := ⟨_, rfl⟩
    obtain ⟨R2, hR2⟩ : ∃ R2, R2 = (rawG L J.2).2 := ⟨_, rfl⟩
    rw [← hR] at Hr hraw hrl
    rw [← hR2] at hraw
    rw [hJ0]
    clear hL hR hR2 hll Hread hJ0 hJb hJl hIl
    go_wp2_with fail
    refine hleft.mono ?_
    rintro e w' ⟨rfl, rfl⟩
    go_wp2_with fail
    refine hraw.mono ?_
    rintro e w5 ⟨rfl, hg5, hk5⟩
    have hm5 := hm4.kept hk5 (by omega)
    have he5 := he4.kept hk5 (by omega)
    have hbw5 := hbw4.trans (hk5.toBelow hszw4 (fun j hj => by omega))
    have hszw5 := hbw5.size
    have hrd := read_any R w5 hrl
    have hlen := readR_length R
    obtain ⟨q, hq⟩ : ∃ q, q = readR R := ⟨_, rfl⟩
    rw [← hq] at hrd Hr hlen
    obtain ⟨⟨C, Q, l⟩, E⟩ := q
    simp only at hrd Hr hlen
    have hll5 := he5.lt
    clear hg5 hk5 hm4 he4 hg4 hbw4 hleft hraw hq
    go_wp2_with fail
    refine hrd.mono ?_
    rintro e w6 ⟨v, rfl, hown, hb6⟩
    obtain ⟨xs, cap, hv, hat⟩ := hown.at_
    subst hv
    have hbw6 := hbw5.trans (hb6.mono hszw5)
    have hszw6 := hbw6.size
    have ha6 := box_made w6 24 [.int .i64 C, .int .i64 Q, .slice xs l.length cap]
    have hm6 := (hm5.below hb6 hm5.lt).below ha6 (hm5.below hb6 hm5.lt).lt
    have he6 := (he5.below hb6 he5.lt).below ha6 (he5.below hb6 he5.lt).lt
    have hq6 := Lies.made w6 24 [.int .i64 C, .int .i64 Q, .slice xs l.length cap]
    have hown6 := (hown.below ha6).base hszw5
    have hbw7 := hbw6.trans (ha6.mono hszw6)
    have hlt6 := hm6.lt
    have hlt6e := he6.lt
    have d0 := hm6.cell 0
    have d1 := hm6.cell 1
    have d2 := hm6.cell 2
    have d3 := hm6.cell 3
    have d4 := hm6.cell 4
    have e0 := hm6.frozen 0
    have e1 := hm6.frozen 1
    have e2 := hm6.frozen 2
    have e3 := hm6.frozen 3
    have e4 := hm6.frozen 4
    have b2 := he6.cell 2
    have b3 := he6.cell 3
    have b4 := he6.cell 4
    have g2 := he6.frozen 2
    have g3 := he6.frozen 3
    have g4 := he6.frozen 4
    simp at d0 d1 d2 d3 d4 b2 b3 b4 e0 e1 e2 e3 e4 g2 g3 g4
    clear hrd hown hm5 he5 hb6
    by_cases hE : E = 0
    · subst hE
      have Hr2 := veil (show readE bl = if EntS.check ⟨I.1, J.1, C, Q, l⟩ ≠ 0 ∨ EntS.laid ⟨I.1, J.1, C, Q, l⟩ ≠ strS bl then (noEnt, 6) else (⟨I.1, J.1, C, Q, l⟩, 0) by rw [Hr.out]; rfl)
      clear Hr
      have he7 := ((he6.put 2 (.int .i64 C)).put 3 (.int .i64 Q)).put 4 (.slice xs l.length cap)
      have hS : Keeps (fun k => k = w2.heap.size) (w6.alloc (.cells #[.int .i64 C, .int .i64 Q, .slice xs l.length cap] 24)) ((((w6.alloc (.cells #[.int .i64 C, .int .i64 Q, .slice xs l.length cap] 24)).setCell ⟨w2.heap.size, 2, none⟩ (.int .i64 C)).setCell ⟨w2.heap.size, 3, none⟩ (.int .i64 Q)).setCell ⟨w2.heap.size, 4, none⟩ (.slice xs l.length cap)) :=
        ((Keeps.setCell (S := fun k => k = w2.heap.size) (p := ⟨w2.heap.size, 2, none⟩) (Keeps.rfl' _ _) (.inr rfl) _).setCell (p := ⟨w2.heap.size, 3, none⟩) (.inr rfl) _).setCell (p := ⟨w2.heap.size, 4, none⟩) (.inr rfl) _
      obtain ⟨W7, hW7⟩ : ∃ W7, W7 = ((((w6.alloc (.cells #[.int .i64 C, .int .i64 Q, .slice xs l.length cap] 24)).setCell ⟨w2.heap.size, 2, none⟩ (.int .i64 C)).setCell ⟨w2.heap.size, 3, none⟩ (.int .i64 Q)).setCell ⟨w2.heap.size, 4, none⟩ (.slice xs l.length cap)) := ⟨_, rfl⟩
      rw [← hW7] at hS he7
      have hm7 := hm6.kept hS (by omega)
      have hown7 := hown6.kept hS (fun j hj e => hown6.ne he6 (by decide) (by rw [hj, e]))
      have hbw8 := hbw7.trans (hS.toBelow hbw7.size (fun j hj => by omega))
      have hszw8 := hbw8.size
      obtain ⟨xs', cap', hv', hat7⟩ := hown7.at_
      have hxs : xs' = xs := by injection hv' with h1 h2 h3; exact h1.symm
      rw [hxs] at hat7
      have hen := entry_any I.1 J.1 C Q xs l cap W7 hat7 (by omega)
      have p0 := he7.cell 0
      have p1 := he7.cell 1
      have p2 := he7.cell 2
      have p3 := he7.cell 3
      have p4 := he7.cell 4
      simp at p0 p1 p2 p3 p4
      have hvm := hown7.ne hm7 (by decide)
      have hml7 := hm7.lt
      rw [hW7] at p0 p1 p2 p3 p4
      clear hv' hxs hS
      go_wp2_with fail
      rw [← hW7]
      clear p0 p1 p2 p3 p4 d0 d1 d2 d3 d4 e0 e1 e2 e3 e4 b2 b3 b4 g2 g3 g4 hW7 hm6 he6 hown6
      refine hen.mono ?_
      rintro e w8 ⟨rfl, hb8⟩
      have hm8 := hm7.below hb8 hml7
      have he8 := he7.below hb8 he7.lt
      have hown8 := hown7.below hb8
      have hbw9 := hbw8.trans (hb8.mono hszw8)
      have hlt8 := hm8.lt
      have d0 := hm8.cell 0
      have d1 := hm8.cell 1
      have d2 := hm8.cell 2
      have d3 := hm8.cell 3
      have d4 := hm8.cell 4
      have e0 := hm8.frozen 0
      have e1 := hm8.frozen 1
      have e2 := hm8.frozen 2
      have e3 := hm8.frozen 3
      have e4 := hm8.frozen 4
      have p0 := he8.cell 0
      have p1 := he8.cell 1
      have p2 := he8.cell 2
      have p3 := he8.cell 3
      have p4 := he8.cell 4
      simp at d0 d1 d2 d3 d4 p0 p1 p2 p3 p4
      obtain ⟨ck, hck⟩ : ∃ ck, ck = EntS.check ⟨I.1, J.1, C, Q, l⟩ := ⟨_, rfl⟩
      obtain ⟨ls, hls⟩ : ∃ ls, ls = EntS.laid ⟨I.1, J.1, C, Q, l⟩ := ⟨_, rfl⟩
      rw [← hck, ← hls] at Hr2 ⊢
      clear hck hls hen hm7 he7 hown7 hb8 hat7
      by_cases hc0 : ck = 0
      · subst hc0
        by_cases hl0 : ls = strS bl
        · subst hl0
          have Hr3 := veil (show readE bl = (⟨I.1, J.1, C, Q, l⟩, 0) by rw [Hr2.out, if_neg (by simp)])
          have hp := Lies.put5 hm8 (.int .i64 I.1) (.int .i64 J.1) (.int .i64 C) (.int .i64 Q) (.slice xs l.length cap)
          have q0 := hp.cell 0
          have q1 := hp.cell 1
          have q2 := hp.cell 2
          have q3 := hp.cell 3
          have q4 := hp.cell 4
          have hk9 := Keeps.put5 (w := w8) w.heap.size (.int .i64 I.1) (.int .i64 J.1) (.int .i64 C) (.int .i64 Q) (.slice xs l.length cap)
          have Hb9 := veil (hbw9.trans (hk9.toBelow hbw9.size (fun j hj => by omega)))
          have Hown9 := veil (hown8.kept hk9 (fun j hj e => hvm (by rw [hj, e])))
          clear hp hk9 hown8
          go_wp2
          exact bodyPost_ret (v := .tuple #[.agg #[.int .i64 I.1, .int .i64 J.1, .int .i64 C, .int .i64 Q, .slice xs l.length cap], .int .i64 0]) (by simp at q0 q1 q2 q3 q4; simp [results, Tryz.results9, go_sem, q0, q1, q2, q3, q4]) rfl (by rw [Hr3.out]; exact ⟨_, rfl, Hown9.out, Hb9.out⟩)
        · have hnb : (ls.toList == bl) = false := by
            rw [beq_eq_false_iff_ne, ByteArray.toList_eq]
            exact fun e => hl0 (by apply bytes_ext; rw [e])
          have Hr2 := veil (show readE bl = (noEnt, 6) by rw [Hr2.out, if_pos (.inr hl0)])
          clear hl0
          have hp := Lies.put5 hm8 (.int .i64 0) (.int .i64 0) (.int .i64 0) (.int .i64 0) (.slice none 0 0)
          have q0 := hp.cell 0
          have q1 := hp.cell 1
          have q2 := hp.cell 2
          have q3 := hp.cell 3
          have q4 := hp.cell 4
          have Hb9 := veil (hbw9.trans ((Keeps.put5 w.heap.size (.int .i64 0) (.int .i64 0) (.int .i64 0) (.int .i64 0) (.slice none 0 0)).toBelow hbw9.size (fun j hj => by omega)))
          clear hp
          go_wp2
          exact bodyPost_ret (v := .tuple #[.agg #[.int .i64 0, .int .i64 0, .int .i64 0, .int .i64 0, .slice none 0 0], .int .i64 6]) (by simp at q0 q1 q2 q3 q4; simp [results, Tryz.results9, go_sem, q0, q1, q2, q3, q4]) rfl (by rw [Hr2.out]; exact ⟨_, rfl, CmdsOwn.nil _ _, Hb9.out⟩)
      · have hnb : (ck != 0) = true := by simpa using hc0
        have Hr2 := veil (show readE bl = (noEnt, 6) by rw [Hr2.out, if_pos (.inl hc0)])
        have hp := Lies.put5 hm8 (.int .i64 0) (.int .i64 0) (.int .i64 0) (.int .i64 0) (.slice none 0 0)
        have q0 := hp.cell 0
        have q1 := hp.cell 1
        have q2 := hp.cell 2
        have q3 := hp.cell 3
        have q4 := hp.cell 4
        have Hb9 := veil (hbw9.trans ((Keeps.put5 w.heap.size (.int .i64 0) (.int .i64 0) (.int .i64 0) (.int .i64 0) (.slice none 0 0)).toBelow hbw9.size (fun j hj => by omega)))
        clear hp
        go_wp2
        exact bodyPost_ret (v := .tuple #[.agg #[.int .i64 0, .int .i64 0, .int .i64 0, .int .i64 0, .slice none 0 0], .int .i64 6]) (by simp at q0 q1 q2 q3 q4; simp [results, Tryz.results9, go_sem, q0, q1, q2, q3, q4]) rfl (by rw [Hr2.out]; exact ⟨_, rfl, CmdsOwn.nil _ _, Hb9.out⟩)
    · have hEb : (E != 0) = true := by simpa using hE
      have Hr2 := veil (show readE bl = (noEnt, E) by rw [Hr.out]; exact if_pos hE)
      clear Hr
      have hp := Lies.put5 hm6 (.int .i64 0) (.int .i64 0) (.int .i64 0) (.int .i64 0) (.slice none 0 0)
      have q0 := hp.cell 0
      have q1 := hp.cell 1
      have q2 := hp.cell 2
      have q3 := hp.cell 3
      have q4 := hp.cell 4
      have Hb9 := veil (hbw7.trans ((Keeps.put5 w.heap.size (.int .i64 0) (.int .i64 0) (.int .i64 0) (.int .i64 0) (.slice none 0 0)).toBelow hbw7.size (fun j hj => by omega)))
      clear hp
      go_wp2
      exact bodyPost_ret (v := .tuple #[.agg #[.int .i64 0, .int .i64 0, .int .i64 0, .int .i64 0, .slice none 0 0], .int .i64 E]) (by simp at q0 q1 q2 q3 q4; simp [results, Tryz.results9, go_sem, q0, q1, q2, q3, q4]) rfl (by rw [Hr2.out]; exact ⟨_, rfl, CmdsOwn.nil _ _, Hb9.out⟩)
  · have hJb : (J.2.2 != 0) = true := by simpa using hJ0
    have Hr2 := veil (show readE bl = (noEnt, J.2.2) by rw [Hread.out, if_pos hJ0])
    clear Hread
    have d0 := hm4.cell 0
    have d1 := hm4.cell 1
    have d2 := hm4.cell 2
    have d3 := hm4.cell 3
    have d4 := hm4.cell 4
    have e0 := hm4.frozen 0
    have e1 := hm4.frozen 1
    have e2 := hm4.frozen 2
    have e3 := hm4.frozen 3
    have e4 := hm4.frozen 4
    simp at d0 d1 d2 d3 d4 e0 e1 e2 e3 e4
    have hp := Lies.put5 hm4 (.int .i64 0) (.int .i64 0) (.int .i64 0) (.int .i64 0) (.slice none 0 0)
    have q0 := hp.cell 0
    have q1 := hp.cell 1
    have q2 := hp.cell 2
    have q3 := hp.cell 3
    have q4 := hp.cell 4
    have Hb9 := veil (hbw4.trans ((Keeps.put5 w.heap.size (.int .i64 0) (.int .i64 0) (.int .i64 0) (.int .i64 0) (.slice none 0 0)).toBelow hbw4.size (fun j hj => by omega)))
    clear hp
    go_wp2
    exact bodyPost_ret (v := .tuple #[.agg #[.int .i64 0, .int .i64 0, .int .i64 0, .int .i64 0, .slice none 0 0], .int .i64 J.2.2]) (by simp at q0 q1 q2 q3 q4; simp [results, Tryz.results9, go_sem, q0, q1, q2, q3, q4]) rfl (by rw [Hr2.out]; exact ⟨_, rfl, CmdsOwn.nil _ _, Hb9.out⟩)
end Go.Proofs.YtjonmggkmalgaaaGreatDoor

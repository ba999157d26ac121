/-
  The document's ReadEntry at whatever bytes: it tells what cmd.ReadEntry tells. (Printed by gen_refentry.py.)
-/
import Derived.Test.YtjonmggkmalgaaaGreatDoorW47ReadEntry
import Derived.Test.YtjonmggkmalgaaaGreatDoorW62RefRead
import Derived.StillTailTactics
namespace Go.Proofs.YtjonmggkmalgaaaGreatDoor
open Go.RowKit Go.Lib
attribute [local go_sem ↓] Go.wp_at_zero Go.wp_at_succ

theorem rawG_all (n : Nat) (l : List UInt8) (h : n ≤ l.length) : rawG n (l, 0) = (l.take n, (l.drop n, 0)) := by
  unfold rawG
  rw [if_neg (by simp), if_neg (by simp), if_neg (by simp; omega)]
  rfl
theorem rawG_short (n : Nat) (l : List UInt8) (h : l.length < n) : rawG n (l, 0) = ([], (l, 5)) := by
  unfold rawG
  rw [if_neg (by simp), if_neg (by simp), if_pos (by simp; omega)]
theorem smallG_all (n : Nat) (l : List UInt8) (h : n ≤ l.length) : smallG n (l, 0) = ((leVal (l.take n) : Int), (l.drop n, 0)) := by
  unfold smallG lowG
  rw [rawG_all n l h]
theorem smallG_short (n : Nat) (l : List UInt8) (h : l.length < n) : smallG n (l, 0) = (0, (l, 5)) := by
  unfold smallG lowG
  rw [rawG_short n l h]
  rfl

theorem readE_short (b : List UInt8) (h : b.length < 8) : readE b = (noEnt, 5) := by
  have key : (smallG 4 (smallG 4 (b, 0)).2).2.2 = 5 := by
    by_cases h4 : b.length < 4
    · rw [smallG_short 4 b h4, smallG_err 4 _ (show (5 : Int) ≠ 0 by decide)]
    · rw [smallG_all 4 b (by omega), smallG_short 4 (b.drop 4) (by rw [List.length_drop]; omega)]
  unfold readE
  simp only
  rw [key, if_pos (by decide)]

theorem readE_long (b : List UInt8) (h : 8 ≤ b.length) : readE b = if (readR (b.drop 8)).2 ≠ 0 then (noEnt, (readR (b.drop 8)).2)
    else if EntS.check ⟨leVal (b.take 4), leVal ((b.drop 4).take 4), (readR (b.drop 8)).1⟩ ≠ 0 ∨ EntS.laid ⟨leVal (b.take 4), leVal ((b.drop 4).take 4), (readR (b.drop 8)).1⟩ ≠ strS b then (noEnt, 6) else (⟨leVal (b.take 4), leVal ((b.drop 4).take 4), (readR (b.drop 8)).1⟩, 0) := by
  have k1 : smallG 4 (b, 0) = ((leVal (b.take 4) : Int), (b.drop 4, 0)) := smallG_all 4 b (by omega)
  have k2 : smallG 4 (b.drop 4, 0) = ((leVal ((b.drop 4).take 4) : Int), (b.drop 8, 0)) := by
    rw [smallG_all 4 _ (by rw [List.length_drop]; omega), List.drop_drop]
  have k3 : (rawG (leftG (b.drop 8, 0)) (b.drop 8, 0)).1 = b.drop 8 := by
    have : leftG (b.drop 8, 0) = ((b.drop 8).length : Nat) := by unfold leftG; rw [if_neg (by simp)]
    rw [this, rawG_all _ _ (Nat.le_refl _), List.take_length]
  unfold readE
  simp only
  rw [k1]
  simp only
  rw [k2]
  simp only
  rw [if_neg (by simp), k3]

theorem num_ref4 (l : List UInt8) (w : World) (hl : l.length = 4) :
    Calls Tryz.prog 59 #[.string (strS l)] w fun e w' => e = .returned (.int .u64 ((leVal l : Nat) : Int)) ∧ w = w' := num_ref l w (by omega)

set_option maxHeartbeats 4000000 in
set_option maxRecDepth 100000 in
theorem readentry_ref (bl : List UInt8) (w : World) (hbl : bl.length ≤ 1000000) :
    Calls Tryz.prog 21 #[.string (strS bl)] w (ReadEPost w (readE bl).1 (readE bl).2) := by
  have hm := Lies.made w 31 [.int .i64 0, .int .i64 0, .int .i64 0, .int .i64 0, .slice none 0 0]
  have ha := box_made w 31 [.int .i64 0, .int .i64 0, .int .i64 0, .int .i64 0, .slice none 0 0]
  have hz := strS_size bl
  by_cases h8 : (bl.length : Int) < 8
  · have Hr := veil (readE_short bl (by omega))
    have q0 := hm.cell 0
    have q1 := hm.cell 1
    have q2 := hm.cell 2
    have q3 := hm.cell 3
    have q4 := hm.cell 4
    go_enter Tryz.func21, Tryz.ntmps21
    go_wp2
    exact bodyPost_ret (v := .tuple #[.agg #[.int .i64 0, .int .i64 0, .int .i64 0, .int .i64 0, .slice none 0 0], .int .i64 5]) (by simp at q0 q1 q2 q3 q4; simp [results, Tryz.results21, go_sem]) rfl (by rw [Hr.out]; exact ⟨_, rfl, CmdsOwn.nil _ _, ha⟩)
  · have Hr := veil (readE_long bl (by omega))
    have h8b : (8 : Int) ≤ (bl.length : Int) := by omega
    have h4b : (4 : Int) ≤ (bl.length : Int) := by omega
    have hread := read_ref (bl.drop 8) (w.alloc (.cells #[.int .i64 0, .int .i64 0, .int .i64 0, .int .i64 0, .slice none 0 0] 31)) (by rw [List.length_drop]; omega)
    have hrl := readR_length (bl.drop 8)
    obtain ⟨R, hR⟩ : ∃ R, R = readR (bl.drop 8) := ⟨_, rfl⟩
    rw [← hR] at Hr hread hrl
    obtain ⟨⟨C, Q, l⟩, E⟩ := R
    unfold ReadPost at hread
    simp only at hread hrl
    have hx1 : (strS bl).extract 8 bl.length = strS (bl.drop 8) := by
      rw [strS_extract]
      congr 2
      rw [List.take_of_length_le (by simp)]
    have hx2 : (strS bl).extract 0 4 = strS (bl.take 4) := by rw [strS_extract]; simp
    have hx3 : (strS bl).extract 4 8 = strS ((bl.drop 4).take 4) := by rw [strS_extract]
    have hn4 : (bl.take 4).length = 4 := by rw [List.length_take]; omega
    have hn8 : ((bl.drop 4).take 4).length = 4 := by rw [List.length_take, List.length_drop]; omega
    have hv4 : leVal (bl.take 4) < 4294967296 := by have := leVal_lt (bl.take 4); rw [hn4] at this; simpa using this
    have hv8 : leVal ((bl.drop 4).take 4) < 4294967296 := by have := leVal_lt ((bl.drop 4).take 4); rw [hn8] at this; simpa using this
    have hc4 := fun W => num_ref4 (bl.take 4) W hn4
    have hc8 := fun W => num_ref4 ((bl.drop 4).take 4) W hn8
    obtain ⟨I, hI⟩ : ∃ I, I = leVal (bl.take 4) := ⟨_, rfl⟩
    obtain ⟨J, hJ⟩ : ∃ J, J = leVal ((bl.drop 4).take 4) := ⟨_, rfl⟩
    rw [← hI, ← hJ] at Hr
    rw [← hI] at hv4 hc4
    rw [← hJ] at hv8 hc8
    have hwI : IntKind.i64.wrap (I : Int) = (I : Int) := by rw [IntKind.wrap_i64]; omega
    have hwJ : IntKind.i64.wrap (J : Int) = (J : Int) := by rw [IntKind.wrap_i64]; omega
    have HC := veil (And.intro hc4 hc8)
    clear hR hI hJ hn4 hn8 hv4 hv8 hc4 hc8
    go_enter Tryz.func21, Tryz.ntmps21
    go_wp2_with fail
    refine hread.mono ?_
    rintro e w1 ⟨v, rfl, hown, hb1⟩
    obtain ⟨xs, cap, hv, hat⟩ := hown.at_
    subst hv
    have hbw1 := ha.trans (hb1.mono ha.size)
    have hm1 := hm.below hb1 hm.lt
    have hs1 := hbw1.size
    have ha2 := box_made w1 24 [.int .i64 C, .int .i64 Q, .slice xs l.length cap]
    have hr2 := Lies.made w1 24 [.int .i64 C, .int .i64 Q, .slice xs l.length cap]
    have hm2 := hm1.alloc (.cells #[.int .i64 C, .int .i64 Q, .slice xs l.length cap] 24)
    have hbw2 := hbw1.trans (ha2.mono hs1)
    have hown2 := (hown.base (b' := w.heap.size) (by have := ha.size; omega)).below ha2
    have hat2 := hat.below ha2
    have hlm := hm1.lt
    clear hm ha hread hb1 hown hat
    by_cases hE : E = 0
    · have hEb : (E != 0) = false := by rw [hE]; rfl
      have Hr2 := veil (show readE bl = if EntS.check ⟨I, J, C, Q, l⟩ ≠ 0 ∨ EntS.laid ⟨I, J, C, Q, l⟩ ≠ strS bl then (noEnt, 6) else (⟨I, J, C, Q, l⟩, 0) by rw [Hr.out, if_neg (by simpa using hE)])
      clear Hr
      obtain ⟨W, hW⟩ : ∃ W, W = w1.alloc (.cells #[.int .i64 C, .int .i64 Q, .slice xs l.length cap] 24) := ⟨_, rfl⟩
      have hWs : W.heap.size = w1.heap.size + 1 := by rw [hW]; simp
      rw [← hW] at hr2 hm2 hbw2 hown2 hat2 ha2
      clear hm1 hbw1
      go_wp2_with fail
      rw [← hW]
      clear hW
      have q0 := hr2.cell 0
      have q1 := hr2.cell 1
      have q2 := hr2.cell 2
      simp at q0 q1 q2
      have hba : Below W.heap.size W (W.alloc (.cells #[.int .i64 I, .int .i64 J, .int .i64 C, .int .i64 Q, .slice xs l.length cap] 31)).drew := (box_made W 31 [.int .i64 I, .int .i64 J, .int .i64 C, .int .i64 Q, .slice xs l.length cap]).drew
      have hn3 : Lies (W.alloc (.cells #[.int .i64 I, .int .i64 J, .int .i64 C, .int .i64 Q, .slice xs l.length cap] 31)).drew W.heap.size 31 [.int .i64 I, .int .i64 J, .int .i64 C, .int .i64 Q, .slice xs l.length cap] := (Lies.made W 31 [.int .i64 I, .int .i64 J, .int .i64 C, .int .i64 Q, .slice xs l.length cap]).drew
      rw [hWs] at hn3
      have hent := entry_ref I J C Q xs l cap _ (hat2.below hba)
      have hm3 := hm2.below hba hm2.lt
      have hown3 := hown2.below hba
      have hbw3 := hbw2.trans (hba.mono hbw2.size)
      have hvm := hown3.ne hm3 (by decide)
      obtain ⟨ck, hck⟩ : ∃ ck, ck = EntS.check ⟨I, J, C, Q, l⟩ := ⟨_, rfl⟩
      obtain ⟨ls, hls⟩ : ∃ ls, ls = EntS.laid ⟨I, J, C, Q, l⟩ := ⟨_, rfl⟩
      rw [← hck, ← hls] at hent Hr2
      have HK := veil (And.intro hent (And.intro hn3 (And.intro hm3 (And.intro hown3 hbw3))))
      clear hck hls hba hn3 hent hm3 hown3 hbw3 hat2
      go_region_held3 (fun w' => w'.cell? ⟨w1.heap.size, 0, none⟩ = some (.int .i64 C) ∧ w'.cell? ⟨w1.heap.size, 1, none⟩ = some (.int .i64 Q) ∧ w'.cell? ⟨w1.heap.size, 2, none⟩ = some (.slice xs l.length cap))
        (first
          | exact ⟨hr2.cell 0, hr2.cell 1, hr2.cell 2⟩
          | go_keep)
        (first
          | (go_at_call 59; ((with_reducible refine (HC.out.1 _).mono ?_)); rintro e w2 ⟨rfl, rfl⟩)
          | (go_at_call 59; ((with_reducible refine (HC.out.2 _).mono ?_)); rintro e w2 ⟨rfl, rfl⟩))
      all_goals (
        go_wp2_with fail
        refine HK.out.1.mono ?_
        rintro e w3 ⟨rfl, hb3⟩
        obtain ⟨_, hn3, hm3, hown3, hbw3⟩ := HK.out
        have hn4 := hn3.below hb3 hn3.lt
        have hm4 := hm3.below hb3 hm3.lt
        have hown4 := hown3.below hb3
        have hbw4 := hbw3.trans (hb3.mono hbw3.size)
        have r0 := hn4.cell 0
        have r1 := hn4.cell 1
        have r2 := hn4.cell 2
        have r3 := hn4.cell 3
        have r4 := hn4.cell 4
        simp at r0 r1 r2 r3 r4
        clear HK hn3 hm3 hown3 hbw3 hb3
        by_cases hc0 : ck = 0
        · subst hc0
          by_cases hl0 : ls = strS bl
          · subst hl0
            have Hr2 := veil (show readE bl = (⟨I, J, C, Q, l⟩, 0) by rw [Hr2.out, if_neg (by simp)])
            have Hown9 := veil (hown4.kept (Keeps.put5 w.heap.size (.int .i64 (I : Int)) (.int .i64 (J : Int)) (.int .i64 C) (.int .i64 Q) (.slice xs l.length cap)) (fun j hj e => hvm (by rw [hj, e])))
            clear hown4
            have d0 := hm4.cell 0
            have d1 := hm4.cell 1
            have d2 := hm4.cell 2
            have d3 := hm4.cell 3
            have d4 := hm4.cell 4
            have e0 := hm4.frozen 0
            have e1 := hm4.frozen 1
            have e2 := hm4.frozen 2
            have e3 := hm4.frozen 3
            have e4 := hm4.frozen 4
            simp at d0 d1 d2 d3 d4 e0 e1 e2 e3 e4
            have hp := Lies.put5 hm4 (.int .i64 (I : Int)) (.int .i64 (J : Int)) (.int .i64 C) (.int .i64 Q) (.slice xs l.length cap)
            have q0 := hp.cell 0
            have q1 := hp.cell 1
            have q2 := hp.cell 2
            have q3 := hp.cell 3
            have q4 := hp.cell 4
            have Hb9 := veil (hbw4.trans ((Keeps.put5 w.heap.size (.int .i64 (I : Int)) (.int .i64 (J : Int)) (.int .i64 C) (.int .i64 Q) (.slice xs l.length cap)).toBelow hbw4.size (fun j hj => by omega)))
            clear hp
            go_wp2
            exact bodyPost_ret (v := .tuple #[.agg #[.int .i64 (I : Int), .int .i64 (J : Int), .int .i64 C, .int .i64 Q, .slice xs l.length cap], .int .i64 0]) (by simp at q0 q1 q2 q3 q4; simp [results, Tryz.results21, go_sem, q0, q1, q2, q3, q4]) rfl (by rw [Hr2.out]; exact ⟨_, rfl, Hown9.out, Hb9.out⟩)
          · have hnb : (ls.toList == bl) = false := by
              rw [beq_eq_false_iff_ne, ByteArray.toList_eq]
              exact fun e => hl0 (by apply bytes_ext; rw [e])
            have Hr2 := veil (show readE bl = (noEnt, 6) by rw [Hr2.out, if_pos (.inr hl0)])
            clear hl0
            have d0 := hm4.cell 0
            have d1 := hm4.cell 1
            have d2 := hm4.cell 2
            have d3 := hm4.cell 3
            have d4 := hm4.cell 4
            have e0 := hm4.frozen 0
            have e1 := hm4.frozen 1
            have e2 := hm4.frozen 2
            have e3 := hm4.frozen 3
            have e4 := hm4.frozen 4
            simp at d0 d1 d2 d3 d4 e0 e1 e2 e3 e4
            have hp := Lies.put5 hm4 (.int .i64 0) (.int .i64 0) (.int .i64 0) (.int .i64 0) (.slice none 0 0)
            have q0 := hp.cell 0
            have q1 := hp.cell 1
            have q2 := hp.cell 2
            have q3 := hp.cell 3
            have q4 := hp.cell 4
            have Hb9 := veil (hbw4.trans ((Keeps.put5 w.heap.size (.int .i64 0) (.int .i64 0) (.int .i64 0) (.int .i64 0) (.slice none 0 0)).toBelow hbw4.size (fun j hj => by omega)))
            clear hp
            go_wp2
            exact bodyPost_ret (v := .tuple #[.agg #[.int .i64 0, .int .i64 0, .int .i64 0, .int .i64 0, .slice none 0 0], .int .i64 6]) (by simp at q0 q1 q2 q3 q4; simp [results, Tryz.results21, go_sem, q0, q1, q2, q3, q4]) rfl (by rw [Hr2.out]; exact ⟨_, rfl, CmdsOwn.nil _ _, Hb9.out⟩)
        · have hnb : (ck != 0) = true := by simpa using hc0
          have Hr2 := veil (show readE bl = (noEnt, 6) by rw [Hr2.out, if_pos (.inl hc0)])
          have d0 := hm4.cell 0
          have d1 := hm4.cell 1
          have d2 := hm4.cell 2
          have d3 := hm4.cell 3
          have d4 := hm4.cell 4
          have e0 := hm4.frozen 0
          have e1 := hm4.frozen 1
          have e2 := hm4.frozen 2
          have e3 := hm4.frozen 3
          have e4 := hm4.frozen 4
          simp at d0 d1 d2 d3 d4 e0 e1 e2 e3 e4
          have hp := Lies.put5 hm4 (.int .i64 0) (.int .i64 0) (.int .i64 0) (.int .i64 0) (.slice none 0 0)
          have q0 := hp.cell 0
          have q1 := hp.cell 1
          have q2 := hp.cell 2
          have q3 := hp.cell 3
          have q4 := hp.cell 4
          have Hb9 := veil (hbw4.trans ((Keeps.put5 w.heap.size (.int .i64 0) (.int .i64 0) (.int .i64 0) (.int .i64 0) (.slice none 0 0)).toBelow hbw4.size (fun j hj => by omega)))
          clear hp
          go_wp2
          exact bodyPost_ret (v := .tuple #[.agg #[.int .i64 0, .int .i64 0, .int .i64 0, .int .i64 0, .slice none 0 0], .int .i64 6]) (by simp at q0 q1 q2 q3 q4; simp [results, Tryz.results21, go_sem, q0, q1, q2, q3, q4]) rfl (by rw [Hr2.out]; exact ⟨_, rfl, CmdsOwn.nil _ _, Hb9.out⟩))
    · have hEb : (E != 0) = true := by simpa using hE
      have Hr2 := veil (show readE bl = (noEnt, E) by rw [Hr.out]; exact if_pos hE)
      clear Hr
      clear hr2 hown2 hat2 ha2
      have d0 := hm1.cell 0
      have d1 := hm1.cell 1
      have d2 := hm1.cell 2
      have d3 := hm1.cell 3
      have d4 := hm1.cell 4
      have e0 := hm1.frozen 0
      have e1 := hm1.frozen 1
      have e2 := hm1.frozen 2
      have e3 := hm1.frozen 3
      have e4 := hm1.frozen 4
      simp at d0 d1 d2 d3 d4 e0 e1 e2 e3 e4
      have hp := (Lies.put5 hm1 (.int .i64 0) (.int .i64 0) (.int .i64 0) (.int .i64 0) (.slice none 0 0)).alloc (.cells #[.int .i64 C, .int .i64 Q, .slice xs l.length cap] 24)
      have q0 := hp.cell 0
      have q1 := hp.cell 1
      have q2 := hp.cell 2
      have q3 := hp.cell 3
      have q4 := hp.cell 4
      have hb9 := (hbw1.trans ((Keeps.put5 w.heap.size (.int .i64 0) (.int .i64 0) (.int .i64 0) (.int .i64 0) (.slice none 0 0)).toBelow hbw1.size (fun j hj => by omega)))
      have Hb9 := veil (hb9.alloc hb9.size (.cells #[.int .i64 C, .int .i64 Q, .slice xs l.length cap] 24))
      clear hp hb9
      go_wp2
      exact bodyPost_ret (v := .tuple #[.agg #[.int .i64 0, .int .i64 0, .int .i64 0, .int .i64 0, .slice none 0 0], .int .i64 E]) (by simp at q0 q1 q2 q3 q4; simp [results, Tryz.results21, go_sem, q0, q1, q2, q3, q4]) rfl (by rw [Hr2.out]; exact ⟨_, rfl, CmdsOwn.nil _ _, Hb9.out⟩)
end Go.Proofs.YtjonmggkmalgaaaGreatDoor

/-
  Joined by merge.py: W74Cmds, W74Replies.
-/
import Derived.Test.YtjonmggkmalgaaaGreatDoorW73Kinds
import Derived.BigRegion
-- W74Cmds
namespace Go.Proofs.YtjonmggkmalgaaaGreatDoor
open Go.RowKit Go.Lib
attribute [local go_sem ↓] Go.wp_at_zero Go.wp_at_succ

theorem flat_set_Cmds (c : CmdS) : ∀ (l : List CmdS) (k : Nat), k < l.length → (((((l.flatMap CmdS.cells).set (k * 5 + 0) (Value.int .i64 c.kind)).set (k * 5 + 1) (Value.string c.path)).set (k * 5 + 2) (Value.string c.key)).set (k * 5 + 3) (Value.string c.val)).set (k * 5 + 4) (Value.string c.old) = (l.set k c).flatMap CmdS.cells
  | a :: l, 0, _ => by
    rw [List.set_cons_zero, List.flatMap_cons, List.flatMap_cons]
    simp
  | a :: l, k + 1, h => by
    have ih := flat_set_Cmds c l k (by simpa using h)
    rw [List.set_cons_succ, List.flatMap_cons, List.flatMap_cons, ← ih]
    have hl : a.cells.length = 5 := rfl
    have key : ∀ (X : List Value) (r : Nat) (u : Value), (a.cells ++ X).set ((k + 1) * 5 + r) u = a.cells ++ X.set (k * 5 + r) u := by
      intro X r u
      rw [List.set_append_right _ _ (by rw [hl]; omega), hl]
      congr 2
      omega
    simp only [key]

def mixedCmds (j : Int) (l : List CmdS) (k : Nat) : List CmdS := marksCmds j 0 k ++ l.drop k
theorem mixedCmds_zero (j : Int) (l : List CmdS) : mixedCmds j l 0 = l := rfl
theorem mixedCmds_all (j : Int) (l : List CmdS) : mixedCmds j l l.length = marksCmds j 0 l.length := by unfold mixedCmds; simp
theorem mixedCmds_length (j : Int) (l : List CmdS) (k : Nat) (h : k ≤ l.length) : (mixedCmds j l k).length = l.length := by
  unfold mixedCmds
  rw [List.length_append, marksCmds_length, List.length_drop]
  omega
theorem mixedCmds_next (j : Int) (l : List CmdS) (k : Nat) (h : k < l.length) : mixedCmds j l (k + 1) = (mixedCmds j l k).set k (markCmds j k) := by
  unfold mixedCmds
  have hl := marksCmds_length j 0 k
  rw [marksCmds_succ, List.set_append_right _ _ (by omega), hl, Nat.sub_self, List.drop_eq_getElem_cons h, List.set_cons_zero, List.append_assoc, show (0 : Int) + (k : Int) = k by omega]
  rfl
/-- All lists marked; so many of them marked. -/
def marksAllCmds (cs : List (List CmdS)) : List (List CmdS) := cs.mapIdx fun j l => marksCmds j 0 l.length
def putToCmds (k : Nat) (cs : List (List CmdS)) : List (List CmdS) := (marksAllCmds cs).take k ++ cs.drop k
theorem marksAllCmds_length (cs : List (List CmdS)) : (marksAllCmds cs).length = cs.length := by unfold marksAllCmds; simp
theorem putToCmds_zero (cs : List (List CmdS)) : putToCmds 0 cs = cs := rfl
theorem putToCmds_all (cs : List (List CmdS)) : putToCmds cs.length cs = marksAllCmds cs := by
  unfold putToCmds
  rw [List.drop_length, List.append_nil, List.take_of_length_le (by rw [marksAllCmds_length]; exact Nat.le_refl _)]
theorem putToCmds_length (k : Nat) (cs : List (List CmdS)) (h : k ≤ cs.length) : (putToCmds k cs).length = cs.length := by
  unfold putToCmds
  rw [List.length_append, List.length_take, List.length_drop, marksAllCmds_length]
  omega
theorem putToCmds_at (k : Nat) (cs : List (List CmdS)) (h : k < cs.length) (h' : k < (putToCmds k cs).length) : (putToCmds k cs)[k] = cs[k] := by
  have hm := marksAllCmds_length cs
  have e : (putToCmds k cs)[k]? = cs[k]? := by
    unfold putToCmds
    rw [List.getElem?_append_right (by rw [List.length_take]; omega), List.length_take, List.getElem?_drop]
    congr 1
    omega
  rw [List.getElem?_eq_getElem h', List.getElem?_eq_getElem h] at e
  exact Option.some.inj e
theorem putToCmds_next (k : Nat) (cs : List (List CmdS)) (h : k < cs.length) : putToCmds (k + 1) cs = (putToCmds k cs).set k (marksCmds k 0 cs[k].length) := by
  have hm := marksAllCmds_length cs
  have hl : ((marksAllCmds cs).take k).length = k := by rw [List.length_take]; omega
  unfold putToCmds
  rw [List.set_append_right _ _ (by omega), hl, Nat.sub_self, List.drop_eq_getElem_cons h, List.set_cons_zero, List.take_add_one, List.getElem?_eq_getElem (by omega), List.append_assoc]
  congr 1
  simp [marksAllCmds]
theorem marksAllCmds_at (cs : List (List CmdS)) (j : Nat) (h : j < (marksAllCmds cs).length) : (marksAllCmds cs)[j] = marksCmds j 0 (marksAllCmds cs)[j].length := by
  simp [marksAllCmds, marksCmds_length]
theorem marksAllCmds_len (cs : List (List CmdS)) (j : Nat) (h : j < (marksAllCmds cs).length) (h' : j < cs.length) : (marksAllCmds cs)[j].length = cs[j].length := by
  simp [marksAllCmds, marksCmds_length]

/-- One thing is set in a row of the family. -/
theorem fam_putCmds {w : World} {base : Nat} {vs : List Value} {cs : List (List CmdS)} {j g c k : Nat} {l : List CmdS} (a : CmdS) (h : FamG 68 5 CmdS.cells w base vs (cs.set j l)) (h1 : j < vs.length) (h2 : j < cs.length) (hv : vs[j] = .slice (some ⟨g, 0, none⟩) l.length c) (hk : k < l.length) :
    FamG 68 5 CmdS.cells ((((((w).setCell ⟨g, k * 5 + 0, none⟩ (Value.int .i64 a.kind)).setCell ⟨g, k * 5 + 1, none⟩ (Value.string a.path)).setCell ⟨g, k * 5 + 2, none⟩ (Value.string a.key)).setCell ⟨g, k * 5 + 3, none⟩ (Value.string a.val)).setCell ⟨g, k * 5 + 4, none⟩ (Value.string a.old)) base vs (cs.set j (l.set k a)) := by
  have ho := h.own j h1 (by rw [List.length_set]; exact h2)
  rw [List.getElem_set_self, hv] at ho
  unfold OwnG at ho
  have hp := own_put (own_put (own_put (own_put (own_put (ho) (k * 5 + 0) (Value.int .i64 a.kind)) (k * 5 + 1) (Value.string a.path)) (k * 5 + 2) (Value.string a.key)) (k * 5 + 3) (Value.string a.val)) (k * 5 + 4) (Value.string a.old)
  rw [flat_set_Cmds a l k hk] at hp
  have hS : Keeps (fun x => vs[j].ownBlock = some x) w ((((((w).setCell ⟨g, k * 5 + 0, none⟩ (Value.int .i64 a.kind)).setCell ⟨g, k * 5 + 1, none⟩ (Value.string a.path)).setCell ⟨g, k * 5 + 2, none⟩ (Value.string a.key)).setCell ⟨g, k * 5 + 3, none⟩ (Value.string a.val)).setCell ⟨g, k * 5 + 4, none⟩ (Value.string a.old)) := by
    have hb : vs[j].ownBlock = some g := by rw [hv]; rfl
    exact (((((Keeps.rfl' _ _).setCell (p := ⟨g, k * 5 + 0, none⟩) (.inr hb) _).setCell (p := ⟨g, k * 5 + 1, none⟩) (.inr hb) _).setCell (p := ⟨g, k * 5 + 2, none⟩) (.inr hb) _).setCell (p := ⟨g, k * 5 + 3, none⟩) (.inr hb) _).setCell (p := ⟨g, k * 5 + 4, none⟩) (.inr hb) _
  have ht := h.turn (l' := l.set k a) h1 hS (by rw [hv]; unfold OwnG; rw [List.length_set]; exact hp)
  rw [List.set_set] at ht
  exact ht

def MarkedCmds (kb : Nat) (w : World) (vs : List Value) (cs : List (List CmdS)) (e : Ending) (w' : World) : Prop :=
  e = .returned (.tuple #[]) ∧ FamG 68 5 CmdS.cells w' (kb + 1) vs (marksAllCmds cs) ∧ Keeps (UT 68 kb w) w w'

/-- So many lists have been marked. -/
structure PutICmds (kb : Nat) (w wr : World) (vs : List Value) (cs : List (List CmdS)) : Prop where
  fam : FamG 68 5 CmdS.cells wr (kb + 1) vs cs
  keep : Keeps (UT 68 kb w) w wr
theorem PutICmds.below {kb : Nat} {w wr w' : World} {vs : List Value} {cs : List (List CmdS)} (h : PutICmds kb w wr vs cs) (hb : Below wr.heap.size wr w') : PutICmds kb w w' vs cs :=
  ⟨h.fam.below hb, UT.trans h.keep (UT.of_below hb)⟩
theorem PutICmds.put {kb : Nat} {w wr : World} {vs : List Value} {cs : List (List CmdS)} {j g c k : Nat} {l : List CmdS} (a : CmdS) (h : PutICmds kb w wr vs (cs.set j l)) (h1 : j < vs.length) (h2 : j < cs.length) (hv : vs[j] = .slice (some ⟨g, 0, none⟩) l.length c) (hk : k < l.length) :
    PutICmds kb w ((((((wr).setCell ⟨g, k * 5 + 0, none⟩ (Value.int .i64 a.kind)).setCell ⟨g, k * 5 + 1, none⟩ (Value.string a.path)).setCell ⟨g, k * 5 + 2, none⟩ (Value.string a.key)).setCell ⟨g, k * 5 + 3, none⟩ (Value.string a.val)).setCell ⟨g, k * 5 + 4, none⟩ (Value.string a.old)) vs (cs.set j (l.set k a)) := by
  have ho := h.fam.own j h1 (by rw [List.length_set]; exact h2)
  have hb : vs[j].ownBlock = some g := by rw [hv]; rfl
  have hu : UT 68 kb wr g := by
    obtain ⟨cur, hc⟩ := OwnG.typed ho hb
    exact ⟨by have := (OwnG.lt ho hb).1; omega, cur, hc⟩
  exact ⟨fam_putCmds a h.fam h1 h2 hv hk, UT.trans h.keep ((((((Keeps.rfl' _ _).setCell (p := ⟨g, k * 5 + 0, none⟩) (.inr hu) _).setCell (p := ⟨g, k * 5 + 1, none⟩) (.inr hu) _).setCell (p := ⟨g, k * 5 + 2, none⟩) (.inr hu) _).setCell (p := ⟨g, k * 5 + 3, none⟩) (.inr hu) _).setCell (p := ⟨g, k * 5 + 4, none⟩) (.inr hu) _)⟩

set_option maxHeartbeats 4000000 in
set_option maxRecDepth 100000 in
theorem put_Cmds (kb : Nat) (f0 f1 f2 f3 f4 f5 f6 f7 f8 f9 f10 f11 f12 f13 f14 f15 f16 f17 : Value) (vs : List Value) (cs : List (List CmdS)) (w : World)
    (hk : Lies w kb 54 [f0, f1, f2, f3, f4, f5, f6, f7, f8, f9, f10, f11, f12, f13, f14, f15, f16, f17]) (hr : w.ownsRow (kb + 1) 22 1 f12 vs.length vs) (hfam : FamG 68 5 CmdS.cells w (kb + 1) vs cs)
    (hn : cs.length ≤ 250) (hl : ∀ l ∈ cs, l.length ≤ 100000) :
    Calls Tryz.prog 84 #[.pointer (some ⟨kb, 0, none⟩)] w (MarkedCmds kb w vs cs) := by
  have hvl := hfam.len
  obtain ⟨xf, cf, rfl, hrow, _⟩ := own_slice hr
  have hkl := hk.lt
  have hvn : vs.length ≤ 250 := by omega
  have HS := veil (show PutICmds kb w w vs (putToCmds 0 cs) from ⟨by rw [putToCmds_zero]; exact hfam, Keeps.rfl' _ _⟩)
  have HV := veil (And.intro hk (And.intro hr (And.intro hl hvl)))
  clear hk hr hfam hl hrow hvl
  go_enter Tryz.func84, Tryz.ntmps84
  go_wp2_with fail
  go_loopw [2] (fun i wr => ∃ k : Nat, k ≤ vs.length ∧ i = .int .i64 k ∧ PutICmds kb w wr vs (putToCmds k cs)) (fun i _ => vs.length - (intOf i).toNat)
  case atStart => exact ⟨0, Nat.zero_le _, rfl, HS.out⟩
  case round =>
    obtain ⟨k, hkv, rfl, hI⟩ := hrel
    obtain ⟨hk, hr, hl, hvl⟩ := HV.out
    have l1 := UT.lies hI.keep hk (by decide)
    have hr1 := UT.own hI.keep hr (by decide)
    obtain ⟨xf2, cf2, e1, hrow, _⟩ := own_slice hr1
    injection e1 with e1 _ e2
    subst e1 e2
    have c12 := l1.cell 12
    simp at c12
    by_cases hlt : k < vs.length
    · have h3 : k < cs.length := by omega
      have hpl := putToCmds_length k cs (by omega)
      have hp3 : k < (putToCmds k cs).length := by omega
      have hpa := putToCmds_at k cs h3 hp3
      have hown := hI.fam.own k hlt hp3
      rw [hpa] at hown
      obtain ⟨x1, c1, hv1, ha1, _⟩ := OwnCmds.at_ hown
      have hle := hl cs[k] (List.getElem_mem h3)
      obtain ⟨bb, off, rfl, r1⟩ := hrow k _ (by rw [List.getElem?_eq_getElem hlt, hv1])
      have i0' : (0 : Int) ≤ (k : Int) := by omega
      have i1 : (k : Int) < (vs.length : Int) := by omega
      have hset : putToCmds k cs = (putToCmds k cs).set k (mixedCmds k cs[k] 0) := by
        rw [mixedCmds_zero, ← hpa, List.set_getElem_self]
      have hform : cs[k].length = 0 ∨ ∃ g, x1 = some ⟨g, 0, none⟩ := by
        rcases hown.2 with ⟨e, h0⟩ | ⟨g, cap, cur, e, _⟩
        · exact .inl h0
        · rw [hv1] at e
          injection e with e _ _
          exact .inr ⟨g, e⟩
      have hmk : ∀ W, Calls Tryz.prog 130 #[.int .i64 k, .int .i64 0, .int .i64 cs[k].length] W (MadeCmds W (marksCmds k 0 cs[k].length)) := fun W => mark_Cmds k 0 cs[k].length W (by omega) (by omega) (by omega)
      have hI2 := hI
      rw [hset] at hI2
      obtain ⟨l, hlx⟩ : ∃ l, l = cs[k] := ⟨_, rfl⟩
      have hnext := putToCmds_next k cs h3
      rw [← hlx] at hv1 hle r1 hI2 hform hmk hnext
      have HI := veil (And.intro hI2 (And.intro hv1 (And.intro hpl hnext)))
      have HM := veil hmk
      obtain ⟨wo, hwo⟩ : ∃ wo : World, wo = wr := ⟨_, rfl⟩
      rw [← hwo] at HI c12 r1 ⊢
      clear hk hr hl hvl hr1 hrow hpa hown ha1 hset hI hI2 hv1 hnext hmk l1 hlx hp3 hpl
      clear hwo wr
      go_wp2_with fail
      refine (HM.out _).mono ?_
      rintro e w5 ⟨u, rfl, hu, hb5⟩
      obtain ⟨xu, cu, rfl, hua, _⟩ := OwnCmds.at_ hu
      have hml := marksCmds_length k 0 l.length
      rw [hml]
      have hI5 := HI.out.1.below hb5
      have HI5 := veil (And.intro hI5 hu)
      have HL := veil hml
      clear hu hua hI5 hml
      go_wp2_with fail
      go_loopw [4] (fun j wi => ∃ a : Nat, a ≤ l.length ∧ j = .int .i64 a ∧ PutICmds kb w wi vs ((putToCmds k cs).set k (mixedCmds k l a)) ∧ OwnCmds wi wo.heap.size (.slice xu l.length cu) (marksCmds k 0 l.length)) (fun j _ => l.length - (intOf j).toNat)
      case atStart => exact ⟨0, Nat.zero_le _, rfl, HI5.out.1, by have := HI5.out.2; rw [HL.out] at this; exact this⟩
      case round =>
        obtain ⟨a, hal, rfl, hJ, hM⟩ := hrel
        obtain ⟨_, hv1, hpl, hnext⟩ := HI.out
        obtain ⟨hk, hr, hl, hvl⟩ := HV.out
        have hmixl := mixedCmds_length k l a hal
        by_cases ha : a < l.length
        · obtain ⟨g, rfl⟩ : ∃ g, x1 = some ⟨g, 0, none⟩ := by
            rcases hform with h | h
            · omega
            · exact h
          have l1 := UT.lies hJ.keep hk (by decide)
          have hr1 := UT.own hJ.keep hr (by decide)
          obtain ⟨xf3, cf3, e1, hrow, _⟩ := own_slice hr1
          injection e1 with e1 _ e3
          subst e1 e3
          obtain ⟨bb2, off2, e1, r2⟩ := hrow k _ (by rw [List.getElem?_eq_getElem hlt, hv1])
          injection e1 with e1
          injection e1 with e1 e4
          subst e1 e4
          obtain ⟨xm, cm, e1, hma, _⟩ := OwnCmds.at_ hM
          injection e1 with e1 ee1 e3
          try clear ee1
          subst e1 e3
          have haml : a < (marksCmds k 0 l.length).length := by rw [HL.out]; exact ha
          have hmk : (marksCmds k 0 l.length)[a] = markCmds k a := by
            simp only [marksCmds, List.getElem_map, List.getElem_range]
            congr 1
            omega
          obtain ⟨bu, offu, rfl, q0, q1, q2, q3, q4⟩ := hma a haml
          rw [hmk] at q0 q1 q2 q3 q4
          have hkps : k < ((putToCmds k cs).set k (mixedCmds k l a)).length := by rw [List.length_set, hpl]; omega
          have hown := hJ.fam.own k hlt hkps
          rw [List.getElem_set_self, hv1] at hown
          obtain ⟨_, _, e1, hta, _⟩ := OwnCmds.at_ hown
          injection e1 with e1 ee2 ee3
          try clear ee2
          try clear ee3
          subst e1
          obtain ⟨bt, offt, e1, p0, p1, p2, p3, p4⟩ := hta a (by rw [hmixl]; exact ha)
          obtain ⟨old, hold⟩ : ∃ o, o = (mixedCmds k l a)[a]'(by rw [hmixl]; exact ha) := ⟨_, rfl⟩
          rw [← hold] at p0 p1 p2 p3 p4
          clear hold
          injection e1 with e1
          injection e1 with e1 e4
          subst e1 e4
          obtain ⟨cur, hcur⟩ := OwnG.typed hown rfl
          have hlies : Lies wr g 68 cur.toList := by unfold Lies; simpa using hcur
          have c12 := l1.cell 12
          have hglt : g < wo.heap.size := by
            have h0 := HI.out.1.fam.own k hlt (by rw [List.length_set, hpl]; omega)
            exact (OwnG.lt h0 (by rw [hv1]; rfl)).2
          have hput := hJ.put (markCmds k a) hlt (by rw [hpl]; omega) (by rw [hv1, hmixl]) (show a < (mixedCmds k l a).length by rw [hmixl]; exact ha)
          rw [← mixedCmds_next k l a ha] at hput
          have hM2 := hM.kept (S := fun x => x = g) (((((Keeps.setCell (S := fun x => x = g) (p := ⟨g, a * 5 + 0, none⟩) (Keeps.rfl' _ wr) (.inr rfl) (Value.int .i64 (markCmds k a).kind)).setCell (p := ⟨g, a * 5 + 1, none⟩) (.inr rfl) (Value.string (markCmds k a).path)).setCell (p := ⟨g, a * 5 + 2, none⟩) (.inr rfl) (Value.string (markCmds k a).key)).setCell (p := ⟨g, a * 5 + 3, none⟩) (.inr rfl) (Value.string (markCmds k a).val)).setCell (p := ⟨g, a * 5 + 4, none⟩) (.inr rfl) (Value.string (markCmds k a).old)) (fun x hx e => by have := (OwnG.lt hM hx).1; omega)
          have HP := veil (And.intro hput hM2)
          have j0 : (0 : Int) ≤ (a : Int) := by omega
          have j1 : (a : Int) < (l.length : Int) := by omega
          have z0 := hlies.frozen (a * 5 + 0)
          have z1 := hlies.frozen (a * 5 + 1)
          have z2 := hlies.frozen (a * 5 + 2)
          have z3 := hlies.frozen (a * 5 + 3)
          have z4 := hlies.frozen (a * 5 + 4)
          simp at c12
          simp only [Nat.zero_add] at p0 p1 p2 p3 p4
          rw [Nat.add_zero] at z0
          clear hk hr hl hvl hv1 hnext hr1 hrow l1 hma hown hta hcur hlies hput hM2 hJ hM hmixl hmk haml hkps hpl
          go_wp2_with fail
          go_region
          all_goals (
            go_wp2
            go_roundw
            case rel => exact ⟨a + 1, by omega, by go_num, HP.out.1.below (Below.refl _ _).drew, HP.out.2⟩
            case measure => simp [intOf]; omega)
        · obtain rfl : a = l.length := by omega
          rw [mixedCmds_all, ← hnext] at hJ
          clear hk hr hl hvl hv1 hnext hM hmixl
          go_wp2
          go_roundw
          case rel => exact ⟨k + 1, by omega, by go_num, hJ⟩
          case measure => simp [intOf]; omega
    · obtain rfl : k = vs.length := by omega
      rw [hvl, putToCmds_all] at hI
      clear hk hr hl hvl l1 hr1 hrow
      go_wp2
      go_end0
      exact ⟨rfl, hI.fam, hI.keep⟩
end Go.Proofs.YtjonmggkmalgaaaGreatDoor
-- W74Replies
namespace Go.Proofs.YtjonmggkmalgaaaGreatDoor
open Go.RowKit Go.Lib
attribute [local go_sem ↓] Go.wp_at_zero Go.wp_at_succ

theorem flat_set_Replies (c : RepS) : ∀ (l : List RepS) (k : Nat), k < l.length → ((l.flatMap RepS.cells).set (k * 2 + 0) (Value.int .i64 c.err)).set (k * 2 + 1) (Value.string c.val) = (l.set k c).flatMap RepS.cells
  | a :: l, 0, _ => by
    rw [List.set_cons_zero, List.flatMap_cons, List.flatMap_cons]
    simp
  | a :: l, k + 1, h => by
    have ih := flat_set_Replies c l k (by simpa using h)
    rw [List.set_cons_succ, List.flatMap_cons, List.flatMap_cons, ← ih]
    have hl : a.cells.length = 2 := rfl
    have key : ∀ (X : List Value) (r : Nat) (u : Value), (a.cells ++ X).set ((k + 1) * 2 + r) u = a.cells ++ X.set (k * 2 + r) u := by
      intro X r u
      rw [List.set_append_right _ _ (by rw [hl]; omega), hl]
      congr 2
      omega
    simp only [key]

def mixedReplies (j : Int) (l : List RepS) (k : Nat) : List RepS := marksReplies j 0 k ++ l.drop k
theorem mixedReplies_zero (j : Int) (l : List RepS) : mixedReplies j l 0 = l := rfl
theorem mixedReplies_all (j : Int) (l : List RepS) : mixedReplies j l l.length = marksReplies j 0 l.length := by unfold mixedReplies; simp
theorem mixedReplies_length (j : Int) (l : List RepS) (k : Nat) (h : k ≤ l.length) : (mixedReplies j l k).length = l.length := by
  unfold mixedReplies
  rw [List.length_append, marksReplies_length, List.length_drop]
  omega
theorem mixedReplies_next (j : Int) (l : List RepS) (k : Nat) (h : k < l.length) : mixedReplies j l (k + 1) = (mixedReplies j l k).set k (markReplies j k) := by
  unfold mixedReplies
  have hl := marksReplies_length j 0 k
  rw [marksReplies_succ, List.set_append_right _ _ (by omega), hl, Nat.sub_self, List.drop_eq_getElem_cons h, List.set_cons_zero, List.append_assoc, show (0 : Int) + (k : Int) = k by omega]
  rfl
/-- All lists marked; so many of them marked. -/
def marksAllReplies (cs : List (List RepS)) : List (List RepS) := cs.mapIdx fun j l => marksReplies j 0 l.length
def putToReplies (k : Nat) (cs : List (List RepS)) : List (List RepS) := (marksAllReplies cs).take k ++ cs.drop k
theorem marksAllReplies_length (cs : List (List RepS)) : (marksAllReplies cs).length = cs.length := by unfold marksAllReplies; simp
theorem putToReplies_zero (cs : List (List RepS)) : putToReplies 0 cs = cs := rfl
theorem putToReplies_all (cs : List (List RepS)) : putToReplies cs.length cs = marksAllReplies cs := by
  unfold putToReplies
  rw [List.drop_length, List.append_nil, List.take_of_length_le (by rw [marksAllReplies_length]; exact Nat.le_refl _)]
theorem putToReplies_length (k : Nat) (cs : List (List RepS)) (h : k ≤ cs.length) : (putToReplies k cs).length = cs.length := by
  unfold putToReplies
  rw [List.length_append, List.length_take, List.length_drop, marksAllReplies_length]
  omega
theorem putToReplies_at (k : Nat) (cs : List (List RepS)) (h : k < cs.length) (h' : k < (putToReplies k cs).length) : (putToReplies k cs)[k] = cs[k] := by
  have hm := marksAllReplies_length cs
  have e : (putToReplies k cs)[k]? = cs[k]? := by
    unfold putToReplies
    rw [List.getElem?_append_right (by rw [List.length_take]; omega), List.length_take, List.getElem?_drop]
    congr 1
    omega
  rw [List.getElem?_eq_getElem h', List.getElem?_eq_getElem h] at e
  exact Option.some.inj e
theorem putToReplies_next (k : Nat) (cs : List (List RepS)) (h : k < cs.length) : putToReplies (k + 1) cs = (putToReplies k cs).set k (marksReplies k 0 cs[k].length) := by
  have hm := marksAllReplies_length cs
  have hl : ((marksAllReplies cs).take k).length = k := by rw [List.length_take]; omega
  unfold putToReplies
  rw [List.set_append_right _ _ (by omega), hl, Nat.sub_self, List.drop_eq_getElem_cons h, List.set_cons_zero, List.take_add_one, List.getElem?_eq_getElem (by omega), List.append_assoc]
  congr 1
  simp [marksAllReplies]
theorem marksAllReplies_at (cs : List (List RepS)) (j : Nat) (h : j < (marksAllReplies cs).length) : (marksAllReplies cs)[j] = marksReplies j 0 (marksAllReplies cs)[j].length := by
  simp [marksAllReplies, marksReplies_length]
theorem marksAllReplies_len (cs : List (List RepS)) (j : Nat) (h : j < (marksAllReplies cs).length) (h' : j < cs.length) : (marksAllReplies cs)[j].length = cs[j].length := by
  simp [marksAllReplies, marksReplies_length]

/-- One thing is set in a row of the family. -/
theorem fam_putReplies {w : World} {base : Nat} {vs : List Value} {cs : List (List RepS)} {j g c k : Nat} {l : List RepS} (a : RepS) (h : FamG 42 2 RepS.cells w base vs (cs.set j l)) (h1 : j < vs.length) (h2 : j < cs.length) (hv : vs[j] = .slice (some ⟨g, 0, none⟩) l.length c) (hk : k < l.length) :
    FamG 42 2 RepS.cells (((w).setCell ⟨g, k * 2 + 0, none⟩ (Value.int .i64 a.err)).setCell ⟨g, k * 2 + 1, none⟩ (Value.string a.val)) base vs (cs.set j (l.set k a)) := by
  have ho := h.own j h1 (by rw [List.length_set]; exact h2)
  rw [List.getElem_set_self, hv] at ho
  unfold OwnG at ho
  have hp := own_put (own_put (ho) (k * 2 + 0) (Value.int .i64 a.err)) (k * 2 + 1) (Value.string a.val)
  rw [flat_set_Replies a l k hk] at hp
  have hS : Keeps (fun x => vs[j].ownBlock = some x) w (((w).setCell ⟨g, k * 2 + 0, none⟩ (Value.int .i64 a.err)).setCell ⟨g, k * 2 + 1, none⟩ (Value.string a.val)) := by
    have hb : vs[j].ownBlock = some g := by rw [hv]; rfl
    exact ((Keeps.rfl' _ _).setCell (p := ⟨g, k * 2 + 0, none⟩) (.inr hb) _).setCell (p := ⟨g, k * 2 + 1, none⟩) (.inr hb) _
  have ht := h.turn (l' := l.set k a) h1 hS (by rw [hv]; unfold OwnG; rw [List.length_set]; exact hp)
  rw [List.set_set] at ht
  exact ht

def MarkedReplies (kb : Nat) (w : World) (vs : List Value) (cs : List (List RepS)) (e : Ending) (w' : World) : Prop :=
  e = .returned (.tuple #[]) ∧ FamG 42 2 RepS.cells w' (kb + 1) vs (marksAllReplies cs) ∧ Keeps (UT 42 kb w) w w'

/-- So many lists have been marked. -/
structure PutIReplies (kb : Nat) (w wr : World) (vs : List Value) (cs : List (List RepS)) : Prop where
  fam : FamG 42 2 RepS.cells wr (kb + 1) vs cs
  keep : Keeps (UT 42 kb w) w wr
theorem PutIReplies.below {kb : Nat} {w wr w' : World} {vs : List Value} {cs : List (List RepS)} (h : PutIReplies kb w wr vs cs) (hb : Below wr.heap.size wr w') : PutIReplies kb w w' vs cs :=
  ⟨h.fam.below hb, UT.trans h.keep (UT.of_below hb)⟩
theorem PutIReplies.put {kb : Nat} {w wr : World} {vs : List Value} {cs : List (List RepS)} {j g c k : Nat} {l : List RepS} (a : RepS) (h : PutIReplies kb w wr vs (cs.set j l)) (h1 : j < vs.length) (h2 : j < cs.length) (hv : vs[j] = .slice (some ⟨g, 0, none⟩) l.length c) (hk : k < l.length) :
    PutIReplies kb w (((wr).setCell ⟨g, k * 2 + 0, none⟩ (Value.int .i64 a.err)).setCell ⟨g, k * 2 + 1, none⟩ (Value.string a.val)) vs (cs.set j (l.set k a)) := by
  have ho := h.fam.own j h1 (by rw [List.length_set]; exact h2)
  have hb : vs[j].ownBlock = some g := by rw [hv]; rfl
  have hu : UT 42 kb wr g := by
    obtain ⟨cur, hc⟩ := OwnG.typed ho hb
    exact ⟨by have := (OwnG.lt ho hb).1; omega, cur, hc⟩
  exact ⟨fam_putReplies a h.fam h1 h2 hv hk, UT.trans h.keep (((Keeps.rfl' _ _).setCell (p := ⟨g, k * 2 + 0, none⟩) (.inr hu) _).setCell (p := ⟨g, k * 2 + 1, none⟩) (.inr hu) _)⟩

set_option maxHeartbeats 4000000 in
set_option maxRecDepth 100000 in
theorem put_Replies (kb : Nat) (f0 f1 f2 f3 f4 f5 f6 f7 f8 f9 f10 f11 f12 f13 f14 f15 f16 f17 : Value) (vs : List Value) (cs : List (List RepS)) (w : World)
    (hk : Lies w kb 54 [f0, f1, f2, f3, f4, f5, f6, f7, f8, f9, f10, f11, f12, f13, f14, f15, f16, f17]) (hr : w.ownsRow (kb + 1) 39 1 f10 vs.length vs) (hfam : FamG 42 2 RepS.cells w (kb + 1) vs cs)
    (hn : cs.length ≤ 250) (hl : ∀ l ∈ cs, l.length ≤ 100000) :
    Calls Tryz.prog 83 #[.pointer (some ⟨kb, 0, none⟩)] w (MarkedReplies kb w vs cs) := by
  have hvl := hfam.len
  obtain ⟨xf, cf, rfl, hrow, _⟩ := own_slice hr
  have hkl := hk.lt
  have hvn : vs.length ≤ 250 := by omega
  have HS := veil (show PutIReplies kb w w vs (putToReplies 0 cs) from ⟨by rw [putToReplies_zero]; exact hfam, Keeps.rfl' _ _⟩)
  have HV := veil (And.intro hk (And.intro hr (And.intro hl hvl)))
  clear hk hr hfam hl hrow hvl
  go_enter Tryz.func83, Tryz.ntmps83
  go_wp2_with fail
  go_loopw [2] (fun i wr => ∃ k : Nat, k ≤ vs.length ∧ i = .int .i64 k ∧ PutIReplies kb w wr vs (putToReplies k cs)) (fun i _ => vs.length - (intOf i).toNat)
  case atStart => exact ⟨0, Nat.zero_le _, rfl, HS.out⟩
  case round =>
    obtain ⟨k, hkv, rfl, hI⟩ := hrel
    obtain ⟨hk, hr, hl, hvl⟩ := HV.out
    have l1 := UT.lies hI.keep hk (by decide)
    have hr1 := UT.own hI.keep hr (by decide)
    obtain ⟨xf2, cf2, e1, hrow, _⟩ := own_slice hr1
    injection e1 with e1 _ e2
    subst e1 e2
    have c10 := l1.cell 10
    simp at c10
    by_cases hlt : k < vs.length
    · have h3 : k < cs.length := by omega
      have hpl := putToReplies_length k cs (by omega)
      have hp3 : k < (putToReplies k cs).length := by omega
      have hpa := putToReplies_at k cs h3 hp3
      have hown := hI.fam.own k hlt hp3
      rw [hpa] at hown
      obtain ⟨x1, c1, hv1, ha1, _⟩ := OwnReplies.at_ hown
      have hle := hl cs[k] (List.getElem_mem h3)
      obtain ⟨bb, off, rfl, r1⟩ := hrow k _ (by rw [List.getElem?_eq_getElem hlt, hv1])
      have i0' : (0 : Int) ≤ (k : Int) := by omega
      have i1 : (k : Int) < (vs.length : Int) := by omega
      have hset : putToReplies k cs = (putToReplies k cs).set k (mixedReplies k cs[k] 0) := by
        rw [mixedReplies_zero, ← hpa, List.set_getElem_self]
      have hform : cs[k].length = 0 ∨ ∃ g, x1 = some ⟨g, 0, none⟩ := by
        rcases hown.2 with ⟨e, h0⟩ | ⟨g, cap, cur, e, _⟩
        · exact .inl h0
        · rw [hv1] at e
          injection e with e _ _
          exact .inr ⟨g, e⟩
      have hmk : ∀ W, Calls Tryz.prog 129 #[.int .i64 k, .int .i64 0, .int .i64 cs[k].length] W (MadeReplies W (marksReplies k 0 cs[k].length)) := fun W => mark_Replies k 0 cs[k].length W (by omega) (by omega) (by omega)
      have hI2 := hI
      rw [hset] at hI2
      obtain ⟨l, hlx⟩ : ∃ l, l = cs[k] := ⟨_, rfl⟩
      have hnext := putToReplies_next k cs h3
      rw [← hlx] at hv1 hle r1 hI2 hform hmk hnext
      have HI := veil (And.intro hI2 (And.intro hv1 (And.intro hpl hnext)))
      have HM := veil hmk
      obtain ⟨wo, hwo⟩ : ∃ wo : World, wo = wr := ⟨_, rfl⟩
      rw [← hwo] at HI c10 r1 ⊢
      clear hk hr hl hvl hr1 hrow hpa hown ha1 hset hI hI2 hv1 hnext hmk l1 hlx hp3 hpl
      clear hwo wr
      go_wp2_with fail
      refine (HM.out _).mono ?_
      rintro e w5 ⟨u, rfl, hu, hb5⟩
      obtain ⟨xu, cu, rfl, hua, _⟩ := OwnReplies.at_ hu
      have hml := marksReplies_length k 0 l.length
      rw [hml]
      have hI5 := HI.out.1.below hb5
      have HI5 := veil (And.intro hI5 hu)
      have HL := veil hml
      clear hu hua hI5 hml
      go_wp2_with fail
      go_loopw [4] (fun j wi => ∃ a : Nat, a ≤ l.length ∧ j = .int .i64 a ∧ PutIReplies kb w wi vs ((putToReplies k cs).set k (mixedReplies k l a)) ∧ OwnReplies wi wo.heap.size (.slice xu l.length cu) (marksReplies k 0 l.length)) (fun j _ => l.length - (intOf j).toNat)
      case atStart => exact ⟨0, Nat.zero_le _, rfl, HI5.out.1, by have := HI5.out.2; rw [HL.out] at this; exact this⟩
      case round =>
        obtain ⟨a, hal, rfl, hJ, hM⟩ := hrel
        obtain ⟨_, hv1, hpl, hnext⟩ := HI.out
        obtain ⟨hk, hr, hl, hvl⟩ := HV.out
        have hmixl := mixedReplies_length k l a hal
        by_cases ha : a < l.length
        · obtain ⟨g, rfl⟩ : ∃ g, x1 = some ⟨g, 0, none⟩ := by
            rcases hform with h | h
            · omega
            · exact h
          have l1 := UT.lies hJ.keep hk (by decide)
          have hr1 := UT.own hJ.keep hr (by decide)
          obtain ⟨xf3, cf3, e1, hrow, _⟩ := own_slice hr1
          injection e1 with e1 _ e3
          subst e1 e3
          obtain ⟨bb2, off2, e1, r2⟩ := hrow k _ (by rw [List.getElem?_eq_getElem hlt, hv1])
          injection e1 with e1
          injection e1 with e1 e4
          subst e1 e4
          obtain ⟨xm, cm, e1, hma, _⟩ := OwnReplies.at_ hM
          injection e1 with e1 ee1 e3
          try clear ee1
          subst e1 e3
          have haml : a < (marksReplies k 0 l.length).length := by rw [HL.out]; exact ha
          have hmk : (marksReplies k 0 l.length)[a] = markReplies k a := by
            simp only [marksReplies, List.getElem_map, List.getElem_range]
            congr 1
            omega
          obtain ⟨bu, offu, rfl, q0, q1⟩ := hma a haml
          rw [hmk] at q0 q1
          have hkps : k < ((putToReplies k cs).set k (mixedReplies k l a)).length := by rw [List.length_set, hpl]; omega
          have hown := hJ.fam.own k hlt hkps
          rw [List.getElem_set_self, hv1] at hown
          obtain ⟨_, _, e1, hta, _⟩ := OwnReplies.at_ hown
          injection e1 with e1 ee2 ee3
          try clear ee2
          try clear ee3
          subst e1
          obtain ⟨bt, offt, e1, p0, p1⟩ := hta a (by rw [hmixl]; exact ha)
          obtain ⟨old, hold⟩ : ∃ o, o = (mixedReplies k l a)[a]'(by rw [hmixl]; exact ha) := ⟨_, rfl⟩
          rw [← hold] at p0 p1
          clear hold
          injection e1 with e1
          injection e1 with e1 e4
          subst e1 e4
          obtain ⟨cur, hcur⟩ := OwnG.typed hown rfl
          have hlies : Lies wr g 42 cur.toList := by unfold Lies; simpa using hcur
          have c10 := l1.cell 10
          have hglt : g < wo.heap.size := by
            have h0 := HI.out.1.fam.own k hlt (by rw [List.length_set, hpl]; omega)
            exact (OwnG.lt h0 (by rw [hv1]; rfl)).2
          have hput := hJ.put (markReplies k a) hlt (by rw [hpl]; omega) (by rw [hv1, hmixl]) (show a < (mixedReplies k l a).length by rw [hmixl]; exact ha)
          rw [← mixedReplies_next k l a ha] at hput
          have hM2 := hM.kept (S := fun x => x = g) ((Keeps.setCell (S := fun x => x = g) (p := ⟨g, a * 2 + 0, none⟩) (Keeps.rfl' _ wr) (.inr rfl) (Value.int .i64 (markReplies k a).err)).setCell (p := ⟨g, a * 2 + 1, none⟩) (.inr rfl) (Value.string (markReplies k a).val)) (fun x hx e => by have := (OwnG.lt hM hx).1; omega)
          have HP := veil (And.intro hput hM2)
          have j0 : (0 : Int) ≤ (a : Int) := by omega
          have j1 : (a : Int) < (l.length : Int) := by omega
          have z0 := hlies.frozen (a * 2 + 0)
          have z1 := hlies.frozen (a * 2 + 1)
          simp at c10
          simp only [Nat.zero_add] at p0 p1
          rw [Nat.add_zero] at z0
          clear hk hr hl hvl hv1 hnext hr1 hrow l1 hma hown hta hcur hlies hput hM2 hJ hM hmixl hmk haml hkps hpl
          go_wp2_with fail
          go_region
          all_goals (
            go_wp2
            go_roundw
            case rel => exact ⟨a + 1, by omega, by go_num, HP.out.1.below (Below.refl _ _).drew, HP.out.2⟩
            case measure => simp [intOf]; omega)
        · obtain rfl : a = l.length := by omega
          rw [mixedReplies_all, ← hnext] at hJ
          clear hk hr hl hvl hv1 hnext hM hmixl
          go_wp2
          go_roundw
          case rel => exact ⟨k + 1, by omega, by go_num, hJ⟩
          case measure => simp [intOf]; omega
    · obtain rfl : k = vs.length := by omega
      rw [hvl, putToReplies_all] at hI
      clear hk hr hl hvl l1 hr1 hrow
      go_wp2
      go_end0
      exact ⟨rfl, hI.fam, hI.keep⟩
end Go.Proofs.YtjonmggkmalgaaaGreatDoor

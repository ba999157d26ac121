/-
  The law CmdBytes: the walk.
-/
import Derived.Test.YtjonmggkmalgaaaGreatDoorW49Same
import Derived.Test.YtjonmggkmalgaaaGreatDoorW50Book
import Derived.Test.YtjonmggkmalgaaaGreatDoorW63RefEntry
import Derived.Test.YtjonmggkmalgaaaGreatDoorW77Lent2
import Derived.Test.YtjonmggkmalgaaaGreatDoorW80Later
namespace Go.Proofs.YtjonmggkmalgaaaGreatDoor
open Go.RowKit Go.Lib

set_option maxHeartbeats 16000000 in
set_option maxRecDepth 100000 in
theorem bytes_any (c q i t : Int) (x y : Option Addr) (l : List CmdS) (rs : List RepS) (k kr : Nat) (b : ByteArray) (w : World) (hg : Glob w) (hx : CmdsAt w x l) (hy : RepsAt w y rs) (hl : l.length ≤ 9223372036854775807) (hrl : rs.length ≤ 9223372036854775807) (hkr : rs.length ≤ kr) (hre : ∀ r ∈ rs, -9223372036854775808 ≤ r.err ∧ r.err ≤ 9223372036854775807) :
    Calls Tryz.prog 4 #[reqV c q x l.length k, .int .i64 i, .int .i64 t, .slice y rs.length kr, .string b] w (LivePost w) := by
  have HS := veil (Stay.made w c q x l k y rs hg hx hy)
  have HE := veil hre
  obtain ⟨W0, hW0⟩ : ∃ W0, W0 = w.alloc (.cells #[.int .i64 c, .int .i64 q, .slice x l.length k] 24) := ⟨_, rfl⟩
  rw [← hW0] at HS
  have d2 := HS.out.r.cell 2
  simp at d2
  clear hg hx hy hre
  by_cases h300 : (300 : Int) < (l.length : Int)
  · rw [hW0] at d2
    go_enter Tryz.func4, Tryz.ntmps4
    go_wp2_with fail
    rw [← hW0]
    refine (alive_ok W0 HS.out.g).mono ?_
    rintro e w1 ⟨rfl, hb⟩
    clear d2 hW0
    go_wp2
    go_ret
    exact ⟨rfl, (HS.out.below hb).hb⟩
  · rw [hW0] at d2
    go_enter Tryz.func4, Tryz.ntmps4
    go_wp2_with fail
    rw [← hW0]
    clear d2 hW0
    refine (cmds_any 40000 x l k W0 HS.out.x (by decide) (by decide) hl).mono ?_
    rintro e w1 ⟨z1, rfl, _, _, hb⟩
    have HS := veil (HS.out.below hb)
    clear hb
    by_cases hz1 : z1 < 0
    · go_wp2_with fail
      refine (alive_ok _ HS.out.g).mono ?_
      rintro e w1 ⟨rfl, hb⟩
      go_wp2
      go_ret
      exact ⟨rfl, (HS.out.below hb).hb⟩
    · by_cases hb3 : (3000 : Int) < (b.size : Int)
      · go_wp2_with fail
        refine (alive_ok _ HS.out.g).mono ?_
        rintro e w1 ⟨rfl, hb⟩
        go_wp2
        go_ret
        exact ⟨rfl, (HS.out.below hb).hb⟩
      · by_cases hr3 : (300 : Int) < (rs.length : Int)
        · go_wp2_with fail
          refine (alive_ok _ HS.out.g).mono ?_
          rintro e w1 ⟨rfl, hb⟩
          go_wp2
          go_ret
          exact ⟨rfl, (HS.out.below hb).hb⟩
        · go_wp2_with fail
          refine (alive_ok _ HS.out.g).mono ?_
          rintro e w1 ⟨rfl, hb⟩
          have HS := veil (HS.out.below hb)
          clear hb
          go_wp2_with fail
          go_loopw [11, 12] (fun rm i1 wr => ∃ (a : Nat) (room : Int), a ≤ rs.length ∧ i1 = .int .i64 a ∧ rm = .int .i64 room ∧ -1 ≤ room ∧ room ≤ 70000 ∧ Stay w wr c q x l k y rs) (fun _ i1 _ => rs.length - (intOf i1).toNat)
          case atStart => exact ⟨0, _, Nat.zero_le _, rfl, rfl, by omega, by omega, HS.out⟩
          case round =>
            obtain ⟨a, room, ha, rfl, rfl, hr0, hr1, hS⟩ := hrel
            have HS := veil hS
            clear hS
            by_cases hrm : room < 0
            · by_cases hlt : (a : Int) < (rs.length : Int)
              · go_wp2
                go_ret
                exact ⟨rfl, HS.out.hb⟩
              · go_wp2
                go_ret
                exact ⟨rfl, HS.out.hb⟩
            · have hrg : 0 ≤ room := by omega
              by_cases hlt : a < rs.length
              · obtain ⟨bb, off, rfl, _, k1⟩ := HS.out.y a hlt
                have i0 : (0 : Int) ≤ (a : Int) := by omega
                have i1 : (a : Int) < (rs.length : Int) := by omega
                obtain ⟨v, hv⟩ : ∃ v, v = rs[a].val := ⟨_, rfl⟩
                rw [← hv] at k1
                clear hv
                go_wp2_with fail
                refine (room_any room _ [(v.size : Int)] _ (Lies.made wr 3 [.int .i64 v.size]) hrg (by omega) (by simp) (by simp)).mono ?_
                rintro e w2 ⟨z, rfl, hz0, hz1, hb2⟩
                have hb2' : Below wr.heap.size wr w2 := (box_made wr 3 [.int .i64 v.size]).trans (hb2.mono (by simp))
                have HS2 := veil (HS.out.below hb2')
                go_wp2
                go_roundw
                case rel => exact ⟨a + 1, z, by omega, by go_num, rfl, by omega, by omega, HS2.out⟩
                case measure => simp [intOf]; omega
              · obtain rfl : a = rs.length := by omega
                have r0 := HS.out.r.cell 0
                have r1 := HS.out.r.cell 1
                have r2 := HS.out.r.cell 2
                simp at r0 r1 r2
                go_wp2_with fail
                obtain ⟨hE, hK, hG, hb3'⟩ := three_made wr 31 54 31 (entCells i t c q (.slice x l.length k)) nils (entCells i t c q (.slice x l.length k))
                have hS3 := HS.out.below hb3'
                obtain ⟨W3, hW3⟩ : ∃ W3, W3 = ((wr.alloc (.cells #[.int .i64 i, .int .i64 t, .int .i64 c, .int .i64 q, .slice x l.length k] 31)).alloc (.cells #[.slice none 0 0, .slice none 0 0, .slice none 0 0, .slice none 0 0, .slice none 0 0, .slice none 0 0, .slice none 0 0, .slice none 0 0, .slice none 0 0, .slice none 0 0, .slice none 0 0, .slice none 0 0, .slice none 0 0, .slice none 0 0, .slice none 0 0, .slice none 0 0, .slice none 0 0, .slice none 0 0] 54)).alloc (.cells #[.int .i64 i, .int .i64 t, .int .i64 c, .int .i64 q, .slice x l.length k] 31) := ⟨_, rfl⟩
                have hE' : Lies W3 wr.heap.size 31 (entCells i t c q (.slice x l.length k)) := by rw [hW3]; exact hE
                have hK' : Lies W3 (wr.heap.size + 1) 54 nils := by rw [hW3]; exact hK
                have hG' : Lies W3 (wr.heap.size + 1 + 1) 31 (entCells i t c q (.slice x l.length k)) := by rw [hW3]; exact hG
                have hS' : Stay w W3 c q x l k y rs := by rw [hW3]; exact hS3
                rw [← hW3]
                clear hE hK hG hb3' hS3 hW3 r0 r1 r2
                have hn0w : w.heap.size < wr.heap.size := HS.out.r.lt
                obtain ⟨n0, hn0⟩ : ∃ n0, n0 = wr.heap.size := ⟨_, rfl⟩
                rw [← hn0] at hE' hK' hG' hn0w ⊢
                clear hn0
                have hle : l.length ≤ 100000 := by omega
                refine (lent_one i t c q (n0 + 1 + 1) k 1 x l W3 hG' hS'.x hle).mono ?_
                rintro e w4 ⟨h, cap, xs, cc, rfl, hcap, hm, hxs, hb4⟩
                have H := veil (Half.mk (hS'.below hb4) (hE'.below hb4 hE'.lt) (hK'.below hb4 hK'.lt) hm hxs)
                clear hE' hK' hG' hS' hm hxs hb4 HS
                have a2 := H.out.m.at0 2 _ rfl
                have a3 := H.out.m.at0 3 _ rfl
                have a4 := H.out.m.at0 4 _ rfl
                go_wp2_with fail
                refine (lay_any c q xs l cc _ H.out.xs (by omega)).mono ?_
                rintro e w5 ⟨rfl, hb5⟩
                have H := veil (H.out.below hb5)
                clear hb5
                clear a2 a3 a4
                have r0 := H.out.st.r.cell 0
                have r1 := H.out.st.r.cell 1
                have r2 := H.out.st.r.cell 2
                simp at r0 r1 r2
                go_wp2_with fail
                refine (lay_ref c q x l k _ H.out.st.x).mono ?_
                rintro e w5 ⟨rfl, hb5⟩
                have H := veil (H.out.below hb5)
                clear hb5
                clear r0 r1 r2
                have a0 := H.out.m.at0 0 _ rfl
                have a1 := H.out.m.at0 1 _ rfl
                have a2 := H.out.m.at0 2 _ rfl
                have a3 := H.out.m.at0 3 _ rfl
                have a4 := H.out.m.at0 4 _ rfl
                go_wp2_with fail
                refine (entry_any i t c q xs l cc _ H.out.xs (by omega)).mono ?_
                rintro e w5 ⟨rfl, hb5⟩
                have H := veil (H.out.below hb5)
                clear hb5
                clear a0 a1 a2 a3 a4
                have e0 := H.out.e.cell 0
                have e1 := H.out.e.cell 1
                have e2 := H.out.e.cell 2
                have e3 := H.out.e.cell 3
                have e4 := H.out.e.cell 4
                simp [entCells] at e0 e1 e2 e3 e4
                go_wp2_with fail
                refine (entry_ref i t c q x l k _ H.out.st.x).mono ?_
                rintro e w5 ⟨rfl, hb5⟩
                have H := veil (H.out.below hb5)
                clear hb5
                clear e0 e1 e2 e3 e4
                have hr := H.out.st.r
                have he := H.out.e
                have hrl := hr.lt
                have hel := he.lt
                obtain ⟨W, hW⟩ : ∃ W : World, W = w5 := ⟨_, rfl⟩
                rw [← hW] at H hr he hrl hel
                generalize ReqS.laid ⟨c, q, l⟩ = s1
                generalize ReqS.check ⟨c, q, l⟩ = s2
                generalize EntS.laid ⟨i, t, c, q, l⟩ = s3
                generalize EntS.check ⟨i, t, c, q, l⟩ = s4
                go_wp2_with fail
                rw [← hW]
                clear hW w5
                try dsimp only [List.append]
                go_region_held3 (fun w' => w'.cell? ⟨w.heap.size, 0, none⟩ = some (.int .i64 c) ∧ w'.cell? ⟨w.heap.size, 1, none⟩ = some (.int .i64 q) ∧ w'.cell? ⟨w.heap.size, 2, none⟩ = some (.slice x l.length k) ∧ w'.cell? ⟨n0, 0, none⟩ = some (.int .i64 i) ∧ w'.cell? ⟨n0, 1, none⟩ = some (.int .i64 t) ∧ w'.cell? ⟨n0, 2, none⟩ = some (.int .i64 c) ∧ w'.cell? ⟨n0, 3, none⟩ = some (.int .i64 q) ∧ w'.cell? ⟨n0, 4, none⟩ = some (.slice x l.length k))
                  (first
                    | exact ⟨(hr.below (hbx.alloc hbx.size _) hrl).cell 0, (hr.below (hbx.alloc hbx.size _) hrl).cell 1, (hr.below (hbx.alloc hbx.size _) hrl).cell 2, (he.below (hbx.alloc hbx.size _) hel).cell 0, (he.below (hbx.alloc hbx.size _) hel).cell 1, (he.below (hbx.alloc hbx.size _) hel).cell 2, (he.below (hbx.alloc hbx.size _) hel).cell 3, (he.below (hbx.alloc hbx.size _) hel).cell 4⟩
                    | exact ⟨(hr.below (hbx) hrl).cell 0, (hr.below (hbx) hrl).cell 1, (hr.below (hbx) hrl).cell 2, (he.below (hbx) hel).cell 0, (he.below (hbx) hel).cell 1, (he.below (hbx) hel).cell 2, (he.below (hbx) hel).cell 3, (he.below (hbx) hel).cell 4⟩
                    | exact ⟨hr.cell 0, hr.cell 1, hr.cell 2, he.cell 0, he.cell 1, he.cell 2, he.cell 3, he.cell 4⟩)
                  (first
                    | (go_at_call 8; refine (check_any c q x l k _ (H.out.st.x.below (by first | exact hbx | exact (Below.refl _ _).drew)) (by omega)).mono ?_; rintro e w14 ⟨rfl, hb14⟩; have hbx : Below W.heap.size W w14 := Below.trans (by first | exact hbx | exact (Below.refl _ _).drew) (hb14.mono (by first | exact hbx.size | exact Nat.le_refl _)))
                    | (go_at_call 18; refine (check_ref c q x l k _ (H.out.st.x.below (by first | exact hbx | exact (Below.refl _ _).drew))).mono ?_; rintro e w14 ⟨rfl, hb14⟩; have hbx : Below W.heap.size W w14 := Below.trans (by first | exact hbx | exact (Below.refl _ _).drew) (hb14.mono (by first | exact hbx.size | exact Nat.le_refl _)))
                    | (go_at_call 19; have hbz := hbx.alloc hbx.size (.cells (entCells i t c q (.slice x l.length k)).toArray 31); refine (stays_one i t c q _ h k cc 1 cap x xs l _ (H.out.m.below hbz) (RowAt.of_lies (Lies.made _ _ _)) (H.out.st.x.below hbz) (H.out.xs.below hbz) (by omega) hcap).mono ?_; rintro e w14 ⟨rfl, hb14⟩; have hbx : Below W.heap.size W w14 := hbz.trans (hb14.mono hbz.size)))
                all_goals (
                  have H := veil (H.out.below hbx)
                  have hw0 : w.heap.size < n0 + 1 := by
                    omega
                  have HN := veil (And.intro H.out.st (BookS.none H.out.kb w14.heap.size))
                  have hkbs : n0 + 1 < w14.heap.size := H.out.kb.lt
                  obtain ⟨rc, rq, rl, ea, hRa, hRb, hfa⟩ := reads_req b (by omega)
                  obtain ⟨ei, et, ec, eq, el, ee, hRd, hRe, hfe⟩ := reads_ent b (by omega)
                  obtain ⟨pl, pe, hRp, hRq, hfp⟩ := reads_reps b (by omega)
                  have HR := veil (And.intro hRa (And.intro hRb (And.intro hRd (And.intro hRe (And.intro hRp hRq)))))
                  clear hRa hRb hRd hRe hRp hRq H
                  go_wp2_with fail
                  go_loopw [24] (fun kv wr => ∃ (k2 : Nat) (f10 f11 f12 f13 : Value) (rss : List (List RepS)) (css : List (List CmdS)), k2 ≤ 2 ∧ kv = .int .i64 k2 ∧ Stay w wr c q x l k y rs ∧ BookS wr (n0 + 1) wr.heap.size wr.heap.size f10 f11 f12 f13 rss css ∧ n0 + 1 < wr.heap.size ∧ Hid (rss.length = k2 ∧ css.length = 2 * k2 ∧ (∀ l ∈ rss, l.length ≤ 255) ∧ (∀ l ∈ css, l.length ≤ 255))) (fun kv _ => 2 - (intOf kv).toNat)
                  case atStart => exact ⟨0, _, _, _, _, [], [], by omega, rfl, HN.out.1, HN.out.2, hkbs, veil ⟨rfl, rfl, fun _ h => absurd h List.not_mem_nil, fun _ h => absurd h List.not_mem_nil⟩⟩
                  case round =>
                    obtain ⟨k2, f10, f11, f12, f13, rss, css, hk2, rfl, hSt, hBk, hkb0, HL⟩ := hrel
                    have HN := veil (And.intro hSt hBk)
                    clear hSt hBk
                    by_cases hlt : k2 < 2
                    · have j1 : (k2 : Int) < 2 := by omega
                      obtain ⟨W0, hW0⟩ : ∃ W0 : World, W0 = wr := ⟨_, rfl⟩
                      rw [← hW0] at HN hkb0 ⊢
                      clear hW0 wr
                      go_wp2_with fail
                      refine (HR.out.1 W0).mono ?_
                      rintro e wa ⟨va, rfl, hown, hb5⟩
                      obtain ⟨xa, ca, hv, _⟩ := CmdsOwn.at_ hown
                      subst hv
                      have hm := Lies.made wa 24 [.int .i64 rc, .int .i64 rq, .slice xa rl.length ca]
                      have ha := box_made wa 24 [.int .i64 rc, .int .i64 rq, .slice xa rl.length ca]
                      have hsa := hb5.size
                      have hta : wa.heap.size < (wa.alloc (.cells #[.int .i64 rc, .int .i64 rq, .slice xa rl.length ca] 24)).heap.size := by simp
                      have hbb := hb5.trans (ha.mono hb5.size)
                      have hlta : Hid (∀ g, (Value.slice xa rl.length ca).ownBlock = some g → g < wa.heap.size) := veil (fun g hg => (OwnG.lt hown hg).2)
                      have hV : ValC (n0 + 1) (wa.alloc (.cells #[.int .i64 rc, .int .i64 rq, .slice xa rl.length ca] 24)) wa.heap.size W0.heap.size 24 [.int .i64 rc, .int .i64 rq, .slice xa rl.length ca] (.slice xa rl.length ca) rl := ⟨hm, OwnG.below hown ha, by omega, by omega, by decide, by decide⟩
                      obtain ⟨W1, hW⟩ : ∃ W1, W1 = wa.alloc (.cells #[.int .i64 rc, .int .i64 rq, .slice xa rl.length ca] 24) := ⟨_, rfl⟩
                      rw [← hW] at hV hbb hta
                      clear hm ha hown hb5
                      have HN := veil (And.intro (HN.out.1.below hbb) (HN.out.2.below hbb))
                      have Ha := veil hV
                      clear hV hbb
                      go_wp2_with fail
                      rw [← hW]
                      clear hW
                      refine (HR.out.2.1 W1).mono ?_
                      rintro e wc ⟨vc, rfl, hown, hb5⟩
                      obtain ⟨xc, cc, hv, _⟩ := CmdsOwn.at_ hown
                      subst hv
                      have hm := Lies.made wc 24 [.int .i64 rc, .int .i64 rq, .slice xc rl.length cc]
                      have ha := box_made wc 24 [.int .i64 rc, .int .i64 rq, .slice xc rl.length cc]
                      have hsc := hb5.size
                      have htc : wc.heap.size < (wc.alloc (.cells #[.int .i64 rc, .int .i64 rq, .slice xc rl.length cc] 24)).heap.size := by simp
                      have hbb := hb5.trans (ha.mono hb5.size)
                      have hltc : Hid (∀ g, (Value.slice xc rl.length cc).ownBlock = some g → g < wc.heap.size) := veil (fun g hg => (OwnG.lt hown hg).2)
                      have hV : ValC (n0 + 1) (wc.alloc (.cells #[.int .i64 rc, .int .i64 rq, .slice xc rl.length cc] 24)) wc.heap.size W1.heap.size 24 [.int .i64 rc, .int .i64 rq, .slice xc rl.length cc] (.slice xc rl.length cc) rl := ⟨hm, OwnG.below hown ha, by omega, by omega, by decide, by decide⟩
                      obtain ⟨W2, hW⟩ : ∃ W2, W2 = wc.alloc (.cells #[.int .i64 rc, .int .i64 rq, .slice xc rl.length cc] 24) := ⟨_, rfl⟩
                      rw [← hW] at hV hbb htc
                      clear hm ha hown hb5
                      have HN := veil (And.intro (HN.out.1.below hbb) (HN.out.2.below hbb))
                      have Ha := veil (Ha.out.below hbb)
                      have Hc := veil hV
                      clear hV hbb
                      go_wp2_with fail
                      rw [← hW]
                      clear hW
                      refine (HR.out.2.2.1 W2).mono ?_
                      rintro e wd ⟨vd, rfl, hown, hb5⟩
                      obtain ⟨xd, cd, hv, _⟩ := CmdsOwn.at_ hown
                      subst hv
                      have hm := Lies.made wd 31 [.int .i64 ei, .int .i64 et, .int .i64 ec, .int .i64 eq, .slice xd el.length cd]
                      have ha := box_made wd 31 [.int .i64 ei, .int .i64 et, .int .i64 ec, .int .i64 eq, .slice xd el.length cd]
                      have hsd := hb5.size
                      have htd : wd.heap.size < (wd.alloc (.cells #[.int .i64 ei, .int .i64 et, .int .i64 ec, .int .i64 eq, .slice xd el.length cd] 31)).heap.size := by simp
                      have hbb := hb5.trans (ha.mono hb5.size)
                      have hltd : Hid (∀ g, (Value.slice xd el.length cd).ownBlock = some g → g < wd.heap.size) := veil (fun g hg => (OwnG.lt hown hg).2)
                      have hV : ValC (n0 + 1) (wd.alloc (.cells #[.int .i64 ei, .int .i64 et, .int .i64 ec, .int .i64 eq, .slice xd el.length cd] 31)) wd.heap.size W2.heap.size 31 [.int .i64 ei, .int .i64 et, .int .i64 ec, .int .i64 eq, .slice xd el.length cd] (.slice xd el.length cd) el := ⟨hm, OwnG.below hown ha, by omega, by omega, by decide, by decide⟩
                      obtain ⟨W3, hW⟩ : ∃ W3, W3 = wd.alloc (.cells #[.int .i64 ei, .int .i64 et, .int .i64 ec, .int .i64 eq, .slice xd el.length cd] 31) := ⟨_, rfl⟩
                      rw [← hW] at hV hbb htd
                      clear hm ha hown hb5
                      have HN := veil (And.intro (HN.out.1.below hbb) (HN.out.2.below hbb))
                      have Ha := veil (Ha.out.below hbb)
                      have Hc := veil (Hc.out.below hbb)
                      have Hd := veil hV
                      clear hV hbb
                      go_wp2_with fail
                      rw [← hW]
                      clear hW
                      refine (HR.out.2.2.2.1 W3).mono ?_
                      rintro e we ⟨ve, rfl, hown, hb5⟩
                      obtain ⟨xe, ce, hv, _⟩ := CmdsOwn.at_ hown
                      subst hv
                      have hm := Lies.made we 31 [.int .i64 ei, .int .i64 et, .int .i64 ec, .int .i64 eq, .slice xe el.length ce]
                      have ha := box_made we 31 [.int .i64 ei, .int .i64 et, .int .i64 ec, .int .i64 eq, .slice xe el.length ce]
                      have hse := hb5.size
                      have hte : we.heap.size < (we.alloc (.cells #[.int .i64 ei, .int .i64 et, .int .i64 ec, .int .i64 eq, .slice xe el.length ce] 31)).heap.size := by simp
                      have hbb := hb5.trans (ha.mono hb5.size)
                      have hlte : Hid (∀ g, (Value.slice xe el.length ce).ownBlock = some g → g < we.heap.size) := veil (fun g hg => (OwnG.lt hown hg).2)
                      have hV : ValC (n0 + 1) (we.alloc (.cells #[.int .i64 ei, .int .i64 et, .int .i64 ec, .int .i64 eq, .slice xe el.length ce] 31)) we.heap.size W3.heap.size 31 [.int .i64 ei, .int .i64 et, .int .i64 ec, .int .i64 eq, .slice xe el.length ce] (.slice xe el.length ce) el := ⟨hm, OwnG.below hown ha, by omega, by omega, by decide, by decide⟩
                      obtain ⟨W4, hW⟩ : ∃ W4, W4 = we.alloc (.cells #[.int .i64 ei, .int .i64 et, .int .i64 ec, .int .i64 eq, .slice xe el.length ce] 31) := ⟨_, rfl⟩
                      rw [← hW] at hV hbb hte
                      clear hm ha hown hb5
                      have HN := veil (And.intro (HN.out.1.below hbb) (HN.out.2.below hbb))
                      have Ha := veil (Ha.out.below hbb)
                      have Hc := veil (Hc.out.below hbb)
                      have Hd := veil (Hd.out.below hbb)
                      have He := veil hV
                      clear hV hbb
                      go_wp2_with fail
                      rw [← hW]
                      clear hW
                      refine (HR.out.2.2.2.2.1 W4).mono ?_
                      rintro e W5 ⟨vy, rfl, hown, hbb⟩
                      obtain ⟨xy, cy, hv, _⟩ := RepsOwn.at_ hown
                      subst hv
                      have hsy := hbb.size
                      have hlty : Hid (∀ g, (Value.slice xy pl.length cy).ownBlock = some g → g < W5.heap.size) := veil (fun g hg => (OwnG.lt hown hg).2)
                      have hV : ValR (n0 + 1) W5 W4.heap.size (.slice xy pl.length cy) pl := ⟨hown, by omega⟩
                      clear hown
                      have HN := veil (And.intro (HN.out.1.below hbb) (HN.out.2.below hbb))
                      have Ha := veil (Ha.out.below hbb)
                      have Hc := veil (Hc.out.below hbb)
                      have Hd := veil (Hd.out.below hbb)
                      have He := veil (He.out.below hbb)
                      have Hy := veil hV
                      clear hV hbb
                      go_wp2_with fail
                      refine (HR.out.2.2.2.2.2 W5).mono ?_
                      rintro e W6 ⟨vz, rfl, hown, hbb⟩
                      obtain ⟨xz, cz, hv, _⟩ := RepsOwn.at_ hown
                      subst hv
                      have hsz := hbb.size
                      have hltz : Hid (∀ g, (Value.slice xz pl.length cz).ownBlock = some g → g < W6.heap.size) := veil (fun g hg => (OwnG.lt hown hg).2)
                      have hV : ValR (n0 + 1) W6 W5.heap.size (.slice xz pl.length cz) pl := ⟨hown, by omega⟩
                      clear hown
                      have HN := veil (And.intro (HN.out.1.below hbb) (HN.out.2.below hbb))
                      have Ha := veil (Ha.out.below hbb)
                      have Hc := veil (Hc.out.below hbb)
                      have Hd := veil (Hd.out.below hbb)
                      have He := veil (He.out.below hbb)
                      have Hy := veil (Hy.out.below hbb)
                      have Hz := veil hV
                      clear hV hbb
                      have da := Ha.out.box.cell 2
                      simp at da
                      go_wp2_with fail
                      obtain ⟨hn1, hn2, hn3, hn4⟩ := HL.out
                      have hBa := HN.out.2.mono (BR' := W4.heap.size) (BC' := W0.heap.size) (by omega) (Nat.le_refl _)
                      refine (keepC (B1 := W2.heap.size) hBa Ha.out.own (by omega) (fun g hg => by have := hlta.out g hg; omega) (by omega) (by omega) (by omega)).mono ?_
                      rintro e W7 ⟨rfl, f12a, f13a, hBk, hL⟩
                      have hs7 := hL.size
                      have hSt := HN.out.1.later hL hw0 (by omega)
                      have HN := veil (And.intro hSt hBk)
                      have Ha := veil (Ha.out.later hL)
                      have Hc := veil (Hc.out.later hL)
                      have Hd := veil (Hd.out.later hL)
                      have He := veil (He.out.later hL)
                      have Hy := veil (Hy.out.later hL)
                      have Hz := veil (Hz.out.later hL)
                      clear hBa hSt hBk hL da
                      have dd := Hd.out.box.cell 4
                      simp at dd
                      go_wp2_with fail
                      refine (keepC (B1 := W3.heap.size) HN.out.2 Hd.out.own (by omega) (fun g hg => by have := hltd.out g hg; omega) (by omega) (by rw [List.length_append, List.length_singleton]; omega) (by omega)).mono ?_
                      rintro e W8 ⟨rfl, f12b, f13b, hBk, hL⟩
                      have hs8 := hL.size
                      have hSt := HN.out.1.later hL hw0 (by omega)
                      have HN := veil (And.intro hSt hBk)
                      have Ha := veil (Ha.out.later hL)
                      have Hc := veil (Hc.out.later hL)
                      have Hd := veil (Hd.out.later hL)
                      have He := veil (He.out.later hL)
                      have Hy := veil (Hy.out.later hL)
                      have Hz := veil (Hz.out.later hL)
                      clear hSt hBk hL dd
                      go_wp2_with fail
                      refine (keepR (B1 := W5.heap.size) HN.out.2 Hy.out.own (by omega) (fun g hg => hlty.out g hg) (by omega) (by omega) (by omega)).mono ?_
                      rintro e W9 ⟨rfl, f10a, f11a, hBk, hL⟩
                      have hs9 := hL.size
                      have hSt := HN.out.1.later hL hw0 (by omega)
                      have HN := veil (And.intro hSt hBk)
                      have Ha := veil (Ha.out.later hL)
                      have Hc := veil (Hc.out.later hL)
                      have Hd := veil (Hd.out.later hL)
                      have He := veil (He.out.later hL)
                      have Hy := veil (Hy.out.later hL)
                      have Hz := veil (Hz.out.later hL)
                      clear hSt hBk hL
                      have HL2 : Hid ((rss ++ [pl]).length = k2 + 1 ∧ ((css ++ [rl]) ++ [el]).length = 2 * (k2 + 1) ∧ (∀ l ∈ rss ++ [pl], l.length ≤ 255) ∧ (∀ l ∈ (css ++ [rl]) ++ [el], l.length ≤ 255)) := by
                        refine veil ⟨by rw [List.length_append, hn1]; rfl, by rw [List.length_append, List.length_append, hn2]; simp; omega, fun l h => ?_, fun l h => ?_⟩
                        · rcases List.mem_append.1 h with h | h
                          · exact hn3 l h
                          · rw [List.mem_singleton.1 h]; exact hfp
                        · rcases List.mem_append.1 h with h | h
                          · rcases List.mem_append.1 h with h | h
                            · exact hn4 l h
                            · rw [List.mem_singleton.1 h]; exact hfa
                          · rw [List.mem_singleton.1 h]; exact hfe
                      clear hn1 hn2 hn3 hn4
                      have a0 := Ha.out.box.cell 0
                      have a1 := Ha.out.box.cell 1
                      have a2 := Ha.out.box.cell 2
                      have b0 := Hc.out.box.cell 0
                      have b1 := Hc.out.box.cell 1
                      have b2 := Hc.out.box.cell 2
                      simp at a0 a1 a2 b0 b1 b2
                      go_wp2_with fail
                      refine (samereq_any rc rq rc rq xa xc rl rl ca cc _ Ha.out.at_ Hc.out.at_ (by omega)).mono ?_
                      rintro e W10 ⟨bb, rfl, hbb, hb10⟩
                      obtain rfl : bb = true := hbb.2 rfl
                      have hs10 := hb10.size
                      clear hbb a0 a1 a2 b0 b1 b2
                      have HN := veil (And.intro (HN.out.1.below hb10) (HN.out.2.below hb10))
                      have Ha := veil (Ha.out.below hb10)
                      have Hc := veil (Hc.out.below hb10)
                      have Hd := veil (Hd.out.below hb10)
                      have He := veil (He.out.below hb10)
                      have Hy := veil (Hy.out.below hb10)
                      have Hz := veil (Hz.out.below hb10)
                      clear hb10
                      have a0 := Hd.out.box.cell 0
                      have a1 := Hd.out.box.cell 1
                      have a2 := Hd.out.box.cell 2
                      have a3 := Hd.out.box.cell 3
                      have a4 := Hd.out.box.cell 4
                      have b0 := He.out.box.cell 0
                      have b1 := He.out.box.cell 1
                      have b2 := He.out.box.cell 2
                      have b3 := He.out.box.cell 3
                      have b4 := He.out.box.cell 4
                      simp at a0 a1 a2 a3 a4 b0 b1 b2 b3 b4
                      go_wp2_with fail
                      refine (samereq_any ec eq ec eq xd xe el el cd ce _ Hd.out.at_ He.out.at_ (by omega)).mono ?_
                      rintro e W11 ⟨bb, rfl, hbb, hb11⟩
                      obtain rfl : bb = true := hbb.2 rfl
                      have hs11 := hb11.size
                      clear hbb a0 a1 a2 a3 a4 b0 b1 b2 b3 b4
                      have HN := veil (And.intro (HN.out.1.below hb11) (HN.out.2.below hb11))
                      have Ha := veil (Ha.out.below hb11)
                      have Hc := veil (Hc.out.below hb11)
                      have Hd := veil (Hd.out.below hb11)
                      have He := veil (He.out.below hb11)
                      have Hy := veil (Hy.out.below hb11)
                      have Hz := veil (Hz.out.below hb11)
                      clear hb11
                      go_wp2_with fail
                      refine (samereps_ref xy xz pl cy cz _ Hy.out.at_ Hz.out.at_ (by omega)).mono ?_
                      rintro e W12 ⟨rfl, hb12⟩
                      have hs12 := hb12.size
                      have HN := veil (And.intro (HN.out.1.below hb12) (HN.out.2.below hb12))
                      have Ha := veil (Ha.out.below hb12)
                      have Hc := veil (Hc.out.below hb12)
                      have Hd := veil (Hd.out.below hb12)
                      have He := veil (He.out.below hb12)
                      have Hy := veil (Hy.out.below hb12)
                      have Hz := veil (Hz.out.below hb12)
                      clear hb12
                      have hBk := HN.out.2.mono (BR' := W12.heap.size) (BC' := W12.heap.size) (by omega) (by omega)
                      have HB := veil hBk
                      clear hBk
                      go_wp2_with fail
                      go_roundw
                      case rel => exact ⟨k2 + 1, _, _, _, _, _, _, by omega, by go_num, HN.out.1, HB.out, by omega, HL2⟩
                      case measure => simp [intOf]; omega
                    · obtain rfl : k2 = 2 := by omega
                      obtain ⟨hn1, hn2, hn3, hn4⟩ := HL.out
                      have j1 : ¬ (((2 : Nat) : Int) < 2) := by decide
                      go_wp2_with fail
                      refine (replies_any y rs kr _ HN.out.1.y hkr (by omega)).mono ?_
                      rintro e W1 ⟨rfl, hb1⟩
                      have HN := veil (And.intro (HN.out.1.below hb1) (HN.out.2.below hb1))
                      clear hb1
                      go_wp2_with fail
                      refine (replies_ref y rs kr _ HN.out.1.y hkr (by omega) HE.out).mono ?_
                      rintro e W2 ⟨rfl, hb2⟩
                      have HN := veil (And.intro (HN.out.1.below hb2) (HN.out.2.below hb2))
                      clear hb2
                      have r0 := HN.out.1.r.cell 0
                      have r1 := HN.out.1.r.cell 1
                      have r2 := HN.out.1.r.cell 2
                      simp at r0 r1 r2
                      generalize strS (repsBytes rs) = sr
                      go_wp2_with fail
                      refine (same_any c q c q x x l l k k _ HN.out.1.x HN.out.1.x (by omega)).mono ?_
                      rintro e W3 ⟨bb, rfl, hbb, hb3⟩
                      obtain rfl : bb = true := hbb.2 rfl
                      have HN := veil (And.intro (HN.out.1.below hb3) (HN.out.2.below hb3))
                      clear hb3 hbb r0 r1 r2
                      have hA := apart_any (n0 + 1) _ _ _ _ f10 f11 f12 f13 rss css _ HN.out.2.at_ (by omega) (by omega) (fun l h => by have := hn3 l h; omega) (fun l h => by have := hn4 l h; omega)
                      have HA := veil hA
                      clear hA hn1 hn2 hn3 hn4 HL
                      go_wp2_with fail
                      refine HA.out.mono ?_
                      rintro e W4 ⟨rfl, hb4⟩
                      have HW := veil (HN.out.1.hb.trans (hb4.mono (by omega)))
                      clear hb4
                      go_wp2
                      go_ret
                      exact ⟨rfl, HW.out⟩)
                    end Go.Proofs.YtjonmggkmalgaaaGreatDoor

/-
  The law CmdBack: the walk.
-/
import Derived.Test.YtjonmggkmalgaaaGreatDoorW24Alive
import Derived.Test.YtjonmggkmalgaaaGreatDoorW48Codec
import Derived.Test.YtjonmggkmalgaaaGreatDoorW49Same
import Derived.Test.YtjonmggkmalgaaaGreatDoorW50Book
namespace Go.Proofs.YtjonmggkmalgaaaGreatDoor
open Go.RowKit Go.Lib

section
variable {P : Program} {ops : Array Oper} {Q : Exit → Act → World → Prop} {md : Region.Mode} {S : World → Prop}
/-- One operation of a region is taken first: it yields v in every world that meets S. -/
theorem step_take (i : Nat) (v : Value) {fuel : Nat} {listed : Array Bool} {a : Act} {w : World} (hs : Region.noSelect ops = true) (hf : Region.free md ops listed i = true) (hr : (Region.ready md ops listed).contains i = true) (hS : S w) (hi : (ops[i]?).isSome = true)
    (h : ∀ oi, ops[i]? = some oi → (∀ c a w, Q (.panic c) (a.put oi.dst v) w → Q (.panic c) a w) ∧ YieldsIf P ops S oi v a ∧ wpAnyH P md ops Q S fuel (listed.setIfInBounds i true) (a.put oi.dst v) w) : wpAnyH P md ops Q S (fuel + 1) listed a w := by
  obtain ⟨oi, ho⟩ := Option.isSome_iff_exists.1 hi
  obtain ⟨h1, h2, h3⟩ := h oi ho
  exact wpAnyH_take ho hs hf hr h1 h2 hS h3
/-- One operation alone may come up. -/
theorem step_call (i : Nat) {fuel : Nat} {listed : Array Bool} {a : Act} {w : World} (hr : Region.ready md ops listed = [i]) (hi : (ops[i]?).isSome = true)
    (h : ∀ o, ops[i]? = some o → ∀ K' : Act → World → Prop, Shut (∀ a w, S w → (S w → wpAnyH P md ops Q S fuel (listed.setIfInBounds i true) a w) → K' a w) → if Region.wanted o (yielded ops a.tmps) = true then Oper.wp P o a w K' Q else K' (a.put o.dst undef) w) : wpAnyH P md ops Q S (fuel + 1) listed a w := by
  obtain ⟨o, ho⟩ := Option.isSome_iff_exists.1 hi
  exact wpAnyH_ready hr (by simp) (AllReadyH.cons ho (h o ho) AllReadyH.nil)
end

theorem check_cases (i t : Int) (r : ReqS) : EntS.check ⟨i, t, r⟩ = 1 ∨ EntS.check ⟨i, t, r⟩ = r.check := by
  unfold EntS.check
  split
  · exact .inl rfl
  · exact .inr rfl

set_option maxHeartbeats 16000000 in
set_option maxRecDepth 100000 in
theorem back_any (c q c' q' i t : Int) (x y : Option Addr) (l m : List CmdS) (k k' : Nat) (more : ByteArray) (w : World) (hg : Glob w) (hx : CmdsAt w x l) (hy : CmdsAt w y m) (hl : l.length ≤ 9223372036854775807) (hm : m.length ≤ 9223372036854775807) :
    Calls Tryz.prog 3 #[reqV c q x l.length k, reqV c' q' y m.length k', .int .i64 i, .int .i64 t, .string more] w (LivePost w) := by
  have ha1 := box_made w 24 [.int .i64 c, .int .i64 q, .slice x l.length k]
  have hm1 := (Lies.made w 24 [.int .i64 c, .int .i64 q, .slice x l.length k]).alloc (.cells #[.int .i64 c', .int .i64 q', .slice y m.length k'] 24)
  have hm2 := Lies.made (w.alloc (.cells #[.int .i64 c, .int .i64 q, .slice x l.length k] 24)) 24 [.int .i64 c', .int .i64 q', .slice y m.length k']
  have ha2 := ha1.alloc (by simp) (.cells #[.int .i64 c', .int .i64 q', .slice y m.length k'] 24)
  obtain ⟨W0, hW0⟩ : ∃ W0, W0 = (w.alloc (.cells #[.int .i64 c, .int .i64 q, .slice x l.length k] 24)).alloc (.cells #[.int .i64 c', .int .i64 q', .slice y m.length k'] 24) := ⟨_, rfl⟩
  have hs1 : (w.alloc (.cells #[.int .i64 c, .int .i64 q, .slice x l.length k] 24)).heap.size = w.heap.size + 1 := by simp
  rw [hs1] at hm2
  have hW1 := cmds_any 20000 x l k _ (hx.below ha2) (by decide) (by decide) hl
  have HX := veil hx
  have HY := veil hy
  clear hx hy ha1 hs1
  go_enter Tryz.func3, Tryz.ntmps3
  go_wp2_with fail
  refine hW1.mono ?_
  rintro e w1 ⟨z1, rfl, _, _, hb1⟩
  have hsz0 : W0.heap.size = w.heap.size + 2 := by rw [hW0]; simp
  rw [← hW0] at hm1 hm2 ha2 hb1
  clear hW1 hW0
  have hm1 := hm1.below hb1 (by omega)
  have hm2 := hm2.below hb1 (by omega)
  have hb1 := ha2.trans (hb1.mono (by omega))
  clear ha2 hsz0
  by_cases hz1 : z1 < 0
  · clear hm1 hm2
    go_wp2_with fail
    refine (alive_ok _ (hg.below hb1)).mono ?_
    rintro e w2 ⟨rfl, hb2⟩
    go_wp2
    go_ret
    exact ⟨rfl, hb1.trans (hb2.mono hb1.size)⟩
  have s1 := hb1.size
  have d0 := hm1.cell 0
  have d1 := hm1.cell 1
  have d2 := hm1.cell 2
  have b0 := hm2.cell 0
  have b1 := hm2.cell 1
  have b2 := hm2.cell 2
  simp at d0 d1 d2 b0 b1 b2
  have hW2 := cmds_any 20000 y m k' _ (HY.out.below hb1) (by decide) (by decide) hm
  go_wp2_with fail
  refine hW2.mono ?_
  rintro e w2 ⟨z2, rfl, _, _, hb2⟩
  have hm1 := hm1.below hb2 hm1.lt
  have hm2 := hm2.below hb2 hm2.lt
  have hb2 := hb1.trans (hb2.mono s1)
  have s2 := hb2.size
  clear hW2 hb1 d0 d1 d2 b0 b1 b2
  have d0 := hm1.cell 0
  have d1 := hm1.cell 1
  have d2 := hm1.cell 2
  have b0 := hm2.cell 0
  have b1 := hm2.cell 1
  have b2 := hm2.cell 2
  simp at d0 d1 d2 b0 b1 b2
  have hlive := alive_ok _ (hg.below hb2)
  by_cases hshort : z2 < 0 ∨ (20 : Int) < ((l.length : Nat) : Int) ∨ (20 : Int) < ((m.length : Nat) : Int) ∨ (100 : Int) < more.size
  · clear hm1 hm2
    have hcases : z2 < 0 ∨ (¬ z2 < 0 ∧ (20 : Int) < ((l.length : Nat) : Int)) ∨ (¬ z2 < 0 ∧ ¬ (20 : Int) < ((l.length : Nat) : Int) ∧ (20 : Int) < ((m.length : Nat) : Int)) ∨ (¬ z2 < 0 ∧ ¬ (20 : Int) < ((l.length : Nat) : Int) ∧ ¬ (20 : Int) < ((m.length : Nat) : Int) ∧ (100 : Int) < more.size) := by omega
    clear hshort
    rcases hcases with h1 | ⟨h1, h2⟩ | ⟨h1, h2, h3⟩ | ⟨h1, h2, h3, h4⟩
    all_goals (
      go_wp2_with fail
      refine hlive.mono ?_
      rintro e w3 ⟨rfl, hb3⟩
      go_wp2
      go_ret
      exact ⟨rfl, hb2.trans (hb3.mono s2)⟩)
  have g1 : ¬ z2 < 0 := by omega
  have g2 : ¬ (20 : Int) < ((l.length : Nat) : Int) := by omega
  have g3 : ¬ (20 : Int) < ((m.length : Nat) : Int) := by omega
  have g4 : ¬ (100 : Int) < more.size := by omega
  clear hshort
  go_wp2_with fail
  refine hlive.mono ?_
  rintro e w3 ⟨rfl, hb3⟩
  have hm1 := hm1.below hb3 hm1.lt
  have hm2 := hm2.below hb3 hm2.lt
  have hb3 := hb2.trans (hb3.mono s2)
  have s3 := hb3.size
  clear hlive hb2 d0 d1 d2 b0 b1 b2
  have d0 := hm1.cell 0
  have d1 := hm1.cell 1
  have d2 := hm1.cell 2
  simp at d0 d1 d2
  have hen := entry_any i t c q x l k w3 (HX.out.below hb3) (by omega)
  obtain ⟨E, hE⟩ : ∃ E, E = EntS.mk i t ⟨c, q, l⟩ := ⟨_, rfl⟩
  rw [← hE] at hen
  go_wp2_with fail
  refine hen.mono ?_
  rintro e w4 ⟨rfl, hb4⟩
  have hm1 := hm1.below hb4 hm1.lt
  have hm2 := hm2.below hb4 hm2.lt
  have hb4 := hb3.trans (hb4.mono s3)
  have s4 := hb4.size
  clear hen hb3 d0 d1 d2
  by_cases hck : E.check = 0
  · have hls : E.laid = strS E.bytes := elaid_ok hck
    rw [hck, hls]
    have hel2 : E.bytes.length ≤ 10000 := by
      have h1 := (check_zero (echeck_zero hck).2.2.2.2).2.2.2.2.2.2.2
      have h2 : E.bytes.length = E.req.bytes.length + 8 := by unfold EntS.bytes; simp only [List.length_append, lowBytes_length]; omega
      omega
    have hrd := readentry_any E.bytes w4 (by omega)
    have hok := readE_ok E hck
    rw [hok] at hrd
    obtain ⟨hel, hed⟩ := ebytes_length E
    have Hrr := veil (readR_ok E.req (echeck_zero hck).2.2.2.2)
    have Hmore := veil (readE_more E more.data.toList hck)
    have Hless := veil (readE_less E hck (E.bytes.take (E.bytes.length - 1)))
    have Hok := veil hok
    have hEr : E.req = ⟨c, q, l⟩ := by rw [hE]
    have hEi : E.index = i := by rw [hE]
    have hEt : E.term = t := by rw [hE]
    rw [← hed] at Hrr
    obtain ⟨bs, hbs⟩ : ∃ bs, bs = E.bytes := ⟨_, rfl⟩
    rw [← hbs] at hrd hel hel2 Hrr Hmore Hless Hok ⊢
    rw [hEr] at Hrr
    unfold ReadEPost at hrd
    simp only [hEr, hEi, hEt] at hrd
    have hz := strS_size bs
    clear hls hbs hed hok hck
    go_wp2_with fail
    refine hrd.mono ?_
    rintro e w5 ⟨v, rfl, hown, hb5⟩
    obtain ⟨xs, cap, hv, hat⟩ := hown.at_
    subst hv
    have hm1 := hm1.below hb5 hm1.lt
    have hm2 := hm2.below hb5 hm2.lt
    have hb5 := hb4.trans (hb5.mono s4)
    have s5 := hb5.size
    have ha6 := box_made w5 31 [.int .i64 i, .int .i64 t, .int .i64 c, .int .i64 q, .slice xs l.length cap]
    have he6 := Lies.made w5 31 [.int .i64 i, .int .i64 t, .int .i64 c, .int .i64 q, .slice xs l.length cap]
    have hm1 := hm1.below ha6 hm1.lt
    have hm2 := hm2.below ha6 hm2.lt
    have hb6 := hb5.trans (ha6.mono s5)
    have hat6 := hat.below ha6
    have s6 := hb6.size
    have d0 := hm1.cell 0
    have d1 := hm1.cell 1
    have d2 := hm1.cell 2
    have e2 := he6.cell 2
    have e3 := he6.cell 3
    have e4 := he6.cell 4
    simp at d0 d1 d2 e2 e3 e4
    have hsame := samereq_any c q c q xs x l l cap k _ hat6 (HX.out.below hb6) (by omega)
    clear hrd hown hb4 ha6 hat hb5
    go_wp2_with fail
    refine hsame.mono ?_
    rintro e w7 ⟨bb, rfl, hbb, hb7⟩
    obtain rfl : bb = true := hbb.2 trivial
    have hm1 := hm1.below hb7 hm1.lt
    have hm2 := hm2.below hb7 hm2.lt
    have hb7 := hb6.trans (hb7.mono s6)
    have s7 := hb7.size
    have l8 : (8 : Int) ≤ (bs.length : Int) := by omega
    have l9 : ¬ (bs.length : Int) < 8 := by omega
    have hx1 : (strS bs).extract 8 bs.length = strS (bs.drop 8) := by
      rw [strS_extract]
      congr 2
      rw [List.take_of_length_le (by simp)]
    have hx2 : (strS bs).extract 0 (bs.length - 1) = strS (bs.take (bs.length - 1)) := by
      rw [strS_extract]
      simp
    have hcl : bs.length + more.size ≤ 9223372036854775807 := by omega
    clear hsame hbb hb6 d0 d1 d2 e2 e3 e4 he6
    have hr8 := read_any (bs.drop 8) w7 (by rw [List.length_drop]; omega)
    rw [Hrr.out] at hr8
    unfold ReadPost at hr8
    simp only at hr8
    go_wp2_with fail
    refine hr8.mono ?_
    rintro e w8 ⟨v, rfl, hown, hb8⟩
    obtain ⟨xr, cr, hv, hat⟩ := hown.at_
    subst hv
    have hm1 := hm1.below hb8 hm1.lt
    have hm2 := hm2.below hb8 hm2.lt
    have hb8 := hb7.trans (hb8.mono s7)
    have s8 := hb8.size
    have ha9 := box_made w8 24 [.int .i64 c, .int .i64 q, .slice xr l.length cr]
    have he9 := Lies.made w8 24 [.int .i64 c, .int .i64 q, .slice xr l.length cr]
    have hm1 := hm1.below ha9 hm1.lt
    have hm2 := hm2.below ha9 hm2.lt
    have hb9 := hb8.trans (ha9.mono s8)
    have hat9 := hat.below ha9
    have s9 := hb9.size
    clear hr8 hown hb7 ha9 hat hb8
    have hcat : strS bs ++ more = strS (bs ++ more.data.toList) := by
      apply bytes_ext
      rw [ByteArray.data_append]
      simp
    have hml : more.data.toList.length = more.size := Array.length_toList
    have hr10 := readentry_any (bs ++ more.data.toList) (w8.alloc (.cells #[.int .i64 c, .int .i64 q, .slice xr l.length cr] 24)) (by rw [List.length_append]; omega)
    rw [← hcat] at hr10
    have Hmore2 : Hid (more.toList.isEmpty = true ∨ (more.toList.isEmpty = false ∧ (readE (bs ++ more.data.toList)).2 ≠ 0)) := by
      refine veil ?_
      cases hme : more.toList.isEmpty
      · refine .inr ⟨rfl, Hmore.out (fun h => ?_)⟩
        rw [ByteArray.toList_eq, h] at hme
        cases hme
      · exact .inl rfl
    obtain ⟨R, hR⟩ : ∃ R, R = readE (bs ++ more.data.toList) := ⟨_, rfl⟩
    rw [← hR] at hr10 Hmore2
    obtain ⟨⟨ri, rt, ⟨rc, rq, rl⟩⟩, rh⟩ := R
    unfold ReadEPost at hr10
    simp only at hr10 Hmore2
    have hless : (readE (bs.take (bs.length - 1))).2 ≠ 0 := by
      have hne : bs ≠ [] := fun h => by rw [h] at hel; simp at hel
      refine Hless.out (bs.getLast hne) ?_
      rw [← List.dropLast_eq_take]
      exact (List.dropLast_concat_getLast hne).symm
    clear hR hcat hml Hmore Hless Hok Hrr
    go_wp2_with fail
    refine hr10.mono ?_
    rintro e w10 ⟨v, rfl, hown, hb10⟩
    obtain ⟨x1, c1, hv, _⟩ := hown.at_
    subst hv
    have hm1 := hm1.below hb10 hm1.lt
    have hm2 := hm2.below hb10 hm2.lt
    have he9 := he9.below hb10 he9.lt
    have hat9 := hat9.below hb10
    have hb10 := hb9.trans (hb10.mono s9)
    have s10 := hb10.size
    have ha11 := box_made w10 31 [.int .i64 ri, .int .i64 rt, .int .i64 rc, .int .i64 rq, .slice x1 rl.length c1]
    have hm1 := hm1.below ha11 hm1.lt
    have hm2 := hm2.below ha11 hm2.lt
    have he9 := he9.below ha11 he9.lt
    have hat9 := hat9.below ha11
    have hb11 := hb10.trans (ha11.mono s10)
    have s11 := hb11.size
    have hr12 := readentry_any (bs.take (bs.length - 1)) (w10.alloc (.cells #[.int .i64 ri, .int .i64 rt, .int .i64 rc, .int .i64 rq, .slice x1 rl.length c1] 31)) (by rw [List.length_take]; omega)
    obtain ⟨R, hR⟩ : ∃ R, R = readE (bs.take (bs.length - 1)) := ⟨_, rfl⟩
    rw [← hR] at hr12 hless
    obtain ⟨⟨ti, tt, ⟨tc, tq, tl⟩⟩, th⟩ := R
    unfold ReadEPost at hr12
    simp only at hr12 hless
    have l10 : (0 : Int) ≤ (bs.length : Int) - 1 := by omega
    have l11 : (bs.length : Int) - 1 ≤ (bs.length : Int) := by omega
    clear hR hr10 hown hb9 ha11 hb10
    go_wp2_with fail
    refine hr12.mono ?_
    rintro e w12 ⟨v, rfl, hown, hb12⟩
    obtain ⟨x2, c2, hv, _⟩ := hown.at_
    subst hv
    have hm1 := hm1.below hb12 hm1.lt
    have hm2 := hm2.below hb12 hm2.lt
    have he9 := he9.below hb12 he9.lt
    have hat9 := hat9.below hb12
    have hb12 := hb11.trans (hb12.mono s11)
    have s12 := hb12.size
    have ha13 := box_made w12 31 [.int .i64 ti, .int .i64 tt, .int .i64 tc, .int .i64 tq, .slice x2 tl.length c2]
    have hm1 := hm1.below ha13 hm1.lt
    have hm2 := hm2.below ha13 hm2.lt
    have he9 := he9.below ha13 he9.lt
    have hat9 := hat9.below ha13
    have hb13 := hb12.trans (ha13.mono s12)
    have s13 := hb13.size
    obtain ⟨W13, hW13⟩ : ∃ W13, W13 = w12.alloc (.cells #[.int .i64 ti, .int .i64 tt, .int .i64 tc, .int .i64 tq, .slice x2 tl.length c2] 31) := ⟨_, rfl⟩
    have hthb : (th != 0) = true := by simpa using hless
    obtain ⟨pb, hpb⟩ : ∃ pb : Bool, pb = true ↔ ReqS.mk c q l = ReqS.mk c' q' m := by
      by_cases h : ReqS.mk c q l = ReqS.mk c' q' m
      · exact ⟨true, by simp [h]⟩
      · exact ⟨false, by simp [h]⟩
    have HP := veil hpb
    have hsv : ∀ W, Below W13.heap.size W13 W → Calls Tryz.prog 10 #[reqV c q xr l.length cr, reqV c q x l.length k] W (SamePost W (ReqS.mk c q l = ReqS.mk c q l)) := fun W h => samereq_any c q c q xr x l l cr k W (by rw [hW13] at h; exact hat9.below h) ((HX.out.below hb13).below (by rw [hW13] at h; exact h)) (by omega)
    have hs1 : ∀ W, Below W13.heap.size W13 W → Calls Tryz.prog 12 #[reqV c q x l.length k, reqV c' q' y m.length k'] W (SamePost W (ReqS.mk c q l = ReqS.mk c' q' m)) := fun W h => same_any c q c' q' x y l m k k' W ((HX.out.below hb13).below (by rw [hW13] at h; exact h)) ((HY.out.below hb13).below (by rw [hW13] at h; exact h)) (by omega)
    have hs2 : ∀ W, Below W13.heap.size W13 W → Calls Tryz.prog 10 #[reqV c q x l.length k, reqV c' q' y m.length k'] W (SamePost W (ReqS.mk c q l = ReqS.mk c' q' m)) := fun W h => samereq_any c q c' q' x y l m k k' W ((HX.out.below hb13).below (by rw [hW13] at h; exact h)) ((HY.out.below hb13).below (by rw [hW13] at h; exact h)) (by omega)
    have HS := veil (And.intro hsv (And.intro hs1 hs2))
    rw [← hW13] at hm1 hm2 he9 hb13 s13
    have hl1 := hm1.lt
    have hl2 := hm2.lt
    have hl9 := he9.lt
    have h13 : W13.heap.size = w12.heap.size + 1 := by rw [hW13]; simp
    clear hr12 hown hb11 ha13 hb12 hat9 hless hpb hsv hs1 hs2
    rcases Hmore2.out with hme | ⟨hme, hrh⟩
    · obtain rfl : more = ⟨#[]⟩ := by
        apply bytes_ext
        rw [ByteArray.toList_eq] at hme
        simpa using hme
      clear hme
      go_wp2_with fail
      rw [← hW13]
      clear hW13
      -- STEPS BEGIN
      refine wp_region_held_drew (S := (fun w' => w'.cell? ⟨w.heap.size, 0, none⟩ = some (.int .i64 c) ∧ w'.cell? ⟨w.heap.size, 1, none⟩ = some (.int .i64 q) ∧ w'.cell? ⟨w.heap.size, 2, none⟩ = some (.slice x l.length k) ∧ w'.cell? ⟨w.heap.size + 1, 0, none⟩ = some (.int .i64 c') ∧ w'.cell? ⟨w.heap.size + 1, 1, none⟩ = some (.int .i64 q') ∧ w'.cell? ⟨w.heap.size + 1, 2, none⟩ = some (.slice y m.length k') ∧ w'.cell? ⟨w8.heap.size, 0, none⟩ = some (.int .i64 c) ∧ w'.cell? ⟨w8.heap.size, 1, none⟩ = some (.int .i64 q) ∧ w'.cell? ⟨w8.heap.size, 2, none⟩ = some (.slice xr l.length cr))) (by kernel_rfl) (⟨hm1.cell 0, hm1.cell 1, hm1.cell 2, hm2.cell 0, hm2.cell 1, hm2.cell 2, he9.cell 0, he9.cell 1, he9.cell 2⟩) (fun hHeld => ?_)
      refine step_take 0 ?_ (by kernel_rfl) (by kernel_rfl) (by kernel_rfl) (by assumption) rfl (fun oi hoi => ?_)
      rotate_left
      simp only [List.getElem?_toArray, List.getElem?_cons_zero, Option.some.injEq] at hoi
      subst hoi
      refine ⟨fun _ _ _ h => h, Or.inl ⟨by rfl, ?_⟩, ?_⟩
      · intro w hSw; (try dsimp only at hSw); go_simp <;> with_reducible rfl
      try simp only [Act.put, List.setIfInBounds_toArray, List.set_cons_zero, List.set_cons_succ]
      refine step_take 1 ?_ (by kernel_rfl) (by kernel_rfl) (by kernel_rfl) (by assumption) rfl (fun oi hoi => ?_)
      rotate_left
      simp only [List.getElem?_toArray, List.getElem?_cons_zero, List.getElem?_cons_succ, Option.some.injEq] at hoi
      subst hoi
      refine ⟨fun _ _ _ h => h, Or.inl ⟨by rfl, ?_⟩, ?_⟩
      · intro w hSw; (try dsimp only at hSw); go_simp <;> with_reducible rfl
      try simp only [Act.put, List.setIfInBounds_toArray, List.set_cons_zero, List.set_cons_succ]
      refine step_take 2 ?_ (by kernel_rfl) (by kernel_rfl) (by kernel_rfl) (by assumption) rfl (fun oi hoi => ?_)
      rotate_left
      simp only [List.getElem?_toArray, List.getElem?_cons_zero, List.getElem?_cons_succ, Option.some.injEq] at hoi
      subst hoi
      refine ⟨fun _ _ _ h => h, Or.inl ⟨by rfl, ?_⟩, ?_⟩
      · intro w hSw; (try dsimp only at hSw); go_simp <;> with_reducible rfl
      try simp only [Act.put, List.setIfInBounds_toArray, List.set_cons_zero, List.set_cons_succ]
      refine step_take 3 ?_ (by kernel_rfl) (by kernel_rfl) (by kernel_rfl) (by assumption) rfl (fun oi hoi => ?_)
      rotate_left
      simp only [List.getElem?_toArray, List.getElem?_cons_zero, List.getElem?_cons_succ, Option.some.injEq] at hoi
      subst hoi
      refine ⟨fun _ _ _ h => h, Or.inl ⟨by rfl, ?_⟩, ?_⟩
      · intro w hSw; (try dsimp only at hSw); go_simp <;> with_reducible rfl
      try simp only [Act.put, List.setIfInBounds_toArray, List.set_cons_zero, List.set_cons_succ]
      refine step_take 4 ?_ (by kernel_rfl) (by kernel_rfl) (by kernel_rfl) (by assumption) rfl (fun oi hoi => ?_)
      rotate_left
      simp only [List.getElem?_toArray, List.getElem?_cons_zero, List.getElem?_cons_succ, Option.some.injEq] at hoi
      subst hoi
      refine ⟨fun _ _ _ h => h, Or.inl ⟨by rfl, ?_⟩, ?_⟩
      · intro w hSw; (try dsimp only at hSw); go_simp <;> with_reducible rfl
      try simp only [Act.put, List.setIfInBounds_toArray, List.set_cons_zero, List.set_cons_succ]
      refine step_call 5 (by kernel_rfl) rfl (fun oi hoi K hK => ?_)
      simp only [List.getElem?_toArray, List.getElem?_cons_zero, List.getElem?_cons_succ, Option.some.injEq] at hoi
      subst hoi
      go_simp
      go_at_call 10; refine (HS.out.1 _ ((Below.refl _ _).drew)).mono ?_; rintro e w14 ⟨bb, rfl, hbb, hb14⟩; obtain rfl : bb = true := hbb.2 trivial; have hbx : Below W13.heap.size W13 w14 := Below.trans ((Below.refl _ _).drew) (hb14.mono (Nat.le_refl _)); clear hbb hb14
      go_wp2_with fail
      refine hK.out _ _ (⟨(hm1.below hbx hl1).cell 0, (hm1.below hbx hl1).cell 1, (hm1.below hbx hl1).cell 2, (hm2.below hbx hl2).cell 0, (hm2.below hbx hl2).cell 1, (hm2.below hbx hl2).cell 2, (he9.below hbx hl9).cell 0, (he9.below hbx hl9).cell 1, (he9.below hbx hl9).cell 2⟩) (fun hHeld => ?_)
      clear hK K
      try simp only [Act.put, List.setIfInBounds_toArray, List.set_cons_zero, List.set_cons_succ]
      refine step_take 6 ?_ (by kernel_rfl) (by kernel_rfl) (by kernel_rfl) (by assumption) rfl (fun oi hoi => ?_)
      rotate_left
      simp only [List.getElem?_toArray, List.getElem?_cons_zero, List.getElem?_cons_succ, Option.some.injEq] at hoi
      subst hoi
      refine ⟨fun _ _ _ h => h, Or.inl ⟨by rfl, ?_⟩, ?_⟩
      · intro w hSw; (try dsimp only at hSw); go_simp <;> with_reducible rfl
      try simp only [Act.put, List.setIfInBounds_toArray, List.set_cons_zero, List.set_cons_succ]
      refine step_take 7 ?_ (by kernel_rfl) (by kernel_rfl) (by kernel_rfl) (by assumption) rfl (fun oi hoi => ?_)
      rotate_left
      simp only [List.getElem?_toArray, List.getElem?_cons_zero, List.getElem?_cons_succ, Option.some.injEq] at hoi
      subst hoi
      refine ⟨fun _ _ _ h => h, Or.inl ⟨by rfl, ?_⟩, ?_⟩
      · intro w hSw; (try dsimp only at hSw); go_simp <;> with_reducible rfl
      try simp only [Act.put, List.setIfInBounds_toArray, List.set_cons_zero, List.set_cons_succ]
      refine step_take 8 ?_ (by kernel_rfl) (by kernel_rfl) (by kernel_rfl) (by assumption) rfl (fun oi hoi => ?_)
      rotate_left
      simp only [List.getElem?_toArray, List.getElem?_cons_zero, List.getElem?_cons_succ, Option.some.injEq] at hoi
      subst hoi
      refine ⟨fun _ _ _ h => h, Or.inl ⟨by rfl, ?_⟩, ?_⟩
      · intro w hSw; (try dsimp only at hSw); go_simp <;> with_reducible rfl
      try simp only [Act.put, List.setIfInBounds_toArray, List.set_cons_zero, List.set_cons_succ]
      refine step_take 9 ?_ (by kernel_rfl) (by kernel_rfl) (by kernel_rfl) (by assumption) rfl (fun oi hoi => ?_)
      rotate_left
      simp only [List.getElem?_toArray, List.getElem?_cons_zero, List.getElem?_cons_succ, Option.some.injEq] at hoi
      subst hoi
      refine ⟨fun _ _ _ h => h, Or.inl ⟨by rfl, ?_⟩, ?_⟩
      · intro w hSw; (try dsimp only at hSw); go_simp <;> with_reducible rfl
      try simp only [Act.put, List.setIfInBounds_toArray, List.set_cons_zero, List.set_cons_succ]
      refine step_take 10 ?_ (by kernel_rfl) (by kernel_rfl) (by kernel_rfl) (by assumption) rfl (fun oi hoi => ?_)
      rotate_left
      simp only [List.getElem?_toArray, List.getElem?_cons_zero, List.getElem?_cons_succ, Option.some.injEq] at hoi
      subst hoi
      refine ⟨fun _ _ _ h => h, Or.inl ⟨by rfl, ?_⟩, ?_⟩
      · intro w hSw; (try dsimp only at hSw); go_simp <;> with_reducible rfl
      try simp only [Act.put, List.setIfInBounds_toArray, List.set_cons_zero, List.set_cons_succ]
      refine step_take 11 undef (by kernel_rfl) (by kernel_rfl) (by kernel_rfl) (by assumption) rfl (fun oi hoi => ?_)
      simp only [List.getElem?_toArray, List.getElem?_cons_zero, List.getElem?_cons_succ, Option.some.injEq] at hoi
      subst hoi
      refine ⟨fun _ _ _ h => h, Or.inr ⟨by rfl, rfl⟩, ?_⟩
      try simp only [Act.put, List.setIfInBounds_toArray, List.set_cons_zero, List.set_cons_succ]
      refine step_take 12 undef (by kernel_rfl) (by kernel_rfl) (by kernel_rfl) (by assumption) rfl (fun oi hoi => ?_)
      simp only [List.getElem?_toArray, List.getElem?_cons_zero, List.getElem?_cons_succ, Option.some.injEq] at hoi
      subst hoi
      refine ⟨fun _ _ _ h => h, Or.inr ⟨by rfl, rfl⟩, ?_⟩
      try simp only [Act.put, List.setIfInBounds_toArray, List.set_cons_zero, List.set_cons_succ]
      refine step_take 13 ?_ (by kernel_rfl) (by kernel_rfl) (by kernel_rfl) (by assumption) rfl (fun oi hoi => ?_)
      rotate_left
      simp only [List.getElem?_toArray, List.getElem?_cons_zero, List.getElem?_cons_succ, Option.some.injEq] at hoi
      subst hoi
      refine ⟨fun _ _ _ h => h, Or.inl ⟨by rfl, ?_⟩, ?_⟩
      · intro w hSw; (try dsimp only at hSw); go_simp <;> with_reducible rfl
      try simp only [Act.put, List.setIfInBounds_toArray, List.set_cons_zero, List.set_cons_succ]
      refine step_take 14 ?_ (by kernel_rfl) (by kernel_rfl) (by kernel_rfl) (by assumption) rfl (fun oi hoi => ?_)
      rotate_left
      simp only [List.getElem?_toArray, List.getElem?_cons_zero, List.getElem?_cons_succ, Option.some.injEq] at hoi
      subst hoi
      refine ⟨fun _ _ _ h => h, Or.inl ⟨by rfl, ?_⟩, ?_⟩
      · intro w hSw; (try dsimp only at hSw); go_simp <;> with_reducible rfl
      try simp only [Act.put, List.setIfInBounds_toArray, List.set_cons_zero, List.set_cons_succ]
      refine step_take 15 ?_ (by kernel_rfl) (by kernel_rfl) (by kernel_rfl) (by assumption) rfl (fun oi hoi => ?_)
      rotate_left
      simp only [List.getElem?_toArray, List.getElem?_cons_zero, List.getElem?_cons_succ, Option.some.injEq] at hoi
      subst hoi
      refine ⟨fun _ _ _ h => h, Or.inl ⟨by rfl, ?_⟩, ?_⟩
      · intro w hSw; (try dsimp only at hSw); go_simp <;> with_reducible rfl
      try simp only [Act.put, List.setIfInBounds_toArray, List.set_cons_zero, List.set_cons_succ]
      refine step_take 16 ?_ (by kernel_rfl) (by kernel_rfl) (by kernel_rfl) (by assumption) rfl (fun oi hoi => ?_)
      rotate_left
      simp only [List.getElem?_toArray, List.getElem?_cons_zero, List.getElem?_cons_succ, Option.some.injEq] at hoi
      subst hoi
      refine ⟨fun _ _ _ h => h, Or.inl ⟨by rfl, ?_⟩, ?_⟩
      · intro w hSw; (try dsimp only at hSw); go_simp <;> with_reducible rfl
      try simp only [Act.put, List.setIfInBounds_toArray, List.set_cons_zero, List.set_cons_succ]
      refine step_take 17 ?_ (by kernel_rfl) (by kernel_rfl) (by kernel_rfl) (by assumption) rfl (fun oi hoi => ?_)
      rotate_left
      simp only [List.getElem?_toArray, List.getElem?_cons_zero, List.getElem?_cons_succ, Option.some.injEq] at hoi
      subst hoi
      refine ⟨fun _ _ _ h => h, Or.inl ⟨by rfl, ?_⟩, ?_⟩
      · intro w hSw; (try dsimp only at hSw); go_simp <;> with_reducible rfl
      try simp only [Act.put, List.setIfInBounds_toArray, List.set_cons_zero, List.set_cons_succ]
      refine step_take 18 ?_ (by kernel_rfl) (by kernel_rfl) (by kernel_rfl) (by assumption) rfl (fun oi hoi => ?_)
      rotate_left
      simp only [List.getElem?_toArray, List.getElem?_cons_zero, List.getElem?_cons_succ, Option.some.injEq] at hoi
      subst hoi
      refine ⟨fun _ _ _ h => h, Or.inl ⟨by rfl, ?_⟩, ?_⟩
      · intro w hSw; (try dsimp only at hSw); go_simp <;> with_reducible rfl
      try simp only [Act.put, List.setIfInBounds_toArray, List.set_cons_zero, List.set_cons_succ]
      refine step_take 19 ?_ (by kernel_rfl) (by kernel_rfl) (by kernel_rfl) (by assumption) rfl (fun oi hoi => ?_)
      rotate_left
      simp only [List.getElem?_toArray, List.getElem?_cons_zero, List.getElem?_cons_succ, Option.some.injEq] at hoi
      subst hoi
      refine ⟨fun _ _ _ h => h, Or.inl ⟨by rfl, ?_⟩, ?_⟩
      · intro w hSw; (try dsimp only at hSw); go_simp <;> with_reducible rfl
      try simp only [Act.put, List.setIfInBounds_toArray, List.set_cons_zero, List.set_cons_succ]
      refine step_take 20 ?_ (by kernel_rfl) (by kernel_rfl) (by kernel_rfl) (by assumption) rfl (fun oi hoi => ?_)
      rotate_left
      simp only [List.getElem?_toArray, List.getElem?_cons_zero, List.getElem?_cons_succ, Option.some.injEq] at hoi
      subst hoi
      refine ⟨fun _ _ _ h => h, Or.inl ⟨by rfl, ?_⟩, ?_⟩
      · intro w hSw; (try dsimp only at hSw); go_simp <;> with_reducible rfl
      try simp only [Act.put, List.setIfInBounds_toArray, List.set_cons_zero, List.set_cons_succ]
      refine step_take 21 ?_ (by kernel_rfl) (by kernel_rfl) (by kernel_rfl) (by assumption) rfl (fun oi hoi => ?_)
      rotate_left
      simp only [List.getElem?_toArray, List.getElem?_cons_zero, List.getElem?_cons_succ, Option.some.injEq] at hoi
      subst hoi
      refine ⟨fun _ _ _ h => h, Or.inl ⟨by rfl, ?_⟩, ?_⟩
      · intro w hSw; (try dsimp only at hSw); go_simp <;> with_reducible rfl
      try simp only [Act.put, List.setIfInBounds_toArray, List.set_cons_zero, List.set_cons_succ]
      refine step_take 23 ?_ (by kernel_rfl) (by kernel_rfl) (by kernel_rfl) (by assumption) rfl (fun oi hoi => ?_)
      rotate_left
      simp only [List.getElem?_toArray, List.getElem?_cons_zero, List.getElem?_cons_succ, Option.some.injEq] at hoi
      subst hoi
      refine ⟨fun _ _ _ h => h, Or.inl ⟨by rfl, ?_⟩, ?_⟩
      · intro w hSw; (try dsimp only at hSw); go_simp <;> with_reducible rfl
      try simp only [Act.put, List.setIfInBounds_toArray, List.set_cons_zero, List.set_cons_succ]
      refine step_take 24 ?_ (by kernel_rfl) (by kernel_rfl) (by kernel_rfl) (by assumption) rfl (fun oi hoi => ?_)
      rotate_left
      simp only [List.getElem?_toArray, List.getElem?_cons_zero, List.getElem?_cons_succ, Option.some.injEq] at hoi
      subst hoi
      refine ⟨fun _ _ _ h => h, Or.inl ⟨by rfl, ?_⟩, ?_⟩
      · intro w hSw; (try dsimp only at hSw); go_simp <;> with_reducible rfl
      try simp only [Act.put, List.setIfInBounds_toArray, List.set_cons_zero, List.set_cons_succ]
      refine step_call 22 (by kernel_rfl) rfl (fun oi hoi K hK => ?_)
      simp only [List.getElem?_toArray, List.getElem?_cons_zero, List.getElem?_cons_succ, Option.some.injEq] at hoi
      subst hoi
      go_simp
      go_at_call 12; refine (HS.out.2.1 _ hbx).mono ?_; rintro e w15 ⟨bb, rfl, hbb, hb15⟩; obtain rfl : pb = bb := (by rw [Bool.eq_iff_iff, hbb, HP.out]); have hbx := hbx.trans (hb15.mono hbx.size); clear hbb hb15
      go_wp2_with fail
      refine hK.out _ _ (⟨(hm1.below hbx hl1).cell 0, (hm1.below hbx hl1).cell 1, (hm1.below hbx hl1).cell 2, (hm2.below hbx hl2).cell 0, (hm2.below hbx hl2).cell 1, (hm2.below hbx hl2).cell 2, (he9.below hbx hl9).cell 0, (he9.below hbx hl9).cell 1, (he9.below hbx hl9).cell 2⟩) (fun hHeld => ?_)
      clear hK K
      try simp only [Act.put, List.setIfInBounds_toArray, List.set_cons_zero, List.set_cons_succ]
      refine step_call 25 (by kernel_rfl) rfl (fun oi hoi K hK => ?_)
      simp only [List.getElem?_toArray, List.getElem?_cons_zero, List.getElem?_cons_succ, Option.some.injEq] at hoi
      subst hoi
      go_simp
      go_at_call 10; refine (HS.out.2.2 _ hbx).mono ?_; rintro e w16 ⟨bb, rfl, hbb, hb16⟩; obtain rfl : pb = bb := (by rw [Bool.eq_iff_iff, hbb, HP.out]); have hbx := hbx.trans (hb16.mono hbx.size); clear hbb hb16
      go_wp2_with fail
      refine hK.out _ _ (⟨(hm1.below hbx hl1).cell 0, (hm1.below hbx hl1).cell 1, (hm1.below hbx hl1).cell 2, (hm2.below hbx hl2).cell 0, (hm2.below hbx hl2).cell 1, (hm2.below hbx hl2).cell 2, (he9.below hbx hl9).cell 0, (he9.below hbx hl9).cell 1, (he9.below hbx hl9).cell 2⟩) (fun hHeld => ?_)
      clear hK K
      try simp only [Act.put, List.setIfInBounds_toArray, List.set_cons_zero, List.set_cons_succ]
      refine step_take 26 ?_ (by kernel_rfl) (by kernel_rfl) (by kernel_rfl) (by assumption) rfl (fun oi hoi => ?_)
      rotate_left
      simp only [List.getElem?_toArray, List.getElem?_cons_zero, List.getElem?_cons_succ, Option.some.injEq] at hoi
      subst hoi
      refine ⟨fun _ _ _ h => h, Or.inl ⟨by rfl, ?_⟩, ?_⟩
      · intro w hSw; (try dsimp only at hSw); go_simp <;> with_reducible rfl
      try simp only [Act.put, List.setIfInBounds_toArray, List.set_cons_zero, List.set_cons_succ]
      refine step_take 27 ?_ (by kernel_rfl) (by kernel_rfl) (by kernel_rfl) (by assumption) rfl (fun oi hoi => ?_)
      rotate_left
      simp only [List.getElem?_toArray, List.getElem?_cons_zero, List.getElem?_cons_succ, Option.some.injEq] at hoi
      subst hoi
      refine ⟨fun _ _ _ h => h, Or.inl ⟨by rfl, ?_⟩, ?_⟩
      · intro w hSw; (try dsimp only at hSw); go_simp <;> with_reducible rfl
      try simp only [Act.put, List.setIfInBounds_toArray, List.set_cons_zero, List.set_cons_succ]
      refine step_take 28 ?_ (by kernel_rfl) (by kernel_rfl) (by kernel_rfl) (by assumption) rfl (fun oi hoi => ?_)
      rotate_left
      simp only [List.getElem?_toArray, List.getElem?_cons_zero, List.getElem?_cons_succ, Option.some.injEq] at hoi
      subst hoi
      refine ⟨fun _ _ _ h => h, Or.inl ⟨by rfl, ?_⟩, ?_⟩
      · intro w hSw; (try dsimp only at hSw); go_simp <;> with_reducible rfl
      try simp only [Act.put, List.setIfInBounds_toArray, List.set_cons_zero, List.set_cons_succ]
      refine wpAnyH_done (by kernel_rfl) ?_ _
      -- STEPS END
      all_goals (
        have hbw := hb13.trans (hbx.mono s13)
        go_wp2
        go_ret
        exact ⟨rfl, hbw⟩)
    · have hrb : (rh != 0) = true := by simpa using hrh
      go_wp2_with fail
      rw [← hW13]
      clear hW13
      go_region_held3 (fun w' => w'.cell? ⟨w.heap.size, 0, none⟩ = some (.int .i64 c) ∧ w'.cell? ⟨w.heap.size, 1, none⟩ = some (.int .i64 q) ∧ w'.cell? ⟨w.heap.size, 2, none⟩ = some (.slice x l.length k) ∧ w'.cell? ⟨w.heap.size + 1, 0, none⟩ = some (.int .i64 c') ∧ w'.cell? ⟨w.heap.size + 1, 1, none⟩ = some (.int .i64 q') ∧ w'.cell? ⟨w.heap.size + 1, 2, none⟩ = some (.slice y m.length k') ∧ w'.cell? ⟨w8.heap.size, 0, none⟩ = some (.int .i64 c) ∧ w'.cell? ⟨w8.heap.size, 1, none⟩ = some (.int .i64 q) ∧ w'.cell? ⟨w8.heap.size, 2, none⟩ = some (.slice xr l.length cr))
        (first
          | exact ⟨(hm1.below hbx hl1).cell 0, (hm1.below hbx hl1).cell 1, (hm1.below hbx hl1).cell 2, (hm2.below hbx hl2).cell 0, (hm2.below hbx hl2).cell 1, (hm2.below hbx hl2).cell 2, (he9.below hbx hl9).cell 0, (he9.below hbx hl9).cell 1, (he9.below hbx hl9).cell 2⟩
          | exact ⟨hm1.cell 0, hm1.cell 1, hm1.cell 2, hm2.cell 0, hm2.cell 1, hm2.cell 2, he9.cell 0, he9.cell 1, he9.cell 2⟩)
        (first
          | (go_at_call 12; refine (HS.out.2.1 _ (by first | exact hbx | exact (Below.refl _ _).drew)).mono ?_; rintro e w14 ⟨bb, rfl, hbb, hb14⟩; obtain rfl : pb = bb := (by rw [Bool.eq_iff_iff, hbb, HP.out]); have hbx : Below W13.heap.size W13 w14 := Below.trans (by first | exact hbx | exact (Below.refl _ _).drew) (hb14.mono (by first | exact hbx.size | exact Nat.le_refl _)))
          | (go_at_call 10; have hh := hdone; refine (HS.out.2.2 _ (by first | exact hbx | exact (Below.refl _ _).drew)).mono ?_; rintro e w14 ⟨bb, rfl, hbb, hb14⟩; obtain rfl : pb = bb := (by rw [Bool.eq_iff_iff, hbb, HP.out]); have hbx : Below W13.heap.size W13 w14 := Below.trans (by first | exact hbx | exact (Below.refl _ _).drew) (hb14.mono (by first | exact hbx.size | exact Nat.le_refl _)))
          | (go_at_call 10; refine (HS.out.1 _ (by first | exact hbx | exact (Below.refl _ _).drew)).mono ?_; rintro e w14 ⟨bb, rfl, hbb, hb14⟩; obtain rfl : bb = true := hbb.2 trivial; have hbx : Below W13.heap.size W13 w14 := Below.trans (by first | exact hbx | exact (Below.refl _ _).drew) (hb14.mono (by first | exact hbx.size | exact Nat.le_refl _)); have hdone : 0 = 0 := rfl))
      all_goals (
        have hbw := hb13.trans (hbx.mono s13)
        go_wp2
        go_ret
        exact ⟨rfl, hbw⟩)
  · have hls : E.laid = ⟨#[]⟩ := by unfold EntS.laid; rw [if_neg hck]
    rw [hls]
    have hcs := check_cases i t ⟨c, q, l⟩
    rw [← hE] at hcs
    have hchk := check_any c q x l k w4 (HX.out.below hb4) (by omega)
    have d0 := hm1.cell 0
    have d1 := hm1.cell 1
    have d2 := hm1.cell 2
    simp at d0 d1 d2
    obtain ⟨u, hu⟩ : ∃ u, u = E.check := ⟨_, rfl⟩
    obtain ⟨v, hv⟩ : ∃ v, v = ReqS.check ⟨c, q, l⟩ := ⟨_, rfl⟩
    rw [← hu] at hck hcs ⊢
    rw [← hv] at hcs hchk
    have hub : (u != 0) = true := by simpa using hck
    have hcs2 : u = v ∨ (¬ v = u ∧ u = 1) := by rcases hcs with h | h <;> omega
    clear hu hv hls hcs hck hm1 hm2
    rcases hcs2 with rfl | ⟨h1, rfl⟩
    · go_wp2_with fail
      refine hchk.mono ?_
      rintro e w5 ⟨rfl, hb5⟩
      go_wp2
      go_ret
      exact ⟨rfl, hb4.trans (hb5.mono s4)⟩
    · go_wp2_with fail
      refine hchk.mono ?_
      rintro e w5 ⟨rfl, hb5⟩
      go_wp2
      go_ret
      exact ⟨rfl, hb4.trans (hb5.mono s4)⟩
end Go.Proofs.YtjonmggkmalgaaaGreatDoor

/-
  The statements' book: Apart answers true where only commands and replies were kept, each list in memory of its own. (Printed by gen_apart.py.)
-/
import Derived.Test.YtjonmggkmalgaaaGreatDoorW74Kinds
import Derived.Test.YtjonmggkmalgaaaGreatDoorW75Empty
namespace Go.Proofs.YtjonmggkmalgaaaGreatDoor
open Go.RowKit Go.Lib
attribute [local go_sem ↓] Go.wp_at_zero Go.wp_at_succ

theorem marks_later_Replies {w : World} {base : Nat} {f : Value} {vs : List Value} {ns : List Nat} (hr : w.ownsRow base 39 1 f vs.length vs) (hv : vs.length = ns.length) (hm : ∀ k (h1 : k < vs.length) (h2 : k < ns.length), ReadReplies w vs[k] k ns[k]) (hn : vs.length ≤ 300) (hl : ∀ m ∈ ns, m ≤ 200000) :
    ∀ w', Below w.heap.size w w' → Calls Tryz.prog 99 #[f] w' (BoolPost w' true) := by
  intro w' hb
  obtain ⟨x, c, rfl, hrow, _⟩ := own_slice hr
  exact marked_Replies x c vs ns w' (hrow.below hb) hv (fun k h1 h2 => (hm k h1 h2).below hb) hn hl
theorem own_below_Replies {w w' : World} {base : Nat} {f : Value} {vs : List Value} (hr : w.ownsRow base 39 1 f vs.length vs) (hb : Below w.heap.size w w') : w'.ownsRow base 39 1 f vs.length vs :=
  own_keeps (S := fun _ => False) hr (Keeps.below hb (fun j hj hj' => absurd hj (by omega))) (fun _ _ => id)

theorem marks_later_Cmds {w : World} {base : Nat} {f : Value} {vs : List Value} {ns : List Nat} (hr : w.ownsRow base 22 1 f vs.length vs) (hv : vs.length = ns.length) (hm : ∀ k (h1 : k < vs.length) (h2 : k < ns.length), ReadCmds w vs[k] k ns[k]) (hn : vs.length ≤ 300) (hl : ∀ m ∈ ns, m ≤ 200000) :
    ∀ w', Below w.heap.size w w' → Calls Tryz.prog 100 #[f] w' (BoolPost w' true) := by
  intro w' hb
  obtain ⟨x, c, rfl, hrow, _⟩ := own_slice hr
  exact marked_Cmds x c vs ns w' (hrow.below hb) hv (fun k h1 h2 => (hm k h1 h2).below hb) hn hl
theorem own_below_Cmds {w w' : World} {base : Nat} {f : Value} {vs : List Value} (hr : w.ownsRow base 22 1 f vs.length vs) (hb : Below w.heap.size w w') : w'.ownsRow base 22 1 f vs.length vs :=
  own_keeps (S := fun _ => False) hr (Keeps.below hb (fun j hj hj' => absurd hj (by omega))) (fun _ _ => id)

/-- The book as it is kept. -/
structure BookAt (w : World) (kb B10 B11 B12 B13 : Nat) (f10 f11 f12 f13 : Value) (rs : List (List RepS)) (cs : List (List CmdS)) : Prop where
  lies : Lies w kb 54 [.slice none 0 0, .slice none 0 0, .slice none 0 0, .slice none 0 0, .slice none 0 0, .slice none 0 0, .slice none 0 0, .slice none 0 0, .slice none 0 0, .slice none 0 0, f10, f11, f12, f13, .slice none 0 0, .slice none 0 0, .slice none 0 0, .slice none 0 0]
  r : FieldG 42 39 2 RepS.cells w kb B10 f10 rs
  rw' : FieldG 42 39 2 RepS.cells w kb B11 f11 rs
  c : FieldG 68 22 5 CmdS.cells w kb B12 f12 cs
  cw : FieldG 68 22 5 CmdS.cells w kb B13 f13 cs
theorem BookAt.below {w w' : World} {kb B10 B11 B12 B13 : Nat} {f10 f11 f12 f13 : Value} {rs : List (List RepS)} {cs : List (List CmdS)} (h : BookAt w kb B10 B11 B12 B13 f10 f11 f12 f13 rs cs) (hb : Below w.heap.size w w') : BookAt w' kb B10 B11 B12 B13 f10 f11 f12 f13 rs cs :=
  ⟨h.lies.below hb h.lies.lt, h.r.below hb, h.rw'.below hb, h.c.below hb, h.cw.below hb⟩

/-- The book while it is marked. -/
structure BookM (w : World) (kb : Nat) (f10 f11 f12 f13 : Value) (vr vc : List Value) (rs : List (List RepS)) (cs : List (List CmdS)) : Prop where
  lies : Lies w kb 54 [.slice none 0 0, .slice none 0 0, .slice none 0 0, .slice none 0 0, .slice none 0 0, .slice none 0 0, .slice none 0 0, .slice none 0 0, .slice none 0 0, .slice none 0 0, f10, f11, f12, f13, .slice none 0 0, .slice none 0 0, .slice none 0 0, .slice none 0 0]
  or' : w.ownsRow (kb + 1) 39 1 f10 vr.length vr
  oc : w.ownsRow (kb + 1) 22 1 f12 vc.length vc
  r : FamG 42 2 RepS.cells w (kb + 1) vr rs
  c : FamG 68 5 CmdS.cells w (kb + 1) vc cs
theorem BookM.below {w w' : World} {kb : Nat} {f10 f11 f12 f13 : Value} {vr vc : List Value} {rs : List (List RepS)} {cs : List (List CmdS)} (h : BookM w kb f10 f11 f12 f13 vr vc rs cs) (hb : Below w.heap.size w w') : BookM w' kb f10 f11 f12 f13 vr vc rs cs :=
  ⟨h.lies.below hb h.lies.lt, own_below_Replies h.or' hb, own_below_Cmds h.oc hb, h.r.below hb, h.c.below hb⟩
theorem BookM.putR {w w' : World} {kb : Nat} {f10 f11 f12 f13 : Value} {vr vc : List Value} {rs rs' : List (List RepS)} {cs : List (List CmdS)} (h : BookM w kb f10 f11 f12 f13 vr vc rs cs) (hf : FamG 42 2 RepS.cells w' (kb + 1) vr rs') (hk : Keeps (UT 42 kb w) w w') : BookM w' kb f10 f11 f12 f13 vr vc rs' cs :=
  ⟨UT.lies hk h.lies (by decide), UT.own hk h.or' (by decide), UT.own hk h.oc (by decide), hf, UT.fam hk h.c (by decide)⟩
theorem BookM.putC {w w' : World} {kb : Nat} {f10 f11 f12 f13 : Value} {vr vc : List Value} {rs : List (List RepS)} {cs cs' : List (List CmdS)} (h : BookM w kb f10 f11 f12 f13 vr vc rs cs) (hf : FamG 68 5 CmdS.cells w' (kb + 1) vc cs') (hk : Keeps (UT 68 kb w) w w') : BookM w' kb f10 f11 f12 f13 vr vc rs cs' :=
  ⟨UT.lies hk h.lies (by decide), UT.own hk h.or' (by decide), UT.own hk h.oc (by decide), UT.fam hk h.r (by decide), hf⟩

/-- Behind the growing of replies. -/
structure BookG (w : World) (kb : Nat) (f10 f11 f12 f13 gr : Value) (vr vc grs : List Value) (nr : List Nat) (cs : List (List CmdS)) : Prop where
  lies : Lies w kb 54 [.slice none 0 0, .slice none 0 0, .slice none 0 0, .slice none 0 0, .slice none 0 0, .slice none 0 0, .slice none 0 0, .slice none 0 0, .slice none 0 0, .slice none 0 0, f10, f11, f12, f13, .slice none 0 0, .slice none 0 0, .slice none 0 0, .slice none 0 0]
  or' : w.ownsRow (kb + 1) 39 1 f10 vr.length vr
  oc : w.ownsRow (kb + 1) 22 1 f12 vc.length vc
  og : w.ownsRow (kb + 1) 39 1 gr grs.length grs
  lr : vr.length = nr.length
  lg : grs.length = nr.length
  rr : ∀ j (h1 : j < vr.length) (h2 : j < nr.length), ReadReplies w vr[j] j nr[j]
  rg : ∀ j (h1 : j < grs.length) (h2 : j < nr.length), ReadReplies w grs[j] j (nr[j] + 72)
  far : ∀ i j (h1 : i < vr.length) (h2 : j < vc.length) g, vr[i].ownBlock = some g → vc[j].ownBlock ≠ some g
  far2 : ∀ i j (h1 : i < grs.length) (h2 : j < vc.length) g, grs[i].ownBlock = some g → vc[j].ownBlock ≠ some g
  c : FamG 68 5 CmdS.cells w (kb + 1) vc cs
theorem BookM.grown {w w' : World} {kb : Nat} {f10 f11 f12 f13 gr : Value} {vr vc : List Value} {rs : List (List RepS)} {cs : List (List CmdS)} (h : BookM w kb f10 f11 f12 f13 vr vc rs cs) (hg : GrownReplies kb w vr rs (.returned gr) w') : ∃ grs, BookG w' kb f10 f11 f12 f13 gr vr vc grs (rs.map List.length) cs := by
  obtain ⟨xo, co, grs, e, hl, _, hgs, hvs, hk, hk2, ho, hown⟩ := hg
  injection e with e
  subst e
  have hc := UT.fam hk h.c (by decide)
  have hlr := h.r.len
  refine ⟨grs, UT.lies hk h.lies (by decide), UT.own hk h.or' (by decide), UT.own hk h.oc (by decide), ?_, by simpa using hlr, by simpa [hlr] using hl, ?_, ?_, ?_, ?_, hc⟩
  · have hlt := h.lies.lt
    refine ⟨ho.1, ho.2.imp id (fun ⟨g, cap, cur, e, hb, r⟩ => ⟨g, cap, cur, e, by omega, r⟩)⟩
  · intro j h1 h2
    have := hvs j h1 (by simpa using h2)
    simpa using this
  · intro j h1 h2
    have := hgs j h1 (by simpa using h2)
    simpa using this
  · intro i j h1 h2 g e1 e2
    obtain ⟨c1, q1⟩ := (h.r.own i h1 (by omega)).typed e1
    obtain ⟨c2, q2⟩ := (h.c.own j h2 (by have := h.c.len; omega)).typed e2
    exact types_ne q1 q2 (by decide)
  · intro i j h1 h2 g e1 e2
    obtain ⟨c1, q1⟩ := (hown i h1 (by omega)).typed e1
    obtain ⟨c2, q2⟩ := (hc.own j h2 (by have := h.c.len; omega)).typed e2
    exact types_ne q1 q2 (by decide)

/-- Behind all growing: each list bears its marks, whatever is made later. -/
structure BookD (w : World) (kb : Nat) (f10 f11 f12 f13 gr gc : Value) : Prop where
  lies : Lies w kb 54 [.slice none 0 0, .slice none 0 0, .slice none 0 0, .slice none 0 0, .slice none 0 0, .slice none 0 0, .slice none 0 0, .slice none 0 0, .slice none 0 0, .slice none 0 0, f10, f11, f12, f13, .slice none 0 0, .slice none 0 0, .slice none 0 0, .slice none 0 0]
  mr : ∀ w', Below w.heap.size w w' → Calls Tryz.prog 99 #[f10] w' (BoolPost w' true)
  mg : ∀ w', Below w.heap.size w w' → Calls Tryz.prog 99 #[gr] w' (BoolPost w' true)
  mc : ∀ w', Below w.heap.size w w' → Calls Tryz.prog 100 #[f12] w' (BoolPost w' true)
  mh : ∀ w', Below w.heap.size w w' → Calls Tryz.prog 100 #[gc] w' (BoolPost w' true)
theorem BookD.below {w w' : World} {kb : Nat} {f10 f11 f12 f13 gr gc : Value} (h : BookD w kb f10 f11 f12 f13 gr gc) (hb : Below w.heap.size w w') : BookD w' kb f10 f11 f12 f13 gr gc :=
  ⟨h.lies.below hb h.lies.lt, fun w2 h2 => h.mr w2 (hb.trans (h2.mono hb.size)), fun w2 h2 => h.mg w2 (hb.trans (h2.mono hb.size)), fun w2 h2 => h.mc w2 (hb.trans (h2.mono hb.size)), fun w2 h2 => h.mh w2 (hb.trans (h2.mono hb.size))⟩
theorem BookG.below {w w' : World} {kb : Nat} {f10 f11 f12 f13 gr : Value} {vr vc grs : List Value} {nr : List Nat} {cs : List (List CmdS)} (h : BookG w kb f10 f11 f12 f13 gr vr vc grs nr cs) (hb : Below w.heap.size w w') : BookG w' kb f10 f11 f12 f13 gr vr vc grs nr cs :=
  ⟨h.lies.below hb h.lies.lt, own_below_Replies h.or' hb, own_below_Cmds h.oc hb, own_below_Replies h.og hb, h.lr, h.lg, fun j h1 h2 => (h.rr j h1 h2).below hb, fun j h1 h2 => (h.rg j h1 h2).below hb, h.far, h.far2, h.c.below hb⟩
theorem BookG.grown {w w' : World} {kb : Nat} {f10 f11 f12 f13 gr gc : Value} {vr vc grs : List Value} {nr : List Nat} {cs : List (List CmdS)} (h : BookG w kb f10 f11 f12 f13 gr vr vc grs nr cs) (hg : GrownCmds kb w vc cs (.returned gc) w') (hnr : nr.length ≤ 250) (hncs : cs.length ≤ 250) (hln : ∀ n ∈ nr, n ≤ 100000) (hlc : ∀ l ∈ cs, l.length ≤ 100000) : BookD w' kb f10 f11 f12 f13 gr gc := by
  obtain ⟨xo, co, gcs, e, hl, _, hgs, hvs, hk, hk2, ho, _⟩ := hg
  injection e with e
  subst e
  have hlr := h.lr
  have hlg := h.lg
  have hlc' := h.c.len
  refine ⟨UT.lies hk h.lies (by decide), ?_, ?_, ?_, ?_⟩
  · refine marks_later_Replies (ns := nr) (UT.own hk h.or' (by decide)) hlr (fun k h1 h2 => (h.rr k h1 h2).kept hk2 (fun g e hs => ?_)) (by omega) (fun m hm => by have := hln m hm; omega)
    obtain ⟨j, hj, e2⟩ := hs
    exact h.far k j h1 hj g e e2
  · refine marks_later_Replies (ns := nr.map (· + 72)) (UT.own hk h.og (by decide)) (by simpa using hlg) (fun k h1 h2 => ?_) (by omega) (fun m hm => by
      obtain ⟨n, hn, rfl⟩ := List.mem_map.mp hm
      have := hln n hn; omega)
    have h3 : k < nr.length := by omega
    have := (h.rg k h1 h3).kept hk2 (fun g e hs => by obtain ⟨j, hj, e2⟩ := hs; exact h.far2 k j h1 hj g e e2)
    simpa using this
  · refine marks_later_Cmds (ns := cs.map List.length) (UT.own hk h.oc (by decide)) (by simpa using hlc') (fun k h1 h2 => ?_) (by omega) (fun m hm => by
      obtain ⟨n, hn, rfl⟩ := List.mem_map.mp hm
      have := hlc n hn; omega)
    have := hvs k h1 (by omega)
    simpa using this
  · refine marks_later_Cmds (ns := cs.map (fun l => l.length + 72)) ho (by simp [hl, hlc']) (fun k h1 h2 => ?_) (by omega) (fun m hm => by
      obtain ⟨n, hn, rfl⟩ := List.mem_map.mp hm
      have := hlc n hn; omega)
    have := hgs k h1 (by omega)
    simpa using this

def TruePost (kb : Nat) (w : World) (e : Ending) (w' : World) : Prop := e = .returned (.bool true) ∧ Below (kb + 1) w w'

set_option maxHeartbeats 4000000 in
set_option maxRecDepth 100000 in
theorem apart_any (kb B10 B11 B12 B13 : Nat) (f10 f11 f12 f13 : Value) (rs : List (List RepS)) (cs : List (List CmdS)) (w : World) (hB : BookAt w kb B10 B11 B12 B13 f10 f11 f12 f13 rs cs)
    (hnr : rs.length ≤ 250) (hnc : cs.length ≤ 250) (hlr : ∀ l ∈ rs, l.length ≤ 100000) (hlc : ∀ l ∈ cs, l.length ≤ 100000) :
    Calls Tryz.prog 29 #[.pointer (some ⟨kb, 0, none⟩)] w (TruePost kb w) := by
  have H := veil hB
  have HW := veil (Below.refl (kb + 1) w)
  have HB := veil (And.intro hnr (And.intro hnc (And.intro hlr hlc)))
  clear hB hnr hnc hlr hlc
  go_enter Tryz.func29, Tryz.ntmps29
  go_wp2_with fail
  refine (still_none_Texts kb _ _ _ _ _ _ _ _ _ _ _ _ _ _ _ _ _ _ H.out.lies).mono ?_
  rintro e w1 ⟨rfl, hb⟩
  have HW := veil (HW.out.trans ((show Below _ _ _ by first | exact hb | exact Below.trans (Below.refl _ _).drew hb).mono H.out.lies.lt))
  have H := veil (H.out.below (by first | exact hb | exact Below.trans (Below.refl _ _).drew hb))
  clear hb
  go_wp2_with fail
  refine (still_none_Ints kb _ _ _ _ _ _ _ _ _ _ _ _ _ _ _ _ _ _ H.out.lies).mono ?_
  rintro e w1 ⟨rfl, hb⟩
  have HW := veil (HW.out.trans ((show Below _ _ _ by first | exact hb | exact Below.trans (Below.refl _ _).drew hb).mono H.out.lies.lt))
  have H := veil (H.out.below (by first | exact hb | exact Below.trans (Below.refl _ _).drew hb))
  clear hb
  go_wp2_with fail
  refine (still_none_Items kb _ _ _ _ _ _ _ _ _ _ _ _ _ _ _ _ _ _ H.out.lies).mono ?_
  rintro e w1 ⟨rfl, hb⟩
  have HW := veil (HW.out.trans ((show Below _ _ _ by first | exact hb | exact Below.trans (Below.refl _ _).drew hb).mono H.out.lies.lt))
  have H := veil (H.out.below (by first | exact hb | exact Below.trans (Below.refl _ _).drew hb))
  clear hb
  go_wp2_with fail
  refine (still_none_Kids kb _ _ _ _ _ _ _ _ _ _ _ _ _ _ _ _ _ _ H.out.lies).mono ?_
  rintro e w1 ⟨rfl, hb⟩
  have HW := veil (HW.out.trans ((show Below _ _ _ by first | exact hb | exact Below.trans (Below.refl _ _).drew hb).mono H.out.lies.lt))
  have H := veil (H.out.below (by first | exact hb | exact Below.trans (Below.refl _ _).drew hb))
  clear hb
  go_wp2_with fail
  refine (still_none_Pairs kb _ _ _ _ _ _ _ _ _ _ _ _ _ _ _ _ _ _ H.out.lies).mono ?_
  rintro e w1 ⟨rfl, hb⟩
  have HW := veil (HW.out.trans ((show Below _ _ _ by first | exact hb | exact Below.trans (Below.refl _ _).drew hb).mono H.out.lies.lt))
  have H := veil (H.out.below (by first | exact hb | exact Below.trans (Below.refl _ _).drew hb))
  clear hb
  go_wp2_with fail
  refine (still_Replies kb _ _ _ _ _ _ _ _ _ _ _ _ _ _ _ _ _ _ _ _ rs _ H.out.lies H.out.r H.out.rw' HB.out.1 HB.out.2.2.1).mono ?_
  rintro e w1 ⟨rfl, hb⟩
  have HW := veil (HW.out.trans ((show Below _ _ _ by first | exact hb | exact Below.trans (Below.refl _ _).drew hb).mono H.out.lies.lt))
  have H := veil (H.out.below (by first | exact hb | exact Below.trans (Below.refl _ _).drew hb))
  clear hb
  go_wp2_with fail
  refine (still_Cmds kb _ _ _ _ _ _ _ _ _ _ _ _ _ _ _ _ _ _ _ _ cs _ H.out.lies H.out.c H.out.cw HB.out.2.1 HB.out.2.2.2).mono ?_
  rintro e w1 ⟨rfl, hb⟩
  have HW := veil (HW.out.trans ((show Below _ _ _ by first | exact hb | exact Below.trans (Below.refl _ _).drew hb).mono H.out.lies.lt))
  have H := veil (H.out.below (by first | exact hb | exact Below.trans (Below.refl _ _).drew hb))
  clear hb
  go_wp2_with fail
  refine (still_none_Steps kb _ _ _ _ _ _ _ _ _ _ _ _ _ _ _ _ _ _ H.out.lies).mono ?_
  rintro e w1 ⟨rfl, hb⟩
  have HW := veil (HW.out.trans ((show Below _ _ _ by first | exact hb | exact Below.trans (Below.refl _ _).drew hb).mono H.out.lies.lt))
  have H := veil (H.out.below (by first | exact hb | exact Below.trans (Below.refl _ _).drew hb))
  clear hb
  go_wp2_with fail
  refine (still_none_Entries kb _ _ _ _ _ _ _ _ _ _ _ _ _ _ _ _ _ _ H.out.lies).mono ?_
  rintro e w1 ⟨rfl, hb⟩
  have HW := veil (HW.out.trans ((show Below _ _ _ by first | exact hb | exact Below.trans (Below.refl _ _).drew hb).mono H.out.lies.lt))
  have H := veil (H.out.below (by first | exact hb | exact Below.trans (Below.refl _ _).drew hb))
  clear hb
  obtain ⟨vr, hor, hfr, _⟩ := H.out.r
  obtain ⟨vc, hoc, hfc, _⟩ := H.out.c
  have H := veil (BookM.mk H.out.lies hor hoc hfr hfc)
  have hvr := hfr.len
  have hvc := hfc.len
  clear hor hoc hfr hfc
  go_wp2_with fail
  refine (put_none_Steps kb _ _ _ _ _ _ _ _ _ _ _ _ _ _ _ _ _ _ H.out.lies).mono ?_
  rintro e w1 ⟨rfl, hb⟩
  have HW := veil (HW.out.trans ((show Below _ _ _ by first | exact hb | exact Below.trans (Below.refl _ _).drew hb).mono H.out.lies.lt))
  have H := veil (H.out.below (by first | exact hb | exact Below.trans (Below.refl _ _).drew hb))
  clear hb
  go_wp2_with fail
  refine (put_none_Entries kb _ _ _ _ _ _ _ _ _ _ _ _ _ _ _ _ _ _ H.out.lies).mono ?_
  rintro e w1 ⟨rfl, hb⟩
  have HW := veil (HW.out.trans ((show Below _ _ _ by first | exact hb | exact Below.trans (Below.refl _ _).drew hb).mono H.out.lies.lt))
  have H := veil (H.out.below (by first | exact hb | exact Below.trans (Below.refl _ _).drew hb))
  clear hb
  go_wp2_with fail
  refine (put_none_Texts kb _ _ _ _ _ _ _ _ _ _ _ _ _ _ _ _ _ _ H.out.lies).mono ?_
  rintro e w1 ⟨rfl, hb⟩
  have HW := veil (HW.out.trans ((show Below _ _ _ by first | exact hb | exact Below.trans (Below.refl _ _).drew hb).mono H.out.lies.lt))
  have H := veil (H.out.below (by first | exact hb | exact Below.trans (Below.refl _ _).drew hb))
  clear hb
  go_wp2_with fail
  refine (put_none_Ints kb _ _ _ _ _ _ _ _ _ _ _ _ _ _ _ _ _ _ H.out.lies).mono ?_
  rintro e w1 ⟨rfl, hb⟩
  have HW := veil (HW.out.trans ((show Below _ _ _ by first | exact hb | exact Below.trans (Below.refl _ _).drew hb).mono H.out.lies.lt))
  have H := veil (H.out.below (by first | exact hb | exact Below.trans (Below.refl _ _).drew hb))
  clear hb
  go_wp2_with fail
  refine (put_none_Items kb _ _ _ _ _ _ _ _ _ _ _ _ _ _ _ _ _ _ H.out.lies).mono ?_
  rintro e w1 ⟨rfl, hb⟩
  have HW := veil (HW.out.trans ((show Below _ _ _ by first | exact hb | exact Below.trans (Below.refl _ _).drew hb).mono H.out.lies.lt))
  have H := veil (H.out.below (by first | exact hb | exact Below.trans (Below.refl _ _).drew hb))
  clear hb
  go_wp2_with fail
  refine (put_none_Kids kb _ _ _ _ _ _ _ _ _ _ _ _ _ _ _ _ _ _ H.out.lies).mono ?_
  rintro e w1 ⟨rfl, hb⟩
  have HW := veil (HW.out.trans ((show Below _ _ _ by first | exact hb | exact Below.trans (Below.refl _ _).drew hb).mono H.out.lies.lt))
  have H := veil (H.out.below (by first | exact hb | exact Below.trans (Below.refl _ _).drew hb))
  clear hb
  go_wp2_with fail
  refine (put_none_Pairs kb _ _ _ _ _ _ _ _ _ _ _ _ _ _ _ _ _ _ H.out.lies).mono ?_
  rintro e w1 ⟨rfl, hb⟩
  have HW := veil (HW.out.trans ((show Below _ _ _ by first | exact hb | exact Below.trans (Below.refl _ _).drew hb).mono H.out.lies.lt))
  have H := veil (H.out.below (by first | exact hb | exact Below.trans (Below.refl _ _).drew hb))
  clear hb
  go_wp2_with fail
  refine (put_Replies kb _ _ _ _ _ _ _ _ _ _ _ _ _ _ _ _ _ _ vr rs _ H.out.lies H.out.or' H.out.r HB.out.1 HB.out.2.2.1).mono ?_
  rintro e w1 ⟨rfl, hf, hk⟩
  have HW := veil (HW.out.trans (UT.below hk H.out.lies.lt (Nat.le_refl _)))
  have H := veil (H.out.putR hf hk)
  clear hf hk
  go_wp2_with fail
  refine (put_Cmds kb _ _ _ _ _ _ _ _ _ _ _ _ _ _ _ _ _ _ vc cs _ H.out.lies H.out.oc H.out.c HB.out.2.1 HB.out.2.2.2).mono ?_
  rintro e w1 ⟨rfl, hf, hk⟩
  have HW := veil (HW.out.trans (UT.below hk H.out.lies.lt (Nat.le_refl _)))
  have H := veil (H.out.putC hf hk)
  clear hf hk
  go_wp2_with fail
  refine (grow_none_Texts kb _ _ _ _ _ _ _ _ _ _ _ _ _ _ _ _ _ _ H.out.lies).mono ?_
  rintro e w1 ⟨rfl, hb⟩
  have HW := veil (HW.out.trans ((show Below _ _ _ by first | exact hb | exact Below.trans (Below.refl _ _).drew hb).mono H.out.lies.lt))
  have H := veil (H.out.below (by first | exact hb | exact Below.trans (Below.refl _ _).drew hb))
  clear hb
  go_wp2_with fail
  refine (grow_none_Ints kb _ _ _ _ _ _ _ _ _ _ _ _ _ _ _ _ _ _ H.out.lies).mono ?_
  rintro e w1 ⟨rfl, hb⟩
  have HW := veil (HW.out.trans ((show Below _ _ _ by first | exact hb | exact Below.trans (Below.refl _ _).drew hb).mono H.out.lies.lt))
  have H := veil (H.out.below (by first | exact hb | exact Below.trans (Below.refl _ _).drew hb))
  clear hb
  go_wp2_with fail
  refine (grow_none_Items kb _ _ _ _ _ _ _ _ _ _ _ _ _ _ _ _ _ _ H.out.lies).mono ?_
  rintro e w1 ⟨rfl, hb⟩
  have HW := veil (HW.out.trans ((show Below _ _ _ by first | exact hb | exact Below.trans (Below.refl _ _).drew hb).mono H.out.lies.lt))
  have H := veil (H.out.below (by first | exact hb | exact Below.trans (Below.refl _ _).drew hb))
  clear hb
  go_wp2_with fail
  refine (grow_none_Kids kb _ _ _ _ _ _ _ _ _ _ _ _ _ _ _ _ _ _ H.out.lies).mono ?_
  rintro e w1 ⟨rfl, hb⟩
  have HW := veil (HW.out.trans ((show Below _ _ _ by first | exact hb | exact Below.trans (Below.refl _ _).drew hb).mono H.out.lies.lt))
  have H := veil (H.out.below (by first | exact hb | exact Below.trans (Below.refl _ _).drew hb))
  clear hb
  go_wp2_with fail
  refine (grow_none_Pairs kb _ _ _ _ _ _ _ _ _ _ _ _ _ _ _ _ _ _ H.out.lies).mono ?_
  rintro e w1 ⟨rfl, hb⟩
  have HW := veil (HW.out.trans ((show Below _ _ _ by first | exact hb | exact Below.trans (Below.refl _ _).drew hb).mono H.out.lies.lt))
  have H := veil (H.out.below (by first | exact hb | exact Below.trans (Below.refl _ _).drew hb))
  clear hb
  go_wp2_with fail
  refine (grow_Replies kb _ _ _ _ _ _ _ _ _ _ _ _ _ _ _ _ _ _ vr (marksAllReplies rs) _ H.out.lies H.out.or' H.out.r (fun j h => marksAllReplies_at rs j h) (by rw [marksAllReplies_length]; exact HB.out.1) (fun l hl => by
    obtain ⟨j, hj, rfl⟩ := List.mem_iff_getElem.mp hl
    rw [marksAllReplies_len rs j hj (by rw [marksAllReplies_length] at hj; exact hj)]
    exact HB.out.2.2.1 _ (List.getElem_mem _))).mono ?_
  intro e w1 hg
  obtain ⟨gr, rfl⟩ : ∃ gr, e = .returned gr := by obtain ⟨_, _, _, e, _⟩ := hg; exact ⟨_, e⟩
  have HW := veil (HW.out.trans (by obtain ⟨_, _, _, _, _, _, _, _, hk, _⟩ := hg; exact UT.below hk H.out.lies.lt (Nat.le_refl _)))
  obtain ⟨grs, hG⟩ := H.out.grown hg
  have H := veil hG
  clear hG hg
  go_wp2_with fail
  refine (grow_Cmds kb _ _ _ _ _ _ _ _ _ _ _ _ _ _ _ _ _ _ vc (marksAllCmds cs) _ H.out.lies H.out.oc H.out.c (fun j h => marksAllCmds_at cs j h) (by rw [marksAllCmds_length]; exact HB.out.2.1) (fun l hl => by
    obtain ⟨j, hj, rfl⟩ := List.mem_iff_getElem.mp hl
    rw [marksAllCmds_len cs j hj (by rw [marksAllCmds_length] at hj; exact hj)]
    exact HB.out.2.2.2 _ (List.getElem_mem _))).mono ?_
  intro e w1 hg
  obtain ⟨gc, rfl⟩ : ∃ gc, e = .returned gc := by obtain ⟨_, _, _, e, _⟩ := hg; exact ⟨_, e⟩
  have HW := veil (HW.out.trans (by obtain ⟨_, _, _, _, _, _, _, _, hk, _⟩ := hg; exact UT.below hk H.out.lies.lt (Nat.le_refl _)))
  have hD := H.out.grown hg (by rw [List.length_map, marksAllReplies_length]; exact HB.out.1) (by rw [marksAllCmds_length]; exact HB.out.2.1) (fun n hn => by
    obtain ⟨l, hl, rfl⟩ := List.mem_map.mp hn
    obtain ⟨j, hj, rfl⟩ := List.mem_iff_getElem.mp hl
    rw [marksAllReplies_len rs j hj (by rw [marksAllReplies_length] at hj; exact hj)]
    exact HB.out.2.2.1 _ (List.getElem_mem _)) (fun l hl => by
    obtain ⟨j, hj, rfl⟩ := List.mem_iff_getElem.mp hl
    rw [marksAllCmds_len cs j hj (by rw [marksAllCmds_length] at hj; exact hj)]
    exact HB.out.2.2.2 _ (List.getElem_mem _))
  have H := veil hD
  clear hD hg
  go_wp2_with fail
  refine (grow_none_Steps kb _ _ _ _ _ _ _ _ _ _ _ _ _ _ _ _ _ _ H.out.lies).mono ?_
  rintro e w1 ⟨rfl, hb⟩
  have HW := veil (HW.out.trans ((show Below _ _ _ by first | exact hb | exact Below.trans (Below.refl _ _).drew hb).mono H.out.lies.lt))
  have H := veil (H.out.below (by first | exact hb | exact Below.trans (Below.refl _ _).drew hb))
  clear hb
  go_wp2_with fail
  refine (grow_none_Entries kb _ _ _ _ _ _ _ _ _ _ _ _ _ _ _ _ _ _ H.out.lies).mono ?_
  rintro e w1 ⟨rfl, hb⟩
  have HW := veil (HW.out.trans ((show Below _ _ _ by first | exact hb | exact Below.trans (Below.refl _ _).drew hb).mono H.out.lies.lt))
  have H := veil (H.out.below (by first | exact hb | exact Below.trans (Below.refl _ _).drew hb))
  clear hb
  go_wp2_with fail
  refine (marked_none_Texts _).mono ?_
  rintro e w1 ⟨rfl, hb⟩
  have HW := veil (HW.out.trans ((show Below _ _ _ by first | exact hb | exact Below.trans (Below.refl _ _).drew hb).mono H.out.lies.lt))
  have H := veil (H.out.below (by first | exact hb | exact Below.trans (Below.refl _ _).drew hb))
  clear hb
  have c0 := H.out.lies.cell 0
  simp at c0
  go_wp2_with fail
  refine (marked_none_Texts _).mono ?_
  rintro e w1 ⟨rfl, hb⟩
  have HW := veil (HW.out.trans ((show Below _ _ _ by first | exact hb | exact Below.trans (Below.refl _ _).drew hb).mono H.out.lies.lt))
  have H := veil (H.out.below (by first | exact hb | exact Below.trans (Below.refl _ _).drew hb))
  clear hb c0
  go_wp2_with fail
  refine (marked_none_Ints _).mono ?_
  rintro e w1 ⟨rfl, hb⟩
  have HW := veil (HW.out.trans ((show Below _ _ _ by first | exact hb | exact Below.trans (Below.refl _ _).drew hb).mono H.out.lies.lt))
  have H := veil (H.out.below (by first | exact hb | exact Below.trans (Below.refl _ _).drew hb))
  clear hb
  have c2 := H.out.lies.cell 2
  simp at c2
  go_wp2_with fail
  refine (marked_none_Ints _).mono ?_
  rintro e w1 ⟨rfl, hb⟩
  have HW := veil (HW.out.trans ((show Below _ _ _ by first | exact hb | exact Below.trans (Below.refl _ _).drew hb).mono H.out.lies.lt))
  have H := veil (H.out.below (by first | exact hb | exact Below.trans (Below.refl _ _).drew hb))
  clear hb c2
  go_wp2_with fail
  refine (marked_none_Items _).mono ?_
  rintro e w1 ⟨rfl, hb⟩
  have HW := veil (HW.out.trans ((show Below _ _ _ by first | exact hb | exact Below.trans (Below.refl _ _).drew hb).mono H.out.lies.lt))
  have H := veil (H.out.below (by first | exact hb | exact Below.trans (Below.refl _ _).drew hb))
  clear hb
  have c4 := H.out.lies.cell 4
  simp at c4
  go_wp2_with fail
  refine (marked_none_Items _).mono ?_
  rintro e w1 ⟨rfl, hb⟩
  have HW := veil (HW.out.trans ((show Below _ _ _ by first | exact hb | exact Below.trans (Below.refl _ _).drew hb).mono H.out.lies.lt))
  have H := veil (H.out.below (by first | exact hb | exact Below.trans (Below.refl _ _).drew hb))
  clear hb c4
  go_wp2_with fail
  refine (marked_none_Kids _).mono ?_
  rintro e w1 ⟨rfl, hb⟩
  have HW := veil (HW.out.trans ((show Below _ _ _ by first | exact hb | exact Below.trans (Below.refl _ _).drew hb).mono H.out.lies.lt))
  have H := veil (H.out.below (by first | exact hb | exact Below.trans (Below.refl _ _).drew hb))
  clear hb
  have c6 := H.out.lies.cell 6
  simp at c6
  go_wp2_with fail
  refine (marked_none_Kids _).mono ?_
  rintro e w1 ⟨rfl, hb⟩
  have HW := veil (HW.out.trans ((show Below _ _ _ by first | exact hb | exact Below.trans (Below.refl _ _).drew hb).mono H.out.lies.lt))
  have H := veil (H.out.below (by first | exact hb | exact Below.trans (Below.refl _ _).drew hb))
  clear hb c6
  go_wp2_with fail
  refine (marked_none_Pairs _).mono ?_
  rintro e w1 ⟨rfl, hb⟩
  have HW := veil (HW.out.trans ((show Below _ _ _ by first | exact hb | exact Below.trans (Below.refl _ _).drew hb).mono H.out.lies.lt))
  have H := veil (H.out.below (by first | exact hb | exact Below.trans (Below.refl _ _).drew hb))
  clear hb
  have c8 := H.out.lies.cell 8
  simp at c8
  go_wp2_with fail
  refine (marked_none_Pairs _).mono ?_
  rintro e w1 ⟨rfl, hb⟩
  have HW := veil (HW.out.trans ((show Below _ _ _ by first | exact hb | exact Below.trans (Below.refl _ _).drew hb).mono H.out.lies.lt))
  have H := veil (H.out.below (by first | exact hb | exact Below.trans (Below.refl _ _).drew hb))
  clear hb c8
  go_wp2_with fail
  refine (H.out.mg _ (Below.refl _ _)).mono ?_
  rintro e w1 ⟨rfl, hb⟩
  have HW := veil (HW.out.trans ((show Below _ _ _ by first | exact hb | exact Below.trans (Below.refl _ _).drew hb).mono H.out.lies.lt))
  have H := veil (H.out.below (by first | exact hb | exact Below.trans (Below.refl _ _).drew hb))
  clear hb
  have c10 := H.out.lies.cell 10
  simp at c10
  go_wp2_with fail
  refine (H.out.mr _ (Below.refl _ _)).mono ?_
  rintro e w1 ⟨rfl, hb⟩
  have HW := veil (HW.out.trans ((show Below _ _ _ by first | exact hb | exact Below.trans (Below.refl _ _).drew hb).mono H.out.lies.lt))
  have H := veil (H.out.below (by first | exact hb | exact Below.trans (Below.refl _ _).drew hb))
  clear hb c10
  go_wp2_with fail
  refine (H.out.mh _ (Below.refl _ _)).mono ?_
  rintro e w1 ⟨rfl, hb⟩
  have HW := veil (HW.out.trans ((show Below _ _ _ by first | exact hb | exact Below.trans (Below.refl _ _).drew hb).mono H.out.lies.lt))
  have H := veil (H.out.below (by first | exact hb | exact Below.trans (Below.refl _ _).drew hb))
  clear hb
  have c12 := H.out.lies.cell 12
  simp at c12
  go_wp2_with fail
  refine (H.out.mc _ (Below.refl _ _)).mono ?_
  rintro e w1 ⟨rfl, hb⟩
  have HW := veil (HW.out.trans ((show Below _ _ _ by first | exact hb | exact Below.trans (Below.refl _ _).drew hb).mono H.out.lies.lt))
  have H := veil (H.out.below (by first | exact hb | exact Below.trans (Below.refl _ _).drew hb))
  clear hb c12
  go_wp2_with fail
  refine (marked_none_Steps _).mono ?_
  rintro e w1 ⟨rfl, hb⟩
  have HW := veil (HW.out.trans ((show Below _ _ _ by first | exact hb | exact Below.trans (Below.refl _ _).drew hb).mono H.out.lies.lt))
  have H := veil (H.out.below (by first | exact hb | exact Below.trans (Below.refl _ _).drew hb))
  clear hb
  have c14 := H.out.lies.cell 14
  simp at c14
  go_wp2_with fail
  refine (marked_none_Steps _).mono ?_
  rintro e w1 ⟨rfl, hb⟩
  have HW := veil (HW.out.trans ((show Below _ _ _ by first | exact hb | exact Below.trans (Below.refl _ _).drew hb).mono H.out.lies.lt))
  have H := veil (H.out.below (by first | exact hb | exact Below.trans (Below.refl _ _).drew hb))
  clear hb c14
  go_wp2_with fail
  refine (marked_none_Entries _).mono ?_
  rintro e w1 ⟨rfl, hb⟩
  have HW := veil (HW.out.trans ((show Below _ _ _ by first | exact hb | exact Below.trans (Below.refl _ _).drew hb).mono H.out.lies.lt))
  have H := veil (H.out.below (by first | exact hb | exact Below.trans (Below.refl _ _).drew hb))
  clear hb
  have c16 := H.out.lies.cell 16
  simp at c16
  go_wp2_with fail
  refine (marked_none_Entries _).mono ?_
  rintro e w1 ⟨rfl, hb⟩
  have HW := veil (HW.out.trans ((show Below _ _ _ by first | exact hb | exact Below.trans (Below.refl _ _).drew hb).mono H.out.lies.lt))
  have H := veil (H.out.below (by first | exact hb | exact Below.trans (Below.refl _ _).drew hb))
  clear hb c16
  go_wp2
  go_ret
  exact ⟨rfl, HW.out⟩

end Go.Proofs.YtjonmggkmalgaaaGreatDoor

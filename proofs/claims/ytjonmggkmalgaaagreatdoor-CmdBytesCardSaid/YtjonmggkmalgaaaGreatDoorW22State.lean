/-
  cmd.State: Add at the root, and all values of a root that has just one key and no box within it.
-/
import Derived.Test.YtjonmggkmalgaaaGreatDoorW15State
import Derived.Test.YtjonmggkmalgaaaGreatDoorW21All
namespace Go.Proofs.YtjonmggkmalgaaaGreatDoor
open Go.RowKit Go.Maps Go.WideMaps Go.WideElems

section
variable (st r rv ri n : Nat) (q : Int) (V I : Dat) (s : ByteArray) (w : World)

theorem get_is_yes (sv : ByteArray) (hm : HasMax w) (hB : BoxAt w r rv ri q n V I) (hs : s.size ≤ 1000000) (hI : Maps.has I (keyL s) = false) (hh : Maps.has V (keyL s) = true) (hat : V.atKey (keyL s) (.lit (.string [])) = .lit (.string sv.data.toList)) : GetIs r ⟨#[]⟩ s sv true w :=
  fun W hb => get_yes r r ⟨#[]⟩ s sv q rv ri n V I W (.inl ⟨rfl, rfl⟩) (hm.below hb) (hB.below hb) hs hI hh hat
theorem get_is_no (hm : HasMax w) (hB : BoxAt w r rv ri q n V I) (hs : s.size ≤ 1000000) (hI : Maps.has I (keyL s) = false) (hh : Maps.has V (keyL s) = false) : GetIs r ⟨#[]⟩ s ⟨#[]⟩ false w :=
  fun W hb => get_no r r ⟨#[]⟩ s q rv ri n V I W (.inl ⟨rfl, rfl⟩) (hm.below hb) (hB.below hb) hs hI hh

/-- A command that only turns the root's values: what Do makes of it. -/
theorem st_vals (kind : Int) (k v o : ByteArray) (x : Int) (val : ByteArray) (m : Nat) (V' : Dat) (hB : BoxAt w r rv ri q n V I) (hS : StAt w st r)
    (hdo : ∀ W, Below w.heap.size w W → BoxAt W r rv ri q n V I → Calls Tryz.prog 104 #[groundV r, cmdV kind ⟨#[]⟩ k v o] W (DoPost x val (fun W w' => ValsPost r rv ri m q V' I W (.returned (.int .i64 0)) w') W)) :
    Calls Tryz.prog 31 #[.pointer (some ⟨st, 0, none⟩), cmdV kind ⟨#[]⟩ k v o] w fun e w' => e = .returned (replyV x val) ∧ ValsPost r rv ri m q V' I w (.returned (.int .i64 0)) w' ∧ StAt w' st r := by
  obtain ⟨e1, e2, e3⟩ := st_ne_box hS hB
  obtain ⟨l1, l2, l3⟩ := hB.lts
  refine (stdo st r kind ⟨#[]⟩ k v o x val (fun W w' => ValsPost r rv ri m q V' I W (.returned (.int .i64 0)) w') w hS (fun W hb => ?_)).mono ?_
  · refine (hdo W hb (hB.below hb)).mono ?_
    rintro e w' ⟨rfl, W1, w1, B, hb1, h1, h2, hT, rfl⟩
    have hfin := ValsPost.stored hT hb1 (hB.below hb) h1 (.int .i64 x) (.string val)
    exact ⟨rfl, hfin, keep_but hfin.2.2 e2 l2⟩
  · rintro e w' ⟨rfl, W, w1, B, hb, h1, h2, hT, rfl⟩
    have hfin := ValsPost.stored hT hb hB h1 (.int .i64 x) (.string val)
    exact ⟨rfl, hfin, hS.kept hfin.2.2 e2⟩

theorem sub_keeps {c bv bi m : Nat} {q : Int} {V' I : Dat} {w W w' : World} {e : Ending} (h : ValsPost c bv bi m q V' I W e w') (hl : bv < w.heap.size) : ∀ B t cs, w.heap.size ≤ B → Lies W B t cs → Lies w' B t cs :=
  fun _ _ _ hB hh => hh.kept h.2.2 (by omega)

theorem st_add_some (x y : Int) (hg : Glob w) (hk : keyOk s = true) (hs : s.size ≤ 1000000) (hB : BoxAt w r rv ri q n V I) (hn : n ≤ 1000000) (hI : Maps.has I (keyL s) = false) (hh : Maps.has V (keyL s) = true) (hat : V.atKey (keyL s) (.lit (.string [])) = .lit (.string (digS x).data.toList))
    (hx0 : -1000000000000000000 < x) (hx1 : x < 1000000000000000000) (hy0 : -1000000000000000000 < y) (hy1 : y < 1000000000000000000) (hs0 : -1000000000000000000 < x + y) (hs1 : x + y < 1000000000000000000)
    (hrv0 : 0 ≠ rv) (hrv1 : 1 ≠ rv) (hS : StAt w st r) :
    Calls Tryz.prog 31 #[.pointer (some ⟨st, 0, none⟩), cmdV 3 ⟨#[]⟩ s (digS y) ⟨#[]⟩] w fun e w' => e = .returned (replyV 0 (digS (x + y))) ∧ ValsPost r rv ri (n + 1) q (V.put (keyL s) (.lit (.string (digS (x + y)).data.toList))) I w (.returned (.int .i64 0)) w' ∧ StAt w' st r := by
  obtain ⟨l1, l2, l3⟩ := hB.lts
  refine st_vals st r rv ri n q V I w 3 s (digS y) ⟨#[]⟩ 0 (digS (x + y)) (n + 1) _ hB hS (fun W hb hBW => ?_)
  refine do_add r rv ri n q V I s (digS y) ⟨#[]⟩ 0 _ _ W (hg.1.below hb) hBW hk (fun W2 hb2 => ?_)
  have hB2 := hBW.below hb2
  have hg2 := (hg.below hb).below hb2
  refine (add_some r rv ri n q x y V I s (digS x) W2 hg2 (get_is_yes r rv ri n q V I s W2 (digS x) hg2.1 hB2 hs hI hh hat) rfl hx0 hx1 hy0 hy1 hs0 hs1 hs hB2 hn hI hrv0 hrv1).mono ?_
  rintro e w' ⟨rfl, h⟩
  exact ⟨rfl, h, sub_keeps h hBW.lts.2.1⟩

theorem st_add_none (y : Int) (hg : Glob w) (hk : keyOk s = true) (hs : s.size ≤ 1000000) (hB : BoxAt w r rv ri q n V I) (hn : n ≤ 1000000) (hI : Maps.has I (keyL s) = false) (hh : Maps.has V (keyL s) = false)
    (hy0 : -1000000000000000000 < y) (hy1 : y < 1000000000000000000) (hrv0 : 0 ≠ rv) (hrv1 : 1 ≠ rv) (hS : StAt w st r) :
    Calls Tryz.prog 31 #[.pointer (some ⟨st, 0, none⟩), cmdV 3 ⟨#[]⟩ s (digS y) ⟨#[]⟩] w fun e w' => e = .returned (replyV 0 (digS y)) ∧ ValsPost r rv ri (n + 1) q (V.put (keyL s) (.lit (.string (digS y).data.toList))) I w (.returned (.int .i64 0)) w' ∧ StAt w' st r := by
  obtain ⟨l1, l2, l3⟩ := hB.lts
  refine st_vals st r rv ri n q V I w 3 s (digS y) ⟨#[]⟩ 0 (digS y) (n + 1) _ hB hS (fun W hb hBW => ?_)
  refine do_add r rv ri n q V I s (digS y) ⟨#[]⟩ 0 _ _ W (hg.1.below hb) hBW hk (fun W2 hb2 => ?_)
  have hB2 := hBW.below hb2
  have hg2 := (hg.below hb).below hb2
  refine (add_none r rv ri n q y V I s ⟨#[]⟩ W2 hg2 (get_is_no r rv ri n q V I s W2 hg2.1 hB2 hs hI hh) hy0 hy1 hs hB2 hn hI hrv0 hrv1).mono ?_
  rintro e w' ⟨rfl, h⟩
  exact ⟨rfl, h, sub_keeps h hBW.lts.2.1⟩

def TabPost (D : Dat) (w : World) (e : Ending) (w' : World) : Prop := ∃ mo, e = .returned (.map (some mo)) ∧ w.heap.size ≤ mo ∧ w'.ownsMap Tryz.prog 9 strElem mo 2 D ∧ Below w.heap.size w w'

theorem st_all (k v : ByteArray) (hg : Glob w) (hB : BoxAt w r rv ri q n V (.map [])) (h0 : -1000000 ≤ q) (h1 : q ≤ 1000000) (hk : k.size ≤ 1000) (hv : v.size ≤ 2000)
    (hV1 : ∀ kl, Maps.has V kl = true → kl = keyL k) (hV2 : ∀ z, V.atKey (keyL k) z = .lit (.string v.data.toList)) (hS : StAt w st r) :
    Calls Tryz.prog 32 #[.pointer (some ⟨st, 0, none⟩)] w (TabPost (AllOf q k v) w) := by
  have hmm := @run_makeMap Tryz.prog
  have s0 : w.cell? ⟨st, 0, none⟩ = some (.pointer (some ⟨r, 0, none⟩)) := hS.cell 0
  obtain ⟨l1, l2, l3⟩ := hB.lts
  have hlt := hS.lt
  have ha := (Below.refl w.heap.size w).alloc (Nat.le_refl _) (.map #[] 0)
  have HV1 := veil hV1
  have HV2 := veil hV2
  clear hV1 hV2
  go_enter Tryz.func32, Tryz.ntmps32
  go_wp2_with fail
  refine (all_one r rv ri n w.heap.size q V k v _ (hg.below ha) (hB.below ha) ((World.ownsMap_made w Tryz.prog 9 strElem)) h0 h1 hk hv HV1.out HV2.out (by omega) (by omega) (by omega)).mono ?_
  rintro e w1 ⟨rfl, hD, hk1⟩
  go_wp2
  go_ret
  refine ⟨w.heap.size, rfl, Nat.le_refl _, hD, ?_⟩
  exact ha.trans (hk1.toBelow (by simp) (fun j hj => by omega))
end
end Go.Proofs.YtjonmggkmalgaaaGreatDoor

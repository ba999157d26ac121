/-
  cmd.State at the root: Put, Delete, Add at a value that is no number, Swap.
-/
import Derived.Test.YtjonmggkmalgaaaDoorW31Sub
namespace Go.Proofs.YtjonmggkmalgaaaDoor
open Go.RowKit Go.Maps Go.WideMaps Go.WideElems

section
variable (st r rv ri n : Nat) (q : Int) (V I : Dat) (s : ByteArray) (w : World)

/-- A command that turns nothing that was there: what Do makes of it. -/
theorem st_same (kind : Int) (k v o : ByteArray) (x : Int) (val : ByteArray) (hS : StAt w st r)
    (hdo : ∀ W, Below w.heap.size w W → Calls Tryd.prog 12 #[groundV r, cmdV kind ⟨#[]⟩ k v o] W (DoPost x val (fun W w' => Below W.heap.size W w') W)) :
    Calls Tryd.prog 7 #[.pointer (some ⟨st, 0, none⟩), cmdV kind ⟨#[]⟩ k v o] w fun e w' => e = .returned (replyV x val) ∧ Below w.heap.size w w' := by
  refine (stdo st r kind ⟨#[]⟩ k v o x val (fun W w' => Below W.heap.size W w') w hS (fun W hb => ?_)).mono ?_
  · refine (hdo W hb).mono ?_
    rintro e w' ⟨rfl, W1, w1, B, hb1, h1, h2, hT, rfl⟩
    have hfin := below_stored (hb1.trans (hT.mono hb1.size)) h1 (.int .i64 x) (.string val)
    exact ⟨rfl, hfin, keep_all hfin _⟩
  · rintro e w' ⟨rfl, W, w1, B, hb, h1, h2, hT, rfl⟩
    exact ⟨rfl, below_stored (hb.trans (hT.mono hb.size)) h1 _ _⟩

/-- A command that turns the root's values, by the ground's own word. -/
theorem st_vals2 (kind : Int) (k v o : ByteArray) (x : Int) (val : ByteArray) (m : Nat) (V' : Dat) (hB : BoxAt w r rv ri q n V I) (hS : StAt w st r)
    (hdo : ∀ W, Below w.heap.size w W → BoxAt W r rv ri q n V I → Calls Tryd.prog 12 #[groundV r, cmdV kind ⟨#[]⟩ k v o] W fun e w' => e = .returned (replyV x val) ∧ ValsPost r rv ri m q V' I W (.returned (.int .i64 0)) w') :
    Calls Tryd.prog 7 #[.pointer (some ⟨st, 0, none⟩), cmdV kind ⟨#[]⟩ k v o] w fun e w' => e = .returned (replyV x val) ∧ ValsPost r rv ri m q V' I w (.returned (.int .i64 0)) w' ∧ StAt w' st r := by
  obtain ⟨e1, e2, e3⟩ := st_ne_box hS hB
  obtain ⟨l1, l2, l3⟩ := hB.lts
  refine (stdo st r kind ⟨#[]⟩ k v o x val (fun W w' => ValsPost r rv ri m q V' I W (.returned (.int .i64 0)) w') w hS (fun W hb => ?_)).mono ?_
  · refine (hdo W hb (hB.below hb)).mono ?_
    rintro e w' ⟨rfl, hfin⟩
    exact ⟨rfl, hfin, keep_but hfin.2.2 e2 l2⟩
  · rintro e w' ⟨rfl, W, w1, B, hb, h1, h2, hT, rfl⟩
    have hfin := ValsPost.stored hT hb hB h1 (.int .i64 x) (.string val)
    exact ⟨rfl, hfin, hS.kept hfin.2.2 e2⟩

theorem st_put (v : ByteArray) (hm : HasMax w) (hk : keyOk s = true) (hs : s.size ≤ 1000000) (hv : v.size ≤ 2000) (hB : BoxAt w r rv ri q n V I) (hn : n ≤ 1000000) (hI : Maps.has I (keyL s) = false) (hS : StAt w st r) :
    Calls Tryd.prog 7 #[.pointer (some ⟨st, 0, none⟩), cmdV 1 ⟨#[]⟩ s v ⟨#[]⟩] w fun e w' => e = .returned (replyV 0 ⟨#[]⟩) ∧ ValsPost r rv ri (n + 1) q (V.put (keyL s) (.lit (.string v.data.toList))) I w (.returned (.int .i64 0)) w' ∧ StAt w' st r :=
  st_vals2 st r rv ri n q V I w 1 s v ⟨#[]⟩ 0 ⟨#[]⟩ (n + 1) _ hB hS (fun W hb hBW => do_put r rv ri n q V I s v ⟨#[]⟩ W (hm.below hb) hBW hk hs hv hn hI)

theorem st_del (sv : ByteArray) (hm : HasMax w) (hk : keyOk s = true) (hs : s.size ≤ 1000000) (hB : BoxAt w r rv ri q n V I) (hn : n ≤ 1000000) (hI : Maps.has I (keyL s) = false) (hh : Maps.has V (keyL s) = true) (hat : V.atKey (keyL s) (.lit (.string [])) = .lit (.string sv.data.toList)) (hS : StAt w st r) :
    Calls Tryd.prog 7 #[.pointer (some ⟨st, 0, none⟩), cmdV 2 ⟨#[]⟩ s ⟨#[]⟩ ⟨#[]⟩] w fun e w' => e = .returned (replyV 0 ⟨#[]⟩) ∧ ValsPost r rv ri n q (V.del (keyL s)) I w (.returned (.int .i64 0)) w' ∧ StAt w' st r :=
  st_vals2 st r rv ri n q V I w 2 s ⟨#[]⟩ ⟨#[]⟩ 0 ⟨#[]⟩ n _ hB hS (fun W hb hBW => do_delete r rv ri n q V I s ⟨#[]⟩ ⟨#[]⟩ sv W (hm.below hb) hBW hk hs (by decide) hn hI hh hat)

theorem st_add_wrong (y : Int) (hm : HasMax w) (hk : keyOk s = true) (hs : s.size ≤ 1000000) (hB : BoxAt w r rv ri q n V I) (hn : n ≤ 1000000) (hI : Maps.has I (keyL s) = false) (hh : Maps.has V (keyL s) = true) (hat : V.atKey (keyL s) (.lit (.string [])) = .lit (.string [120]))
    (hy0 : -1000000000000000000 < y) (hy1 : y < 1000000000000000000) (hS : StAt w st r) :
    Calls Tryd.prog 7 #[.pointer (some ⟨st, 0, none⟩), cmdV 3 ⟨#[]⟩ s (digS y) ⟨#[]⟩] w fun e w' => e = .returned (replyV 24 ⟨#[]⟩) ∧ Below w.heap.size w w' := by
  refine st_same st r w 3 s (digS y) ⟨#[]⟩ 24 ⟨#[]⟩ hS (fun W hb => ?_)
  have hBW := hB.below hb
  refine do_add r rv ri n q V I s (digS y) ⟨#[]⟩ 24 ⟨#[]⟩ _ W (hm.below hb) hBW hk (fun W2 hb2 => ?_)
  have hm2 := (hm.below hb).below hb2
  have hB2 := hBW.below hb2
  refine (add_wrong r rv ri n q V I s ⟨#[]⟩ ⟨#[]⟩ y W2 hm2 (get_is_yes r rv ri n q V I s W2 ⟨#[120]⟩ hm2 hB2 hs hI hh hat) hs (by decide) hB2 hn hI hy0 hy1).mono ?_
  rintro e w' ⟨rfl, h⟩
  exact ⟨rfl, h, fun B t cs _ hl => hl.below h hl.lt⟩

theorem st_swap_wrong (v : ByteArray) (hm : HasMax w) (hk : keyOk s = true) (hs : s.size ≤ 1000000) (hv : v.size ≤ 2000) (hB : BoxAt w r rv ri q n V I) (hn : n ≤ 1000000) (hI : Maps.has I (keyL s) = false) (hh : Maps.has V (keyL s) = true) (hat : V.atKey (keyL s) (.lit (.string [])) = .lit (.string [120])) (hS : StAt w st r) :
    Calls Tryd.prog 7 #[.pointer (some ⟨st, 0, none⟩), cmdV 4 ⟨#[]⟩ s v ⟨#[121]⟩] w fun e w' => e = .returned (replyV 24 ⟨#[120]⟩) ∧ Below w.heap.size w w' := by
  refine st_same st r w 4 s v ⟨#[121]⟩ 24 ⟨#[120]⟩ hS (fun W hb => ?_)
  have hBW := hB.below hb
  refine do_swap r rv ri n q V I s v ⟨#[121]⟩ 24 ⟨#[120]⟩ _ W (hm.below hb) hBW hk (fun W2 hb2 => ?_)
  have hm2 := (hm.below hb).below hb2
  have hB2 := hBW.below hb2
  refine (swap_wrong r rv ri n q V I s v ⟨#[]⟩ W2 hm2 (get_is_yes r rv ri n q V I s W2 ⟨#[120]⟩ hm2 hB2 hs hI hh hat) hs hv hB2 hn hI).mono ?_
  rintro e w' ⟨rfl, h⟩
  exact ⟨rfl, h, fun B t cs _ hl => hl.below h hl.lt⟩

theorem st_swap_none (v o : ByteArray) (hm : HasMax w) (hk : keyOk s = true) (hs : s.size ≤ 1000000) (hv : v.size ≤ 2000) (hB : BoxAt w r rv ri q n V I) (hn : n ≤ 1000000) (hI : Maps.has I (keyL s) = false) (hh : Maps.has V (keyL s) = false) (hS : StAt w st r) :
    Calls Tryd.prog 7 #[.pointer (some ⟨st, 0, none⟩), cmdV 4 ⟨#[]⟩ s v o] w fun e w' => e = .returned (replyV 8 ⟨#[]⟩) ∧ Below w.heap.size w w' := by
  refine st_same st r w 4 s v o 8 ⟨#[]⟩ hS (fun W hb => ?_)
  have hBW := hB.below hb
  refine do_swap r rv ri n q V I s v o 8 ⟨#[]⟩ _ W (hm.below hb) hBW hk (fun W2 hb2 => ?_)
  have hm2 := (hm.below hb).below hb2
  have hB2 := hBW.below hb2
  refine (swap_none r rv ri n q V I s v o W2 hm2 (get_is_no r rv ri n q V I s W2 hm2 hB2 hs hI hh) hs hv hB2 hn hI).mono ?_
  rintro e w' ⟨rfl, h⟩
  exact ⟨rfl, h, fun B t cs _ hl => hl.below h hl.lt⟩

theorem st_swap_ok (v sv : ByteArray) (hm : HasMax w) (hk : keyOk s = true) (hs : s.size ≤ 1000000) (hv : v.size ≤ 2000) (hB : BoxAt w r rv ri q n V I) (hn : n ≤ 1000000) (hI : Maps.has I (keyL s) = false) (hh : Maps.has V (keyL s) = true) (hat : V.atKey (keyL s) (.lit (.string [])) = .lit (.string sv.data.toList)) (hS : StAt w st r) :
    Calls Tryd.prog 7 #[.pointer (some ⟨st, 0, none⟩), cmdV 4 ⟨#[]⟩ s v sv] w fun e w' => e = .returned (replyV 0 ⟨#[]⟩) ∧ ValsPost r rv ri (n + 1) q (V.put (keyL s) (.lit (.string v.data.toList))) I w (.returned (.int .i64 0)) w' ∧ StAt w' st r := by
  refine st_vals st r rv ri n q V I w 4 s v sv 0 ⟨#[]⟩ (n + 1) _ hB hS (fun W hb hBW => ?_)
  refine do_swap r rv ri n q V I s v sv 0 ⟨#[]⟩ _ W (hm.below hb) hBW hk (fun W2 hb2 => ?_)
  have hm2 := (hm.below hb).below hb2
  have hB2 := hBW.below hb2
  refine (swap_ok r rv ri n q V I s v ⟨#[]⟩ sv W2 hm2 (get_is_yes r rv ri n q V I s W2 sv hm2 hB2 hs hI hh hat) hs hv hB2 hn hI).mono ?_
  rintro e w' ⟨rfl, h⟩
  exact ⟨rfl, h, sub_keeps h hBW.lts.2.1⟩

/-- Add, whether the key is there or not: what it holds is x, or nothing (then x is 0). -/
theorem st_add (x y : Int) (hg : Glob w) (hk : keyOk s = true) (hs : s.size ≤ 1000000) (hB : BoxAt w r rv ri q n V I) (hn : n ≤ 1000000) (hI : Maps.has I (keyL s) = false)
    (hx : (Maps.has V (keyL s) = false ∧ x = 0) ∨ (Maps.has V (keyL s) = true ∧ V.atKey (keyL s) (.lit (.string [])) = .lit (.string (digS x).data.toList)))
    (hx0 : -1000000000000000000 < x) (hx1 : x < 1000000000000000000) (hy0 : -1000000000000000000 < y) (hy1 : y < 1000000000000000000) (hs0 : -1000000000000000000 < x + y) (hs1 : x + y < 1000000000000000000)
    (hrv0 : 0 ≠ rv) (hrv1 : 1 ≠ rv) (hS : StAt w st r) :
    Calls Tryd.prog 7 #[.pointer (some ⟨st, 0, none⟩), cmdV 3 ⟨#[]⟩ s (digS y) ⟨#[]⟩] w fun e w' => e = .returned (replyV 0 (digS (x + y))) ∧ ValsPost r rv ri (n + 1) q (V.put (keyL s) (.lit (.string (digS (x + y)).data.toList))) I w (.returned (.int .i64 0)) w' ∧ StAt w' st r := by
  rcases hx with ⟨hh, rfl⟩ | ⟨hh, hat⟩
  · rw [Int.zero_add]
    exact st_add_none st r rv ri n q V I s w y hg hk hs hB hn hI hh hy0 hy1 hrv0 hrv1 hS
  · exact st_add_some st r rv ri n q V I s w x y hg hk hs hB hn hI hh hat hx0 hx1 hy0 hy1 hs0 hs1 hrv0 hrv1 hS
end
end Go.Proofs.YtjonmggkmalgaaaDoor

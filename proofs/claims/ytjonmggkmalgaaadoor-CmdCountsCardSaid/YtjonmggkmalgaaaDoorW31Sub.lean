/-
  cmd.add at a value that is no number, cmd.swap's answers, cmd.do at Put and Delete at the root. (Printed by gen_sub2.py.)
-/
import Derived.Test.YtjonmggkmalgaaaDoorW22State
namespace Go.Proofs.YtjonmggkmalgaaaDoor
open Go.RowKit Go.Maps Go.WideMaps Go.WideElems
set_option linter.unusedVariables false

set_option maxHeartbeats 1000000 in
set_option maxRecDepth 100000 in
theorem add_wrong (r rv ri n : Nat) (q : Int) (V I : Dat) (s vv o : ByteArray) (y : Int) (w : World) (hm : HasMax w) (hget : GetIs r ⟨#[]⟩ s ⟨#[120]⟩ true w)
    (hs : s.size ≤ 1000000) (hv : vv.size ≤ 2000) (hB : BoxAt w r rv ri q n V I) (hn : n ≤ 1000000) (hI : Maps.has I (keyL s) = false) (hy0 : -1000000000000000000 < y) (hy1 : y < 1000000000000000000) :
    Calls Tryd.prog 19 #[groundV r, cmdV 3 ⟨#[]⟩ s (digS y) ⟨#[]⟩] w fun e w' => e = .returned (replyV 24 ⟨#[]⟩) ∧ Below w.heap.size w w' := by
  have Hget := veil hget
  clear hget
  have hmg := meth_Get r
  have hmp := meth_Put r
  have hb2 := below2 w (.cells #[.int .i64 3, .string ⟨#[]⟩, .string s, .string (digS y), .string ⟨#[]⟩] 32) (.cells #[.int .i64 0, .string ⟨#[]⟩] 28)
  have hR := reply_made w #[.int .i64 3, .string ⟨#[]⟩, .string s, .string (digS y), .string ⟨#[]⟩]
  have hC := cmd_made w [.int .i64 3, .string ⟨#[]⟩, .string s, .string (digS y), .string ⟨#[]⟩] (.cells #[.int .i64 0, .string ⟨#[]⟩] 28)
  obtain ⟨l1, l2, l3⟩ := hB.lts
  go_enter Tryd.func19, Tryd.ntmps19
  go_wp2_with fail
  refine (Hget.out _ hb2).mono ?_
  rintro e w1 ⟨rfl, hb⟩
  have hbw := hb2.trans (hb.mono hb2.size)
  have hR1 := hR.below hb hR.lt
  have hC1 := hC.below hb hC.lt
  have x1 : w1.cell? ⟨w.heap.size, 1, none⟩ = some (.string ⟨#[]⟩) := hC1.cell 1
  have x2 : w1.cell? ⟨w.heap.size, 2, none⟩ = some (.string s) := hC1.cell 2
  have x3 : w1.cell? ⟨w.heap.size, 3, none⟩ = some (.string (digS y)) := hC1.cell 3
  have x4 : w1.cell? ⟨w.heap.size, 4, none⟩ = some (.string ⟨#[]⟩) := hC1.cell 4
  have hlt1 := hR1.lt
  go_wp2_with fail
  refine (number_x _).mono ?_
  rintro e w' ⟨rfl, rfl⟩
  go_wp2_with fail
  refine (number_dig y _ hy0 hy1).mono ?_
  rintro e w' ⟨rfl, rfl⟩
  have d0 : w1.cell? ⟨w.heap.size + 1, 0, none⟩ = some (.int .i64 0) := hR1.cell 0
  have d1 : w1.cell? ⟨w.heap.size + 1, 1, none⟩ = some (.string ⟨#[]⟩) := hR1.cell 1
  have e0 : w1.frozen? ⟨w.heap.size + 1, 0, none⟩ = false := hR1.frozen 0
  have e1 : w1.frozen? ⟨w.heap.size + 1, 1, none⟩ = false := hR1.frozen 1
  have Hfin := veil (below_stored hbw (Nat.le_succ w.heap.size) (.int .i64 24) (.string ⟨#[]⟩))
  clear hI
  go_wp2
  have hR5 := (hR1.put 0 (.int .i64 24)).put 1 (.string ⟨#[]⟩)
  have q0 := hR5.cell 0
  have q1 := hR5.cell 1
  exact bodyPost_ret (v := replyV 24 ⟨#[]⟩) (by simp at q0 q1; simp [results, Tryd.results19, go_sem, q0, q1]) rfl ⟨rfl, Hfin.out⟩

set_option maxHeartbeats 1000000 in
set_option maxRecDepth 100000 in
theorem swap_wrong (r rv ri n : Nat) (q : Int) (V I : Dat) (s vv o : ByteArray)  (w : World) (hm : HasMax w) (hget : GetIs r ⟨#[]⟩ s ⟨#[120]⟩ true w)
    (hs : s.size ≤ 1000000) (hv : vv.size ≤ 2000) (hB : BoxAt w r rv ri q n V I) (hn : n ≤ 1000000) (hI : Maps.has I (keyL s) = false)  :
    Calls Tryd.prog 20 #[groundV r, cmdV 4 ⟨#[]⟩ s vv ⟨#[121]⟩] w fun e w' => e = .returned (replyV 24 ⟨#[120]⟩) ∧ Below w.heap.size w w' := by
  have Hget := veil hget
  clear hget
  have hmg := meth_Get r
  have hmp := meth_Put r
  have hb2 := below2 w (.cells #[.int .i64 4, .string ⟨#[]⟩, .string s, .string vv, .string ⟨#[121]⟩] 32) (.cells #[.int .i64 0, .string ⟨#[]⟩] 28)
  have hR := reply_made w #[.int .i64 4, .string ⟨#[]⟩, .string s, .string vv, .string ⟨#[121]⟩]
  have hC := cmd_made w [.int .i64 4, .string ⟨#[]⟩, .string s, .string vv, .string ⟨#[121]⟩] (.cells #[.int .i64 0, .string ⟨#[]⟩] 28)
  obtain ⟨l1, l2, l3⟩ := hB.lts
  have z5 : (⟨#[120]⟩ : ByteArray).extract 0 1 = ⟨#[120]⟩ := by apply bytes_ext; simp [ByteArray.extract, ByteArray.copySlice]
  have z6 : (min (1 : Int) 200).toNat = 1 := by decide
  go_enter Tryd.func20, Tryd.ntmps20
  go_wp2_with fail
  refine (Hget.out _ hb2).mono ?_
  rintro e w1 ⟨rfl, hb⟩
  have hbw := hb2.trans (hb.mono hb2.size)
  have hR1 := hR.below hb hR.lt
  have hC1 := hC.below hb hC.lt
  have x1 : w1.cell? ⟨w.heap.size, 1, none⟩ = some (.string ⟨#[]⟩) := hC1.cell 1
  have x2 : w1.cell? ⟨w.heap.size, 2, none⟩ = some (.string s) := hC1.cell 2
  have x3 : w1.cell? ⟨w.heap.size, 3, none⟩ = some (.string vv) := hC1.cell 3
  have x4 : w1.cell? ⟨w.heap.size, 4, none⟩ = some (.string ⟨#[121]⟩) := hC1.cell 4
  have hlt1 := hR1.lt
  have d0 : w1.cell? ⟨w.heap.size + 1, 0, none⟩ = some (.int .i64 0) := hR1.cell 0
  have d1 : w1.cell? ⟨w.heap.size + 1, 1, none⟩ = some (.string ⟨#[]⟩) := hR1.cell 1
  have e0 : w1.frozen? ⟨w.heap.size + 1, 0, none⟩ = false := hR1.frozen 0
  have e1 : w1.frozen? ⟨w.heap.size + 1, 1, none⟩ = false := hR1.frozen 1
  have Hfin := veil (below_stored hbw (Nat.le_succ w.heap.size) (.int .i64 24) (.string ⟨#[120]⟩))
  clear hI
  go_wp2
  have hR5 := (hR1.put 0 (.int .i64 24)).put 1 (.string ⟨#[120]⟩)
  have q0 := hR5.cell 0
  have q1 := hR5.cell 1
  exact bodyPost_ret (v := replyV 24 ⟨#[120]⟩) (by simp at q0 q1; simp [results, Tryd.results20, go_sem, q0, q1]) rfl ⟨rfl, Hfin.out⟩

set_option maxHeartbeats 1000000 in
set_option maxRecDepth 100000 in
theorem swap_none (r rv ri n : Nat) (q : Int) (V I : Dat) (s vv o : ByteArray)  (w : World) (hm : HasMax w) (hget : GetIs r ⟨#[]⟩ s ⟨#[]⟩ false w)
    (hs : s.size ≤ 1000000) (hv : vv.size ≤ 2000) (hB : BoxAt w r rv ri q n V I) (hn : n ≤ 1000000) (hI : Maps.has I (keyL s) = false)  :
    Calls Tryd.prog 20 #[groundV r, cmdV 4 ⟨#[]⟩ s vv o] w fun e w' => e = .returned (replyV 8 ⟨#[]⟩) ∧ Below w.heap.size w w' := by
  have Hget := veil hget
  clear hget
  have hmg := meth_Get r
  have hmp := meth_Put r
  have hb2 := below2 w (.cells #[.int .i64 4, .string ⟨#[]⟩, .string s, .string vv, .string o] 32) (.cells #[.int .i64 0, .string ⟨#[]⟩] 28)
  have hR := reply_made w #[.int .i64 4, .string ⟨#[]⟩, .string s, .string vv, .string o]
  have hC := cmd_made w [.int .i64 4, .string ⟨#[]⟩, .string s, .string vv, .string o] (.cells #[.int .i64 0, .string ⟨#[]⟩] 28)
  obtain ⟨l1, l2, l3⟩ := hB.lts
  go_enter Tryd.func20, Tryd.ntmps20
  go_wp2_with fail
  refine (Hget.out _ hb2).mono ?_
  rintro e w1 ⟨rfl, hb⟩
  have hbw := hb2.trans (hb.mono hb2.size)
  have hR1 := hR.below hb hR.lt
  have hC1 := hC.below hb hC.lt
  have x1 : w1.cell? ⟨w.heap.size, 1, none⟩ = some (.string ⟨#[]⟩) := hC1.cell 1
  have x2 : w1.cell? ⟨w.heap.size, 2, none⟩ = some (.string s) := hC1.cell 2
  have x3 : w1.cell? ⟨w.heap.size, 3, none⟩ = some (.string vv) := hC1.cell 3
  have x4 : w1.cell? ⟨w.heap.size, 4, none⟩ = some (.string o) := hC1.cell 4
  have hlt1 := hR1.lt
  have d0 : w1.cell? ⟨w.heap.size + 1, 0, none⟩ = some (.int .i64 0) := hR1.cell 0
  have d1 : w1.cell? ⟨w.heap.size + 1, 1, none⟩ = some (.string ⟨#[]⟩) := hR1.cell 1
  have e0 : w1.frozen? ⟨w.heap.size + 1, 0, none⟩ = false := hR1.frozen 0
  have e1 : w1.frozen? ⟨w.heap.size + 1, 1, none⟩ = false := hR1.frozen 1
  have Hfin := veil (below_stored hbw (Nat.le_succ w.heap.size) (.int .i64 8) (.string ⟨#[]⟩))
  clear hI
  go_wp2
  have hR5 := (hR1.put 0 (.int .i64 8)).put 1 (.string ⟨#[]⟩)
  have q0 := hR5.cell 0
  have q1 := hR5.cell 1
  exact bodyPost_ret (v := replyV 8 ⟨#[]⟩) (by simp at q0 q1; simp [results, Tryd.results20, go_sem, q0, q1]) rfl ⟨rfl, Hfin.out⟩

set_option maxHeartbeats 1000000 in
set_option maxRecDepth 100000 in
theorem swap_ok (r rv ri n : Nat) (q : Int) (V I : Dat) (s vv o : ByteArray) (sv : ByteArray) (w : World) (hm : HasMax w) (hget : GetIs r ⟨#[]⟩ s sv true w)
    (hs : s.size ≤ 1000000) (hv : vv.size ≤ 2000) (hB : BoxAt w r rv ri q n V I) (hn : n ≤ 1000000) (hI : Maps.has I (keyL s) = false)  :
    Calls Tryd.prog 20 #[groundV r, cmdV 4 ⟨#[]⟩ s vv sv] w fun e w' => e = .returned (replyV 0 ⟨#[]⟩) ∧ ValsPost r rv ri (n + 1) q (V.put (keyL s) (.lit (.string vv.data.toList))) I w (.returned (.int .i64 0)) w' := by
  have Hget := veil hget
  clear hget
  have hmg := meth_Get r
  have hmp := meth_Put r
  have hb2 := below2 w (.cells #[.int .i64 4, .string ⟨#[]⟩, .string s, .string vv, .string sv] 32) (.cells #[.int .i64 0, .string ⟨#[]⟩] 28)
  have hR := reply_made w #[.int .i64 4, .string ⟨#[]⟩, .string s, .string vv, .string sv]
  have hC := cmd_made w [.int .i64 4, .string ⟨#[]⟩, .string s, .string vv, .string sv] (.cells #[.int .i64 0, .string ⟨#[]⟩] 28)
  obtain ⟨l1, l2, l3⟩ := hB.lts
  go_enter Tryd.func20, Tryd.ntmps20
  go_wp2_with fail
  refine (Hget.out _ hb2).mono ?_
  rintro e w1 ⟨rfl, hb⟩
  have hbw := hb2.trans (hb.mono hb2.size)
  have hR1 := hR.below hb hR.lt
  have hC1 := hC.below hb hC.lt
  have x1 : w1.cell? ⟨w.heap.size, 1, none⟩ = some (.string ⟨#[]⟩) := hC1.cell 1
  have x2 : w1.cell? ⟨w.heap.size, 2, none⟩ = some (.string s) := hC1.cell 2
  have x3 : w1.cell? ⟨w.heap.size, 3, none⟩ = some (.string vv) := hC1.cell 3
  have x4 : w1.cell? ⟨w.heap.size, 4, none⟩ = some (.string sv) := hC1.cell 4
  have hlt1 := hR1.lt
  go_wp2_with fail
  refine (put_ok r r ⟨#[]⟩ s vv q rv ri n V I _ (.inl ⟨rfl, rfl⟩) (hm.below hbw) (hB.below hbw) hs hv hI hn).mono ?_
  rintro e w3 ⟨rfl, hB3, hk3⟩
  have hR3 := hR1.kept hk3 (by omega)
  have hlt3 := hR3.lt
  have hpost : ValsPost r rv ri (n + 1) q (V.put (keyL s) (.lit (.string vv.data.toList))) I w (.returned (.int .i64 0)) w3 := ⟨rfl, hB3, keeps_then hbw hk3⟩
  have Hfin := veil (hpost.stored (B := w.heap.size + 1) (Below.refl _ _) hB (by omega) (.int .i64 0) (.string ⟨#[]⟩))
  have d0 : w3.cell? ⟨w.heap.size + 1, 0, none⟩ = some (.int .i64 0) := hR3.cell 0
  have d1 : w3.cell? ⟨w.heap.size + 1, 1, none⟩ = some (.string ⟨#[]⟩) := hR3.cell 1
  have e0 : w3.frozen? ⟨w.heap.size + 1, 0, none⟩ = false := hR3.frozen 0
  have e1 : w3.frozen? ⟨w.heap.size + 1, 1, none⟩ = false := hR3.frozen 1
  clear hpost hI
  go_wp2
  have hR5 := (hR3.put 0 (.int .i64 0)).put 1 (.string ⟨#[]⟩)
  have q0 := hR5.cell 0
  have q1 := hR5.cell 1
  exact bodyPost_ret (v := replyV 0 ⟨#[]⟩) (by simp at q0 q1; simp [results, Tryd.results20, go_sem, q0, q1]) rfl ⟨rfl, Hfin.out⟩

set_option maxHeartbeats 1000000 in
set_option maxRecDepth 100000 in
theorem do_put (r rv ri n : Nat) (q : Int) (V I : Dat) (s v o : ByteArray) (w : World) (hm : HasMax w) (hB : BoxAt w r rv ri q n V I) (hk : keyOk s = true) (hs : s.size ≤ 1000000) (hv : v.size ≤ 2000) (hn : n ≤ 1000000) (hI : Maps.has I (keyL s) = false)  :
    Calls Tryd.prog 12 #[groundV r, cmdV 1 ⟨#[]⟩ s v o] w fun e w' => e = .returned (replyV 0 ⟨#[]⟩) ∧ ValsPost r rv ri (n + 1) q (V.put (keyL s) (.lit (.string v.data.toList))) I w (.returned (.int .i64 0)) w' := by
  have Hk := veil hk
  clear hk
  have hms := meth_Seq r
  have hmp := meth_Put r
  have hb2 := below2 w (.cells #[.int .i64 1, .string ⟨#[]⟩, .string s, .string v, .string o] 32) (.cells #[.int .i64 0, .string ⟨#[]⟩] 28)
  have hR := reply_made w #[.int .i64 1, .string ⟨#[]⟩, .string s, .string v, .string o]
  have hC := cmd_made w [.int .i64 1, .string ⟨#[]⟩, .string s, .string v, .string o] (.cells #[.int .i64 0, .string ⟨#[]⟩] 28)
  obtain ⟨l1, l2, l3⟩ := hB.lts
  go_enter Tryd.func12, Tryd.ntmps12
  go_wp2_with fail
  refine (names_empty _).mono ?_
  rintro e w' ⟨rfl, rfl⟩
  go_wp2_with fail
  refine (seq_ok r r ⟨#[]⟩ q rv ri n V I _ (.inl ⟨rfl, rfl⟩) (hm.below hb2) (hB.below hb2)).mono ?_
  rintro e w1 ⟨rfl, hb⟩
  have hbw := hb2.trans (hb.mono hb2.size)
  have hR1 := hR.below hb hR.lt
  have hC1 := hC.below hb hC.lt
  have x0 : w1.cell? ⟨w.heap.size, 0, none⟩ = some (.int .i64 1) := hC1.cell 0
  have x1 : w1.cell? ⟨w.heap.size, 1, none⟩ = some (.string ⟨#[]⟩) := hC1.cell 1
  have x2 : w1.cell? ⟨w.heap.size, 2, none⟩ = some (.string s) := hC1.cell 2
  have x3 : w1.cell? ⟨w.heap.size, 3, none⟩ = some (.string v) := hC1.cell 3
  have hlt1 := hR1.lt
  go_wp2_with fail
  refine (key_yes s _ Hk.out).mono ?_
  rintro e w' ⟨rfl, rfl⟩
  go_wp2_with fail
  refine (put_ok r r ⟨#[]⟩ s v q rv ri n V I _ (.inl ⟨rfl, rfl⟩) (hm.below hbw) (hB.below hbw) hs hv hI hn).mono ?_
  rintro e w3 ⟨rfl, hB3, hk3⟩
  have hR3 := hR1.kept hk3 (by omega)
  have hlt3 := hR3.lt
  have hpost : ValsPost r rv ri (n + 1) q (V.put (keyL s) (.lit (.string v.data.toList))) I w (.returned (.int .i64 0)) w3 := ⟨rfl, hB3, keeps_then hbw hk3⟩
  have Hfin := veil (hpost.stored (B := w.heap.size + 1) (Below.refl _ _) hB (by omega) (.int .i64 0) (.string ⟨#[]⟩))
  have d0 : w3.cell? ⟨w.heap.size + 1, 0, none⟩ = some (.int .i64 0) := hR3.cell 0
  have d1 : w3.cell? ⟨w.heap.size + 1, 1, none⟩ = some (.string ⟨#[]⟩) := hR3.cell 1
  have e0 : w3.frozen? ⟨w.heap.size + 1, 0, none⟩ = false := hR3.frozen 0
  have e1 : w3.frozen? ⟨w.heap.size + 1, 1, none⟩ = false := hR3.frozen 1
  clear hpost hI x0 x1 x2 x3
  go_wp2
  have hR5 := (hR3.put 0 (.int .i64 0)).put 1 (.string ⟨#[]⟩)
  have q0 := hR5.cell 0
  have q1 := hR5.cell 1
  exact bodyPost_ret (v := replyV 0 ⟨#[]⟩) (by simp at q0 q1; simp [results, Tryd.results12, go_sem, q0, q1]) rfl ⟨rfl, Hfin.out⟩

set_option maxHeartbeats 1000000 in
set_option maxRecDepth 100000 in
theorem do_delete (r rv ri n : Nat) (q : Int) (V I : Dat) (s v o sv : ByteArray) (w : World) (hm : HasMax w) (hB : BoxAt w r rv ri q n V I) (hk : keyOk s = true) (hs : s.size ≤ 1000000) (hv : v.size ≤ 2000) (hn : n ≤ 1000000) (hI : Maps.has I (keyL s) = false) (hh : Maps.has V (keyL s) = true) (hat : V.atKey (keyL s) (.lit (.string [])) = .lit (.string sv.data.toList)) :
    Calls Tryd.prog 12 #[groundV r, cmdV 2 ⟨#[]⟩ s v o] w fun e w' => e = .returned (replyV 0 ⟨#[]⟩) ∧ ValsPost r rv ri n q (V.del (keyL s)) I w (.returned (.int .i64 0)) w' := by
  have Hk := veil hk
  clear hk
  have hms := meth_Seq r
  have hmp := meth_Delete r
  have hb2 := below2 w (.cells #[.int .i64 2, .string ⟨#[]⟩, .string s, .string v, .string o] 32) (.cells #[.int .i64 0, .string ⟨#[]⟩] 28)
  have hR := reply_made w #[.int .i64 2, .string ⟨#[]⟩, .string s, .string v, .string o]
  have hC := cmd_made w [.int .i64 2, .string ⟨#[]⟩, .string s, .string v, .string o] (.cells #[.int .i64 0, .string ⟨#[]⟩] 28)
  obtain ⟨l1, l2, l3⟩ := hB.lts
  go_enter Tryd.func12, Tryd.ntmps12
  go_wp2_with fail
  refine (names_empty _).mono ?_
  rintro e w' ⟨rfl, rfl⟩
  go_wp2_with fail
  refine (seq_ok r r ⟨#[]⟩ q rv ri n V I _ (.inl ⟨rfl, rfl⟩) (hm.below hb2) (hB.below hb2)).mono ?_
  rintro e w1 ⟨rfl, hb⟩
  have hbw := hb2.trans (hb.mono hb2.size)
  have hR1 := hR.below hb hR.lt
  have hC1 := hC.below hb hC.lt
  have x0 : w1.cell? ⟨w.heap.size, 0, none⟩ = some (.int .i64 2) := hC1.cell 0
  have x1 : w1.cell? ⟨w.heap.size, 1, none⟩ = some (.string ⟨#[]⟩) := hC1.cell 1
  have x2 : w1.cell? ⟨w.heap.size, 2, none⟩ = some (.string s) := hC1.cell 2
  have x3 : w1.cell? ⟨w.heap.size, 3, none⟩ = some (.string v) := hC1.cell 3
  have hlt1 := hR1.lt
  go_wp2_with fail
  refine (key_yes s _ Hk.out).mono ?_
  rintro e w' ⟨rfl, rfl⟩
  go_wp2_with fail
  refine (delete_ok r r ⟨#[]⟩ s sv q rv ri n V I _ (.inl ⟨rfl, rfl⟩) (hm.below hbw) (hB.below hbw) hs hI hh hat).mono ?_
  rintro e w3 ⟨rfl, hB3, hk3⟩
  have hR3 := hR1.kept hk3 (by omega)
  have hlt3 := hR3.lt
  have hpost : ValsPost r rv ri n q (V.del (keyL s)) I w (.returned (.int .i64 0)) w3 := ⟨rfl, hB3, keeps_then hbw hk3⟩
  have Hfin := veil (hpost.stored (B := w.heap.size + 1) (Below.refl _ _) hB (by omega) (.int .i64 0) (.string ⟨#[]⟩))
  have d0 : w3.cell? ⟨w.heap.size + 1, 0, none⟩ = some (.int .i64 0) := hR3.cell 0
  have d1 : w3.cell? ⟨w.heap.size + 1, 1, none⟩ = some (.string ⟨#[]⟩) := hR3.cell 1
  have e0 : w3.frozen? ⟨w.heap.size + 1, 0, none⟩ = false := hR3.frozen 0
  have e1 : w3.frozen? ⟨w.heap.size + 1, 1, none⟩ = false := hR3.frozen 1
  clear hpost hI hh hat x0 x1 x2 x3
  go_wp2
  have hR5 := (hR3.put 0 (.int .i64 0)).put 1 (.string ⟨#[]⟩)
  have q0 := hR5.cell 0
  have q1 := hR5.cell 1
  exact bodyPost_ret (v := replyV 0 ⟨#[]⟩) (by simp at q0 q1; simp [results, Tryd.results12, go_sem, q0, q1]) rfl ⟨rfl, Hfin.out⟩
end Go.Proofs.YtjonmggkmalgaaaDoor

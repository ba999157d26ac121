/-
  cmd.do at the kinds Make (a name that is there), Drop, Next. (Printed by gen_do.py.)
-/
import Derived.Test.YtjonmggkmalgaaaGreatDoorW12Do
import Derived.Lib.AppendIntMem
namespace Go.Proofs.YtjonmggkmalgaaaGreatDoor
open Go.RowKit Go.Maps Go.WideMaps Go.WideElems

/-- The package variables that the library looks at. -/
def Glob (w : World) : Prop := HasMax w ∧ Lib.TabIs Tryz.prog w "internal/strconv.uint64pow10" .u64 Lib.pow10Tab
theorem gPow : Tryz.prog.globalNamed "internal/strconv.uint64pow10" = some 1 := by kernel_rfl
theorem Glob.lt {w : World} (h : Glob w) : 0 < w.heap.size ∧ 1 < w.heap.size := by
  obtain ⟨⟨m, hm⟩, ht⟩ := h
  refine ⟨World.block_lt_of_cell? w _ hm, ?_⟩
  unfold Lib.TabIs World.var? at ht
  simp only [gPow, Option.bind_some] at ht
  rcases Nat.lt_or_ge 1 w.heap.size with hlt | hge
  · exact hlt
  · rw [Array.getElem?_eq_none hge] at ht; cases ht
theorem Glob.kept {S : Nat → Prop} {w w' : World} (h : Glob w) (hk : Keeps S w w') (h0 : ¬ S 0) (h1 : ¬ S 1) : Glob w' := by
  have hlt := h.lt
  obtain ⟨hm, ht⟩ := h
  refine ⟨hm.kept hk h0, ?_⟩
  unfold Lib.TabIs World.var? at ht ⊢
  simp only [gPow, Option.bind_some] at ht ⊢
  rw [hk.block _ hlt.2 h1]
  exact ht
theorem Glob.below {w w' : World} (h : Glob w) (hb : Below w.heap.size w w') : Glob w' :=
  h.kept (S := fun _ => False) (Keeps.below hb (fun k hk hk' => absurd hk (by omega))) id id

/-- A number in decimal digits, as a string. -/
def digS (n : Int) : ByteArray := ⟨(Lib.itoa n).toArray⟩

theorem digits_any (n : Int) (w : World) (h0 : -9223372036854775808 ≤ n) (h1 : n ≤ 9223372036854775807) (hg : Glob w) :
    Calls Tryz.prog 133 #[.int .i64 n] w fun e w' => e = .returned (.string (digS n)) ∧ Below w.heap.size w w' := by
  go_enter Tryz.func133, Tryz.ntmps133
  go_wp2_with fail
  refine (Tryz.strconv_Itoa n h0 h1 _ hg.2).mono ?_
  rintro e w' ⟨rfl, k, os, rfl⟩
  go_wp2
  go_ret
  exact ⟨rfl, Lib.below_grow _ _ (Nat.le_refl _) _ _⟩

set_option maxRecDepth 100000 in
theorem do_dup (r rv ri n c : Nat) (q : Int) (V I : Dat) (s : ByteArray) (w : World) (hm : HasMax w) (hk : keyOk s = true) (hs : s.size ≤ 1000000) (hp : Plainname s) (hB : BoxAt w r rv ri q n V I) (hI : Maps.has I (keyL s) = true) (hat : I.atKey (keyL s) .nil = .lit (.int .u64 c)) :
    Calls Tryz.prog 104 #[groundV r, cmdV 5 ⟨#[]⟩ s ⟨#[]⟩ ⟨#[]⟩] w fun e w' => e = .returned (replyV 9 ⟨#[]⟩) ∧ Below w.heap.size w w' := by
  have Hk := veil hk
  clear hk
  have hms := meth_Seq r
  go_enter Tryz.func104, Tryz.ntmps104
  go_wp2_with fail
  refine (names_empty _).mono ?_
  rintro e w' ⟨rfl, rfl⟩
  go_wp2_with fail
  have hb2 := below2 w (.cells #[.int .i64 5, .string ⟨#[]⟩, .string s, .string ⟨#[]⟩, .string ⟨#[]⟩] 68) (.cells #[.int .i64 0, .string ⟨#[]⟩] 42)
  have hR := reply_made w #[.int .i64 5, .string ⟨#[]⟩, .string s, .string ⟨#[]⟩, .string ⟨#[]⟩]
  have hC := cmd_made w [.int .i64 5, .string ⟨#[]⟩, .string s, .string ⟨#[]⟩, .string ⟨#[]⟩] (.cells #[.int .i64 0, .string ⟨#[]⟩] 42)
  refine (seq_ok r r ⟨#[]⟩ q rv ri n V I _ (.inl ⟨rfl, rfl⟩) (hm.below hb2) (hB.below hb2)).mono ?_
  rintro e w1 ⟨rfl, hb⟩
  have hbw := hb2.trans (hb.mono hb2.size)
  have hR1 := hR.below hb hR.lt
  have hC1 := hC.below hb hC.lt
  have x0 : w1.cell? ⟨w.heap.size, 0, none⟩ = some (.int .i64 5) := hC1.cell 0
  have x1 : w1.cell? ⟨w.heap.size, 1, none⟩ = some (.string ⟨#[]⟩) := hC1.cell 1
  have x2 : w1.cell? ⟨w.heap.size, 2, none⟩ = some (.string s) := hC1.cell 2
  have x3 : w1.cell? ⟨w.heap.size, 3, none⟩ = some (.string ⟨#[]⟩) := hC1.cell 3
  have x4 : w1.cell? ⟨w.heap.size, 4, none⟩ = some (.string ⟨#[]⟩) := hC1.cell 4
  have hlt1 := hR1.lt
  go_wp2_with fail
  refine (within_dup r rv ri n c q V I s _ (hm.below hbw) Hk.out hs hp (hB.below hbw) hI hat).mono ?_
  rintro e w2 ⟨rfl, hb3⟩
  have hR2 := hR1.below hb3 hR1.lt
  have hbw2 := hbw.trans (hb3.mono hbw.size)
  have d0 : w2.cell? ⟨w.heap.size + 1, 0, none⟩ = some (.int .i64 0) := hR2.cell 0
  have d1 : w2.cell? ⟨w.heap.size + 1, 1, none⟩ = some (.string ⟨#[]⟩) := hR2.cell 1
  have e0 : w2.frozen? ⟨w.heap.size + 1, 0, none⟩ = false := hR2.frozen 0
  have e1 : w2.frozen? ⟨w.heap.size + 1, 1, none⟩ = false := hR2.frozen 1
  have hlt2 := hR2.lt
  clear hI hat hm x0 x1 x2 x3 x4
  go_wp2
  have hR3 := (hR2.put 0 (.int .i64 9)).put 1 (.string ⟨#[]⟩)
  have q0 := hR3.cell 0
  have q1 := hR3.cell 1
  exact bodyPost_ret (v := replyV 9 ⟨#[]⟩) (by simp at q0 q1; simp [results, Tryz.results104, go_sem, q0, q1]) rfl ⟨rfl, below_stored hbw2 (by omega) _ _⟩

set_option maxRecDepth 100000 in
theorem do_drop (r rv ri n c : Nat) (q : Int) (V I : Dat) (s : ByteArray) (w : World) (hm : HasMax w) (hk : keyOk s = true) (hs : s.size ≤ 1000000) (hp : Plainname s) (hB : BoxAt w r rv ri q n V I) (hV : Maps.has V (keyL s) = false) (hI : Maps.has I (keyL s) = true) (hat : I.atKey (keyL s) .nil = .lit (.int .u64 c)) :
    Calls Tryz.prog 104 #[groundV r, cmdV 6 ⟨#[]⟩ s ⟨#[]⟩ ⟨#[]⟩] w fun e w' => e = .returned (replyV 0 ⟨#[]⟩) ∧ DropPost r rv ri n q V (I.del (keyL s)) w (.returned (.int .i64 0)) w' := by
  have Hk := veil hk
  clear hk
  have hms := meth_Seq r
  go_enter Tryz.func104, Tryz.ntmps104
  go_wp2_with fail
  refine (names_empty _).mono ?_
  rintro e w' ⟨rfl, rfl⟩
  go_wp2_with fail
  have hb2 := below2 w (.cells #[.int .i64 6, .string ⟨#[]⟩, .string s, .string ⟨#[]⟩, .string ⟨#[]⟩] 68) (.cells #[.int .i64 0, .string ⟨#[]⟩] 42)
  have hR := reply_made w #[.int .i64 6, .string ⟨#[]⟩, .string s, .string ⟨#[]⟩, .string ⟨#[]⟩]
  have hC := cmd_made w [.int .i64 6, .string ⟨#[]⟩, .string s, .string ⟨#[]⟩, .string ⟨#[]⟩] (.cells #[.int .i64 0, .string ⟨#[]⟩] 42)
  obtain ⟨l1, l2, l3⟩ := hB.lts
  refine (seq_ok r r ⟨#[]⟩ q rv ri n V I _ (.inl ⟨rfl, rfl⟩) (hm.below hb2) (hB.below hb2)).mono ?_
  rintro e w1 ⟨rfl, hb⟩
  have hbw := hb2.trans (hb.mono hb2.size)
  have hR1 := hR.below hb hR.lt
  have hC1 := hC.below hb hC.lt
  have x0 : w1.cell? ⟨w.heap.size, 0, none⟩ = some (.int .i64 6) := hC1.cell 0
  have x1 : w1.cell? ⟨w.heap.size, 1, none⟩ = some (.string ⟨#[]⟩) := hC1.cell 1
  have x2 : w1.cell? ⟨w.heap.size, 2, none⟩ = some (.string s) := hC1.cell 2
  have x3 : w1.cell? ⟨w.heap.size, 3, none⟩ = some (.string ⟨#[]⟩) := hC1.cell 3
  have x4 : w1.cell? ⟨w.heap.size, 4, none⟩ = some (.string ⟨#[]⟩) := hC1.cell 4
  have hlt1 := hR1.lt
  go_wp2_with fail
  refine (within_drop r rv ri n c q V I s _ (hm.below hbw) Hk.out hs hp (hB.below hbw) hV hI hat).mono ?_
  rintro e w2 ⟨rfl, hpost⟩
  have hR2 := hR1.kept hpost.2.2 (by omega)
  have Hfin := veil (hpost.stored (B := w.heap.size + 1) hbw hB (by omega) (.int .i64 0) (.string ⟨#[]⟩))
  have d0 : w2.cell? ⟨w.heap.size + 1, 0, none⟩ = some (.int .i64 0) := hR2.cell 0
  have d1 : w2.cell? ⟨w.heap.size + 1, 1, none⟩ = some (.string ⟨#[]⟩) := hR2.cell 1
  have e0 : w2.frozen? ⟨w.heap.size + 1, 0, none⟩ = false := hR2.frozen 0
  have e1 : w2.frozen? ⟨w.heap.size + 1, 1, none⟩ = false := hR2.frozen 1
  have hlt2 := hR2.lt
  clear hI hV hat hm hpost x0 x1 x2 x3 x4
  go_wp2
  have hR3 := (hR2.put 0 (.int .i64 0)).put 1 (.string ⟨#[]⟩)
  have q0 := hR3.cell 0
  have q1 := hR3.cell 1
  exact bodyPost_ret (v := replyV 0 ⟨#[]⟩) (by simp at q0 q1; simp [results, Tryz.results104, go_sem, q0, q1]) rfl ⟨rfl, Hfin.out⟩

set_option maxRecDepth 100000 in
/-- Next at the path of a box within the root. -/
theorem do_next (r c bv bi n : Nat) (q : Int) (V I : Dat) (p : ByteArray) (w : World) (hg0 : Glob w) (hok : namesOk p = true) (hnames : pathNames p = [p]) (hne : p.toList.isEmpty = false) (hps : p.size ≤ 32) (hL : Leads w r p c) (hB : BoxAt w c bv bi q n V I) (HGA : 0 ≠ c) (HGB : 1 ≠ c) (h0 : 0 ≤ q) (h1 : q ≤ 1000000) :
    Calls Tryz.prog 104 #[groundV r, cmdV 7 p ⟨#[]⟩ ⟨#[]⟩ ⟨#[]⟩] w fun e w' => e = .returned (replyV 0 (digS (q + 1))) ∧ NextPost c bv bi n q V I w (.returned (.tuple #[.int .i64 (q + 1), .int .i64 0])) w' := by
  have Hok := veil hok
  have Hnames := veil hnames
  clear hok hnames
  have hms := meth_Seq r
  have hmn := meth_Next r
  have hm := hg0.1
  have hb2 := below2 w (.cells #[.int .i64 7, .string p, .string ⟨#[]⟩, .string ⟨#[]⟩, .string ⟨#[]⟩] 68) (.cells #[.int .i64 0, .string ⟨#[]⟩] 42)
  have hR := reply_made w #[.int .i64 7, .string p, .string ⟨#[]⟩, .string ⟨#[]⟩, .string ⟨#[]⟩]
  have hC := cmd_made w [.int .i64 7, .string p, .string ⟨#[]⟩, .string ⟨#[]⟩, .string ⟨#[]⟩] (.cells #[.int .i64 0, .string ⟨#[]⟩] 42)
  obtain ⟨l1, l2, l3⟩ := hB.lts
  go_enter Tryz.func104, Tryz.ntmps104
  go_wp2_with fail
  refine (names_any p _ hne (by omega) (hm.below hb2)).mono ?_
  rintro e w0 ⟨hb0, ⟨_, g, hg, rfl, _⟩ | ⟨hno, _⟩⟩
  rotate_left
  · rw [Hok.out] at hno; cases hno
  have hl1 : (pathNames p).length = 1 := by rw [Hnames.out]; rfl
  rw [hl1]
  have hbw0 := hb2.trans (hb0.mono hb2.size)
  have hR0 := hR.below hb0 hR.lt
  have hC0 := hC.below hb0 hC.lt
  have x0 : w0.cell? ⟨w.heap.size, 0, none⟩ = some (.int .i64 7) := hC0.cell 0
  have x1 : w0.cell? ⟨w.heap.size, 1, none⟩ = some (.string p) := hC0.cell 1
  have hlt0 := hR0.lt
  clear hg hl1
  go_wp2_with fail
  refine (seq_ok r c p q bv bi n V I _ (hL.below hbw0) (hm.below hbw0) (hB.below hbw0)).mono ?_
  rintro e w1 ⟨rfl, hb⟩
  have hbw := hbw0.trans (hb.mono hbw0.size)
  have hR1 := hR0.below hb hR0.lt
  have hC1 := hC0.below hb hC0.lt
  have y0 : w1.cell? ⟨w.heap.size, 0, none⟩ = some (.int .i64 7) := hC1.cell 0
  have y1 : w1.cell? ⟨w.heap.size, 1, none⟩ = some (.string p) := hC1.cell 1
  have hlt1 := hR1.lt
  clear x0 x1
  go_wp2_with fail
  refine (next_ok r c p q bv bi n V I _ (hL.below hbw) (hm.below hbw) (hB.below hbw) h0 h1).mono ?_
  rintro e w2 ⟨rfl, hB2, hk2⟩
  have hR2 := hR1.kept hk2 (by omega)
  have hlt2 := hR2.lt
  have hgl := hg0.lt
  have hG2 : Glob w2 := (hg0.below hbw).kept hk2 HGA HGB
  clear y0 y1
  go_wp2_with fail
  refine (digits_any (q + 1) _ (by omega) (by omega) hG2).mono ?_
  rintro e w3 ⟨rfl, hb3⟩
  have hR3' := hR2.below hb3 hR2.lt
  have hpost : NextPost c bv bi n q V I w (.returned (.tuple #[.int .i64 (q + 1), .int .i64 0])) w3 :=
    ⟨rfl, hB2.below hb3, (keeps_then hbw hk2).trans (Keeps.below (S := fun k => k = c) hb3 (fun k hk hk' => absurd hk (by omega))) (fun k _ hk => hk)⟩
  have Hfin := veil (hpost.stored (B := w.heap.size + 1) (Below.refl _ _) hB (by omega) (.int .i64 0) (.string (digS (q + 1))))
  have d0 : w3.cell? ⟨w.heap.size + 1, 0, none⟩ = some (.int .i64 0) := hR3'.cell 0
  have d1 : w3.cell? ⟨w.heap.size + 1, 1, none⟩ = some (.string ⟨#[]⟩) := hR3'.cell 1
  have e0 : w3.frozen? ⟨w.heap.size + 1, 0, none⟩ = false := hR3'.frozen 0
  have e1 : w3.frozen? ⟨w.heap.size + 1, 1, none⟩ = false := hR3'.frozen 1
  have hlt2 := hR3'.lt
  clear hpost hms hmn hm
  go_wp2
  have hR3 := (hR3'.put 0 (.int .i64 0)).put 1 (.string (digS (q + 1)))
  have q0 := hR3.cell 0
  have q1 := hR3.cell 1
  exact bodyPost_ret (v := replyV 0 (digS (q + 1))) (by simp at q0 q1; simp [results, Tryz.results104, go_sem, q0, q1]) rfl ⟨rfl, Hfin.out⟩

set_option maxRecDepth 100000 in
/-- .. at a path that leads nowhere. -/
theorem do_next_none (r : Nat) (p : ByteArray) (w : World) (hm : HasMax w) (hok : namesOk p = true) (hnames : pathNames p = [p]) (hne : p.toList.isEmpty = false) (hps : p.size ≤ 32) (hL : Leadsnot w r p) :
    Calls Tryz.prog 104 #[groundV r, cmdV 7 p ⟨#[]⟩ ⟨#[]⟩ ⟨#[]⟩] w fun e w' => e = .returned (replyV 8 ⟨#[]⟩) ∧ Below w.heap.size w w' := by
  have Hok := veil hok
  have Hnames := veil hnames
  clear hok hnames
  have hms := meth_Seq r
  have hb2 := below2 w (.cells #[.int .i64 7, .string p, .string ⟨#[]⟩, .string ⟨#[]⟩, .string ⟨#[]⟩] 68) (.cells #[.int .i64 0, .string ⟨#[]⟩] 42)
  have hR := reply_made w #[.int .i64 7, .string p, .string ⟨#[]⟩, .string ⟨#[]⟩, .string ⟨#[]⟩]
  have hC := cmd_made w [.int .i64 7, .string p, .string ⟨#[]⟩, .string ⟨#[]⟩, .string ⟨#[]⟩] (.cells #[.int .i64 0, .string ⟨#[]⟩] 42)
  go_enter Tryz.func104, Tryz.ntmps104
  go_wp2_with fail
  refine (names_any p _ hne (by omega) (hm.below hb2)).mono ?_
  rintro e w0 ⟨hb0, ⟨_, g, hg, rfl, _⟩ | ⟨hno, _⟩⟩
  rotate_left
  · rw [Hok.out] at hno; cases hno
  have hl1 : (pathNames p).length = 1 := by rw [Hnames.out]; rfl
  rw [hl1]
  have hbw0 := hb2.trans (hb0.mono hb2.size)
  have hR0 := hR.below hb0 hR.lt
  have hC0 := hC.below hb0 hC.lt
  have x0 : w0.cell? ⟨w.heap.size, 0, none⟩ = some (.int .i64 7) := hC0.cell 0
  have x1 : w0.cell? ⟨w.heap.size, 1, none⟩ = some (.string p) := hC0.cell 1
  have hlt0 := hR0.lt
  clear hg hl1
  go_wp2_with fail
  refine (seq_none r p _ (hL.below hbw0) (hm.below hbw0)).mono ?_
  rintro e w1 ⟨rfl, hb⟩
  have hbw := hbw0.trans (hb.mono hbw0.size)
  have hR1 := hR0.below hb hR0.lt
  have d0 : w1.cell? ⟨w.heap.size + 1, 0, none⟩ = some (.int .i64 0) := hR1.cell 0
  have d1 : w1.cell? ⟨w.heap.size + 1, 1, none⟩ = some (.string ⟨#[]⟩) := hR1.cell 1
  have e0 : w1.frozen? ⟨w.heap.size + 1, 0, none⟩ = false := hR1.frozen 0
  have e1 : w1.frozen? ⟨w.heap.size + 1, 1, none⟩ = false := hR1.frozen 1
  have hlt2 := hR1.lt
  clear x0 x1 hm hms
  go_wp2
  have hR3 := (hR1.put 0 (.int .i64 8)).put 1 (.string ⟨#[]⟩)
  have q0 := hR3.cell 0
  have q1 := hR3.cell 1
  exact bodyPost_ret (v := replyV 8 ⟨#[]⟩) (by simp at q0 q1; simp [results, Tryz.results104, go_sem, q0, q1]) rfl ⟨rfl, below_stored hbw (by omega) _ _⟩

set_option maxRecDepth 100000 in
/-- .. at the root. -/
theorem do_next_root (r : Nat) (w : World) :
    Calls Tryz.prog 104 #[groundV r, cmdV 7 ⟨#[]⟩ ⟨#[]⟩ ⟨#[]⟩ ⟨#[]⟩] w fun e w' => e = .returned (replyV 1 ⟨#[]⟩) ∧ Below w.heap.size w w' := by
  go_enter Tryz.func104, Tryz.ntmps104
  go_wp2_with fail
  refine (names_empty _).mono ?_
  rintro e w' ⟨rfl, rfl⟩
  go_wp2
  exact bodyPost_ret (v := replyV 1 ⟨#[]⟩) (by simp [results, Tryz.results104, go_sem]) rfl ⟨rfl, below2 w _ _⟩
end Go.Proofs.YtjonmggkmalgaaaGreatDoor

/-
  cmd.do at the kinds Make, Drop, Next.
-/
import Derived.Test.YtjonmggkmalgaaaGreatDoorW11Do
namespace Go.Proofs.YtjonmggkmalgaaaGreatDoor
open Go.RowKit Go.Maps Go.WideMaps Go.WideElems

theorem Leadsnot.below {w w' : World} {r : Nat} {p : ByteArray} (h : Leadsnot w r p) (hb : Below w.heap.size w w') : Leadsnot w' r p := by
  obtain ⟨h1, h2, h3, bv, bi, seq, n, V, I, hB, h4⟩ := h
  exact ⟨h1, h2, h3, bv, bi, seq, n, V, I, hB.below hb, h4⟩

/-- The boxed command, with the reply's block laid behind it. -/
theorem cmd_made (w : World) (l : List Value) (o : Obj) : Lies ((w.alloc (.cells l.toArray 68)).alloc o) w.heap.size 68 l := (Lies.made w 68 l).alloc o

set_option maxRecDepth 100000 in
theorem do_make (r rv ri n : Nat) (q : Int) (V I : Dat) (s : ByteArray) (w : World) (hm : HasMax w) (hk : keyOk s = true) (hs : s.size ≤ 1000000) (hp : Plainname s) (hB : BoxAt w r rv ri q n V I) (hn : n ≤ 1000000) (hI : Maps.has I (keyL s) = false) (hV : Maps.has V (keyL s) = false) :
    Calls Tryz.prog 104 #[groundV r, cmdV 5 ⟨#[]⟩ s ⟨#[]⟩ ⟨#[]⟩] w fun e w' => e = .returned (replyV 0 ⟨#[]⟩) ∧ MakePost r rv ri n q V I s w (.returned (.int .i64 0)) w' := by
  have Hk := veil hk
  clear hk
  have hms := meth_Seq r
  go_enter Tryz.func104, Tryz.ntmps104
  go_wp2_with fail
  refine (names_empty _).mono ?_
  rintro e w' ⟨rfl, rfl⟩
  go_wp2_with fail
  have hb2 := below2 w (.cells #[.int .i64 5, .string ⟨#[]⟩, .string s, .string ⟨#[]⟩, .string ⟨#[]⟩] 68) (.cells #[.int .i64 0, .string ⟨#[]⟩] 42)
  have hR := reply_made w #[.int .i64 5, .string ⟨#[]⟩, .string s, .string ⟨#[]⟩, .string ⟨#[]⟩]
  have hC := cmd_made w [.int .i64 5, .string ⟨#[]⟩, .string s, .string ⟨#[]⟩, .string ⟨#[]⟩] (.cells #[.int .i64 0, .string ⟨#[]⟩] 42)
  obtain ⟨l1, l2, l3⟩ := hB.lts
  refine (seq_ok r r ⟨#[]⟩ q rv ri n V I _ (.inl ⟨rfl, rfl⟩) (hm.below hb2) (hB.below hb2)).mono ?_
  rintro e w1 ⟨rfl, hb⟩
  have hbw := hb2.trans (hb.mono hb2.size)
  have hR1 := hR.below hb hR.lt
  have hC1 := hC.below hb hC.lt
  have x0 : w1.cell? ⟨w.heap.size, 0, none⟩ = some (.int .i64 5) := hC1.cell 0
  have x1 : w1.cell? ⟨w.heap.size, 1, none⟩ = some (.string ⟨#[]⟩) := hC1.cell 1
  have x2 : w1.cell? ⟨w.heap.size, 2, none⟩ = some (.string s) := hC1.cell 2
  have x3 : w1.cell? ⟨w.heap.size, 3, none⟩ = some (.string ⟨#[]⟩) := hC1.cell 3
  have x4 : w1.cell? ⟨w.heap.size, 4, none⟩ = some (.string ⟨#[]⟩) := hC1.cell 4
  have hlt1 := hR1.lt
  go_wp2_with fail
  refine (within_make r rv ri n q V I s _ (hm.below hbw) Hk.out hs hp (hB.below hbw) hn hI hV).mono ?_
  rintro e w2 ⟨rfl, hpost⟩
  have hk2 := hpost.2.choose_spec.choose_spec.choose_spec.2.2.2.2.2
  have hR2 := hR1.kept hk2 (by omega)
  have d0 : w2.cell? ⟨w.heap.size + 1, 0, none⟩ = some (.int .i64 0) := hR2.cell 0
  have d1 : w2.cell? ⟨w.heap.size + 1, 1, none⟩ = some (.string ⟨#[]⟩) := hR2.cell 1
  have e0 : w2.frozen? ⟨w.heap.size + 1, 0, none⟩ = false := hR2.frozen 0
  have e1 : w2.frozen? ⟨w.heap.size + 1, 1, none⟩ = false := hR2.frozen 1
  have hlt2 := hR2.lt
  have hfin := hpost.stored (B := w.heap.size + 1) hbw hB (by omega) hlt1 (.int .i64 0) (.string ⟨#[]⟩)
  have Hfin := veil hfin
  clear hI hV hm hpost hfin hk2 x0 x1 x2 x3 x4
  go_wp2
  have hR3 := (hR2.put 0 (.int .i64 0)).put 1 (.string ⟨#[]⟩)
  have q0 := hR3.cell 0
  have q1 := hR3.cell 1
  exact bodyPost_ret (v := replyV 0 ⟨#[]⟩) (by simp at q0 q1; simp [results, Tryz.results104, go_sem, q0, q1]) rfl ⟨rfl, Hfin.out⟩
end Go.Proofs.YtjonmggkmalgaaaGreatDoor

/-
  cmd.within and cmd.do at the kinds Make, Drop, Next: what a command comes to, and what has turned.
-/
import Derived.Test.YtjonmggkmalgaaaGreatDoorW10Make
namespace Go.Proofs.YtjonmggkmalgaaaGreatDoor
open Go.RowKit Go.Maps Go.WideMaps Go.WideElems

abbrev groundV (r : Nat) : Value := .iface 127 (plainV r)
abbrev cmdV (kind : Int) (p k v o : ByteArray) : Value := .agg #[.int .i64 kind, .string p, .string k, .string v, .string o]
abbrev replyV (e : Int) (v : ByteArray) : Value := .agg #[.int .i64 e, .string v]

theorem meth_Make (r : Nat) (w : World) : (method 335 127 (plainV r) "Make").run Tryz.prog w = .ok (204, plainV r) w := by kernel_rfl
theorem meth_Drop (r : Nat) (w : World) : (method 335 127 (plainV r) "Drop").run Tryz.prog w = .ok (202, plainV r) w := by kernel_rfl
theorem meth_Next (r : Nat) (w : World) : (method 335 127 (plainV r) "Next").run Tryz.prog w = .ok (205, plainV r) w := by kernel_rfl
theorem meth_Seq (r : Nat) (w : World) : (method 335 127 (plainV r) "Seq").run Tryz.prog w = .ok (207, plainV r) w := by kernel_rfl
theorem meth_Get (r : Nat) (w : World) : (method 335 127 (plainV r) "Get").run Tryz.prog w = .ok (203, plainV r) w := by kernel_rfl
theorem meth_Put (r : Nat) (w : World) : (method 335 127 (plainV r) "Put").run Tryz.prog w = .ok (206, plainV r) w := by kernel_rfl
theorem meth_Delete (r : Nat) (w : World) : (method 335 127 (plainV r) "Delete").run Tryz.prog w = .ok (201, plainV r) w := by kernel_rfl

theorem plain_index (s : ByteArray) (h : Plainname s) : decide (0 ≤ Lib.indexByte s.data.toList 47) = false := by
  have hall : ∀ l : List UInt8, (∀ c ∈ l, c ≠ 47) → Lib.indexByte l 47 = -1 := by
    intro l
    induction l with
    | nil => intro _; rfl
    | cons c l ih =>
      intro hl
      unfold Lib.indexByte
      have h1 : (c == 47) = false := beq_eq_false_iff_ne.2 (hl c (List.mem_cons_self ..))
      rw [h1, ih (fun c hc => hl c (List.mem_cons_of_mem _ hc))]
      decide
  rw [hall s.data.toList (fun c hc => ?_)]
  · decide
  · obtain ⟨i, hi, rfl⟩ := List.getElem_of_mem hc
    exact h i (by simpa using hi)

theorem below2 (w : World) (a b : Obj) : Below w.heap.size w ((w.alloc a).alloc b) := ((Below.refl _ _).alloc (Nat.le_refl _) _).alloc (by simp) _
theorem BoxAt.far {w : World} {b bv bi n : Nat} {q : Int} {V I : Dat} (h : BoxAt w b bv bi q n V I) {p : Addr} (h1 : b ≠ p.block) (h2 : bv ≠ p.block) (h3 : bi ≠ p.block) (u : Value) : BoxAt (w.setCell p u) b bv bi q n V I :=
  h.kept (S := fun k => k = p.block) (Keeps.setCell (S := fun k => k = p.block) (Keeps.rfl' _ _) (.inr rfl) u) h1 h2 h3
theorem BoxAt.lts {w : World} {b bv bi n : Nat} {q : Int} {V I : Dat} (h : BoxAt w b bv bi q n V I) : b < w.heap.size ∧ bv < w.heap.size ∧ bi < w.heap.size := ⟨h.lies.lt, h.vals.lt, h.ins.lt⟩

set_option maxRecDepth 100000 in
theorem within_make (r rv ri n : Nat) (q : Int) (V I : Dat) (s : ByteArray) (w : World) (hm : HasMax w) (hk : keyOk s = true) (hs : s.size ≤ 1000000) (hp : Plainname s) (hB : BoxAt w r rv ri q n V I) (hn : n ≤ 1000000) (hI : Maps.has I (keyL s) = false) (hV : Maps.has V (keyL s) = false) :
    Calls Tryz.prog 132 #[groundV r, cmdV 5 ⟨#[]⟩ s ⟨#[]⟩ ⟨#[]⟩] w fun e w' => e = .returned (replyV 0 ⟨#[]⟩) ∧ MakePost r rv ri n q V I s w (.returned (.int .i64 0)) w' := by
  have Hk := veil hk
  have Hix := veil (plain_index s hp)
  clear hk
  have hme := meth_Make r
  go_enter Tryz.func132, Tryz.ntmps132
  go_wp2_with fail
  refine (key_yes s _ Hk.out).mono ?_
  rintro e w' ⟨rfl, rfl⟩
  go_wp2_with fail
  refine (Tryz.strings_Contains_one s 47 _).mono ?_
  rintro e w' ⟨rfl, rfl⟩
  rw [Hix.out]
  go_wp2_with fail
  have hb2 := below2 w (.cells #[.int .i64 5, .string ⟨#[]⟩, .string s, .string ⟨#[]⟩, .string ⟨#[]⟩] 68) (.cells #[.int .i64 0, .string ⟨#[]⟩] 42)
  have hR : Lies ((w.alloc (.cells #[.int .i64 5, .string ⟨#[]⟩, .string s, .string ⟨#[]⟩, .string ⟨#[]⟩] 68)).alloc (.cells #[.int .i64 0, .string ⟨#[]⟩] 42)) (w.heap.size + 1) 42 [.int .i64 0, .string ⟨#[]⟩] := by
    have := Lies.made (w.alloc (.cells #[.int .i64 5, .string ⟨#[]⟩, .string s, .string ⟨#[]⟩, .string ⟨#[]⟩] 68)) 42 [.int .i64 0, .string ⟨#[]⟩]
    simpa using this
  obtain ⟨l1, l2, l3⟩ := hB.lts
  refine (make_ok r rv ri n q V I s _ (hm.below hb2) hs hp (hB.below hb2) hn hI hV).mono ?_
  rintro e w1 ⟨rfl, c, cv, ci, g1, g2, g3, hB1, hE, hk1⟩
  have hz1 : w.heap.size + 2 ≤ c ∧ w.heap.size + 2 ≤ cv ∧ w.heap.size + 2 ≤ ci := by simp at g1 g2 g3; omega
  have hR1 := hR.kept hk1 (by omega)
  have d0 : w1.cell? ⟨w.heap.size + 1, 0, none⟩ = some (.int .i64 0) := hR1.cell 0
  have d1 : w1.cell? ⟨w.heap.size + 1, 1, none⟩ = some (.string ⟨#[]⟩) := hR1.cell 1
  have e0 : w1.frozen? ⟨w.heap.size + 1, 0, none⟩ = false := hR1.frozen 0
  have e1 : w1.frozen? ⟨w.heap.size + 1, 1, none⟩ = false := hR1.frozen 1
  have hlt1 := hR1.lt
  clear hI hV g1 g2 g3 hm
  go_wp2
  have hR2 := (hR1.put 0 (.int .i64 0)).put 1 (.string ⟨#[]⟩)
  have q0 := hR2.cell 0
  have q1 := hR2.cell 1
  have hk2 : Keeps (fun k => k = ri) w ((w1.setCell ⟨w.heap.size + 1, 0, none⟩ (.int .i64 0)).setCell ⟨w.heap.size + 1, 1, none⟩ (.string ⟨#[]⟩)) :=
    ((keeps_then hb2 hk1).setCell (p := ⟨w.heap.size + 1, 0, none⟩) (.inl (by simp)) _).setCell (p := ⟨w.heap.size + 1, 1, none⟩) (.inl (by simp)) _
  refine bodyPost_ret (v := replyV 0 ⟨#[]⟩) (by simp at q0 q1; simp [results, Tryz.results132, go_sem, q0, q1]) rfl ⟨rfl, rfl, c, cv, ci, by omega, by omega, by omega, ?_, ?_, hk2⟩
  · exact (hB1.far (by simp; omega) (by simp; omega) (by simp; omega) _).far (by simp; omega) (by simp; omega) (by simp; omega) _
  · exact (hE.far (by simp; omega) (by simp; omega) (by simp; omega) _).far (by simp; omega) (by simp; omega) (by simp; omega) _

/-! ### what has turned, seen from an earlier world, and behind the store of a reply into a block of the call's own -/
section
variable {w W w1 : World} {r rv ri n : Nat} {q : Int} {V I : Dat} {s : ByteArray} {e : Ending} {B : Nat}
theorem MakePost.stored (h : MakePost r rv ri n q V I s W e w1) (hb : Below w.heap.size w W) (hB : BoxAt w r rv ri q n V I) (h1 : w.heap.size ≤ B) (h2 : B < W.heap.size) (u v : Value) :
    MakePost r rv ri n q V I s w e ((w1.setCell ⟨B, 0, none⟩ u).setCell ⟨B, 1, none⟩ v) := by
  obtain ⟨rfl, c, cv, ci, g1, g2, g3, hB1, hE, hk1⟩ := h
  obtain ⟨l1, l2, l3⟩ := hB.lts
  have hz := hb.size
  refine ⟨rfl, c, cv, ci, by omega, by omega, by omega, ?_, ?_, ((keeps_then hb hk1).setCell (p := ⟨B, 0, none⟩) (.inl h1) _).setCell (p := ⟨B, 1, none⟩) (.inl h1) _⟩
  · exact (hB1.far (by simp; omega) (by simp; omega) (by simp; omega) _).far (by simp; omega) (by simp; omega) (by simp; omega) _
  · exact (hE.far (by simp; omega) (by simp; omega) (by simp; omega) _).far (by simp; omega) (by simp; omega) (by simp; omega) _
theorem DropPost.stored {I' : Dat} (h : DropPost r rv ri n q V I' W e w1) (hb : Below w.heap.size w W) (hB : BoxAt w r rv ri q n V I) (h1 : w.heap.size ≤ B) (u v : Value) :
    DropPost r rv ri n q V I' w e ((w1.setCell ⟨B, 0, none⟩ u).setCell ⟨B, 1, none⟩ v) := by
  obtain ⟨rfl, hB1, hk1⟩ := h
  obtain ⟨l1, l2, l3⟩ := hB.lts
  refine ⟨rfl, (hB1.far (by simp; omega) (by simp; omega) (by simp; omega) _).far (by simp; omega) (by simp; omega) (by simp; omega) _, ((keeps_then hb hk1).setCell (p := ⟨B, 0, none⟩) (.inl h1) _).setCell (p := ⟨B, 1, none⟩) (.inl h1) _⟩
theorem ValsPost.stored {V' : Dat} {m : Nat} (h : ValsPost r rv ri m q V' I W e w1) (hb : Below w.heap.size w W) (hB : BoxAt w r rv ri q n V I) (h1 : w.heap.size ≤ B) (u v : Value) :
    ValsPost r rv ri m q V' I w e ((w1.setCell ⟨B, 0, none⟩ u).setCell ⟨B, 1, none⟩ v) := by
  obtain ⟨rfl, hB1, hk1⟩ := h
  obtain ⟨l1, l2, l3⟩ := hB.lts
  refine ⟨rfl, (hB1.far (by simp; omega) (by simp; omega) (by simp; omega) _).far (by simp; omega) (by simp; omega) (by simp; omega) _, ((keeps_then hb hk1).setCell (p := ⟨B, 0, none⟩) (.inl h1) _).setCell (p := ⟨B, 1, none⟩) (.inl h1) _⟩
theorem NextPost.stored (h : NextPost r rv ri n q V I W e w1) (hb : Below w.heap.size w W) (hB : BoxAt w r rv ri q n V I) (h1 : w.heap.size ≤ B) (u v : Value) :
    NextPost r rv ri n q V I w e ((w1.setCell ⟨B, 0, none⟩ u).setCell ⟨B, 1, none⟩ v) := by
  obtain ⟨rfl, hB1, hk1⟩ := h
  obtain ⟨l1, l2, l3⟩ := hB.lts
  refine ⟨rfl, (hB1.far (by simp; omega) (by simp; omega) (by simp; omega) _).far (by simp; omega) (by simp; omega) (by simp; omega) _, ((keeps_then hb hk1).setCell (p := ⟨B, 0, none⟩) (.inl h1) _).setCell (p := ⟨B, 1, none⟩) (.inl h1) _⟩
theorem below_stored (hb : Below w.heap.size w w1) (h1 : w.heap.size ≤ B) (u v : Value) : Below w.heap.size w ((w1.setCell ⟨B, 0, none⟩ u).setCell ⟨B, 1, none⟩ v) :=
  (hb.setCell (p := ⟨B, 0, none⟩) h1 _).setCell (p := ⟨B, 1, none⟩) h1 _
end
/-- A reply's block, laid behind the boxed command. -/
theorem reply_made (w : World) (cs : Array Value) : Lies ((w.alloc (.cells cs 68)).alloc (.cells #[.int .i64 0, .string ⟨#[]⟩] 42)) (w.heap.size + 1) 42 [.int .i64 0, .string ⟨#[]⟩] := by
  have := Lies.made (w.alloc (.cells cs 68)) 42 [.int .i64 0, .string ⟨#[]⟩]
  simpa using this

set_option maxRecDepth 100000 in
theorem within_dup (r rv ri n c : Nat) (q : Int) (V I : Dat) (s : ByteArray) (w : World) (hm : HasMax w) (hk : keyOk s = true) (hs : s.size ≤ 1000000) (hp : Plainname s) (hB : BoxAt w r rv ri q n V I) (hI : Maps.has I (keyL s) = true) (hat : I.atKey (keyL s) .nil = .lit (.int .u64 c)) :
    Calls Tryz.prog 132 #[groundV r, cmdV 5 ⟨#[]⟩ s ⟨#[]⟩ ⟨#[]⟩] w fun e w' => e = .returned (replyV 9 ⟨#[]⟩) ∧ Below w.heap.size w w' := by
  have Hk := veil hk
  have Hix := veil (plain_index s hp)
  clear hk
  have hme := meth_Make r
  go_enter Tryz.func132, Tryz.ntmps132
  go_wp2_with fail
  refine (key_yes s _ Hk.out).mono ?_
  rintro e w' ⟨rfl, rfl⟩
  go_wp2_with fail
  refine (Tryz.strings_Contains_one s 47 _).mono ?_
  rintro e w' ⟨rfl, rfl⟩
  rw [Hix.out]
  go_wp2_with fail
  have hb2 := below2 w (.cells #[.int .i64 5, .string ⟨#[]⟩, .string s, .string ⟨#[]⟩, .string ⟨#[]⟩] 68) (.cells #[.int .i64 0, .string ⟨#[]⟩] 42)
  have hR := reply_made w #[.int .i64 5, .string ⟨#[]⟩, .string s, .string ⟨#[]⟩, .string ⟨#[]⟩]
  refine (make_dup r rv ri n c q V I s _ (hm.below hb2) hs hp (hB.below hb2) hI hat).mono ?_
  rintro e w1 ⟨rfl, hb⟩
  have hbw := hb2.trans (hb.mono hb2.size)
  have hR1 := hR.below hb hR.lt
  have d0 : w1.cell? ⟨w.heap.size + 1, 0, none⟩ = some (.int .i64 0) := hR1.cell 0
  have d1 : w1.cell? ⟨w.heap.size + 1, 1, none⟩ = some (.string ⟨#[]⟩) := hR1.cell 1
  have e0 : w1.frozen? ⟨w.heap.size + 1, 0, none⟩ = false := hR1.frozen 0
  have e1 : w1.frozen? ⟨w.heap.size + 1, 1, none⟩ = false := hR1.frozen 1
  have hlt1 := hR1.lt
  clear hI hat hm
  go_wp2
  have hR2 := (hR1.put 0 (.int .i64 9)).put 1 (.string ⟨#[]⟩)
  have q0 := hR2.cell 0
  have q1 := hR2.cell 1
  exact bodyPost_ret (v := replyV 9 ⟨#[]⟩) (by simp at q0 q1; simp [results, Tryz.results132, go_sem, q0, q1]) rfl ⟨rfl, below_stored hbw (by omega) _ _⟩

set_option maxRecDepth 100000 in
theorem within_drop (r rv ri n c : Nat) (q : Int) (V I : Dat) (s : ByteArray) (w : World) (hm : HasMax w) (hk : keyOk s = true) (hs : s.size ≤ 1000000) (hp : Plainname s) (hB : BoxAt w r rv ri q n V I) (hV : Maps.has V (keyL s) = false) (hI : Maps.has I (keyL s) = true) (hat : I.atKey (keyL s) .nil = .lit (.int .u64 c)) :
    Calls Tryz.prog 132 #[groundV r, cmdV 6 ⟨#[]⟩ s ⟨#[]⟩ ⟨#[]⟩] w fun e w' => e = .returned (replyV 0 ⟨#[]⟩) ∧ DropPost r rv ri n q V (I.del (keyL s)) w (.returned (.int .i64 0)) w' := by
  have Hk := veil hk
  have Hix := veil (plain_index s hp)
  clear hk
  have hme := meth_Drop r
  go_enter Tryz.func132, Tryz.ntmps132
  go_wp2_with fail
  refine (key_yes s _ Hk.out).mono ?_
  rintro e w' ⟨rfl, rfl⟩
  go_wp2_with fail
  refine (Tryz.strings_Contains_one s 47 _).mono ?_
  rintro e w' ⟨rfl, rfl⟩
  rw [Hix.out]
  go_wp2_with fail
  have hb2 := below2 w (.cells #[.int .i64 6, .string ⟨#[]⟩, .string s, .string ⟨#[]⟩, .string ⟨#[]⟩] 68) (.cells #[.int .i64 0, .string ⟨#[]⟩] 42)
  have hR := reply_made w #[.int .i64 6, .string ⟨#[]⟩, .string s, .string ⟨#[]⟩, .string ⟨#[]⟩]
  obtain ⟨l1, l2, l3⟩ := hB.lts
  refine (drop_ok r rv ri n c q V I s _ (hm.below hb2) hs hp (hB.below hb2) hV hI hat).mono ?_
  rintro e w1 ⟨rfl, hB1, hk1⟩
  have hR1 := hR.kept hk1 (by omega)
  have d0 : w1.cell? ⟨w.heap.size + 1, 0, none⟩ = some (.int .i64 0) := hR1.cell 0
  have d1 : w1.cell? ⟨w.heap.size + 1, 1, none⟩ = some (.string ⟨#[]⟩) := hR1.cell 1
  have e0 : w1.frozen? ⟨w.heap.size + 1, 0, none⟩ = false := hR1.frozen 0
  have e1 : w1.frozen? ⟨w.heap.size + 1, 1, none⟩ = false := hR1.frozen 1
  have hlt1 := hR1.lt
  clear hI hat hm hV
  go_wp2
  have hR2 := (hR1.put 0 (.int .i64 0)).put 1 (.string ⟨#[]⟩)
  have q0 := hR2.cell 0
  have q1 := hR2.cell 1
  exact bodyPost_ret (v := replyV 0 ⟨#[]⟩) (by simp at q0 q1; simp [results, Tryz.results132, go_sem, q0, q1]) rfl ⟨rfl, DropPost.stored ⟨rfl, hB1, hk1⟩ hb2 hB (by omega) _ _⟩
end Go.Proofs.YtjonmggkmalgaaaGreatDoor

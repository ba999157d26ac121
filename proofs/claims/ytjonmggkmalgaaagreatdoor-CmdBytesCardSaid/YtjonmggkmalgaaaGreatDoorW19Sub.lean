/-
  cmd.do at the root at the kinds Add and Swap, by what add and swap come to. (Printed by gen_sub.py.)
-/
import Derived.Test.YtjonmggkmalgaaaGreatDoorW18Add
namespace Go.Proofs.YtjonmggkmalgaaaGreatDoor
open Go.RowKit Go.Maps Go.WideMaps Go.WideElems

/-- What a function that does a command comes to, in later worlds; blocks that the call has made ahead of it stay. -/
def SubIs (f r : Nat) (kind : Int) (p k v o : ByteArray) (x : Int) (val : ByteArray) (T : World → World → Prop) (w : World) : Prop :=
  ∀ W, Below w.heap.size w W → Calls Tryz.prog f #[groundV r, cmdV kind p k v o] W fun e w' => e = .returned (replyV x val) ∧ T W w' ∧ ∀ B t cs, w.heap.size ≤ B → Lies W B t cs → Lies w' B t cs

set_option maxHeartbeats 1000000 in
set_option maxRecDepth 100000 in
theorem do_add (r rv ri n : Nat) (q : Int) (V I : Dat) (s v o : ByteArray) (x : Int) (val : ByteArray) (T : World → World → Prop) (w : World) (hm : HasMax w) (hB : BoxAt w r rv ri q n V I) (hk : keyOk s = true) (hsub : SubIs 135 r 3 ⟨#[]⟩ s v o x val T w) :
    Calls Tryz.prog 104 #[groundV r, cmdV 3 ⟨#[]⟩ s v o] w (DoPost x val T w) := by
  have Hk := veil hk
  have Hsub := veil hsub
  clear hk hsub
  have hms := meth_Seq r
  have hb2 := below2 w (.cells #[.int .i64 3, .string ⟨#[]⟩, .string s, .string v, .string o] 68) (.cells #[.int .i64 0, .string ⟨#[]⟩] 42)
  have hR := reply_made w #[.int .i64 3, .string ⟨#[]⟩, .string s, .string v, .string o]
  have hC := cmd_made w [.int .i64 3, .string ⟨#[]⟩, .string s, .string v, .string o] (.cells #[.int .i64 0, .string ⟨#[]⟩] 42)
  go_enter Tryz.func104, Tryz.ntmps104
  go_wp2_with fail
  refine (names_empty _).mono ?_
  rintro e w' ⟨rfl, rfl⟩
  go_wp2_with fail
  refine (seq_ok r r ⟨#[]⟩ q rv ri n V I _ (.inl ⟨rfl, rfl⟩) (hm.below hb2) (hB.below hb2)).mono ?_
  rintro e w1 ⟨rfl, hb⟩
  have hbw := hb2.trans (hb.mono hb2.size)
  have hR1 := hR.below hb hR.lt
  have hC1 := hC.below hb hC.lt
  have x0 : w1.cell? ⟨w.heap.size, 0, none⟩ = some (.int .i64 3) := hC1.cell 0
  have x1 : w1.cell? ⟨w.heap.size, 1, none⟩ = some (.string ⟨#[]⟩) := hC1.cell 1
  have x2 : w1.cell? ⟨w.heap.size, 2, none⟩ = some (.string s) := hC1.cell 2
  have x3 : w1.cell? ⟨w.heap.size, 3, none⟩ = some (.string v) := hC1.cell 3
  have x4 : w1.cell? ⟨w.heap.size, 4, none⟩ = some (.string o) := hC1.cell 4
  have hlt1 := hR1.lt
  go_wp2_with fail
  refine (key_yes s _ Hk.out).mono ?_
  rintro e w' ⟨rfl, rfl⟩
  go_wp2_with fail
  refine (Hsub.out _ hbw).mono ?_
  rintro e w2 ⟨rfl, hT, hkeep⟩
  have hR2 := hkeep _ _ _ (by omega) hR1
  have d0 : w2.cell? ⟨w.heap.size + 1, 0, none⟩ = some (.int .i64 0) := hR2.cell 0
  have d1 : w2.cell? ⟨w.heap.size + 1, 1, none⟩ = some (.string ⟨#[]⟩) := hR2.cell 1
  have e0 : w2.frozen? ⟨w.heap.size + 1, 0, none⟩ = false := hR2.frozen 0
  have e1 : w2.frozen? ⟨w.heap.size + 1, 1, none⟩ = false := hR2.frozen 1
  have hlt2 := hR2.lt
  have Hfin : Hid (∃ W w1' B, Below w.heap.size w W ∧ w.heap.size ≤ B ∧ B < W.heap.size ∧ T W w1' ∧ (w2.setCell ⟨w.heap.size + 1, 0, none⟩ (.int .i64 x)).setCell ⟨w.heap.size + 1, 1, none⟩ (.string val) = (w1'.setCell ⟨B, 0, none⟩ (.int .i64 x)).setCell ⟨B, 1, none⟩ (.string val)) :=
    veil ⟨_, w2, w.heap.size + 1, hbw, by omega, hlt1, hT, rfl⟩
  clear hm hT hkeep x0 x1 x2 x3 x4
  go_wp2
  have hR3 := (hR2.put 0 (.int .i64 x)).put 1 (.string val)
  have q0 := hR3.cell 0
  have q1 := hR3.cell 1
  exact bodyPost_ret (v := replyV x val) (by simp at q0 q1; simp [results, Tryz.results104, go_sem, q0, q1]) rfl ⟨rfl, Hfin.out⟩

set_option maxHeartbeats 1000000 in
set_option maxRecDepth 100000 in
theorem do_swap (r rv ri n : Nat) (q : Int) (V I : Dat) (s v o : ByteArray) (x : Int) (val : ByteArray) (T : World → World → Prop) (w : World) (hm : HasMax w) (hB : BoxAt w r rv ri q n V I) (hk : keyOk s = true) (hsub : SubIs 136 r 4 ⟨#[]⟩ s v o x val T w) :
    Calls Tryz.prog 104 #[groundV r, cmdV 4 ⟨#[]⟩ s v o] w (DoPost x val T w) := by
  have Hk := veil hk
  have Hsub := veil hsub
  clear hk hsub
  have hms := meth_Seq r
  have hb2 := below2 w (.cells #[.int .i64 4, .string ⟨#[]⟩, .string s, .string v, .string o] 68) (.cells #[.int .i64 0, .string ⟨#[]⟩] 42)
  have hR := reply_made w #[.int .i64 4, .string ⟨#[]⟩, .string s, .string v, .string o]
  have hC := cmd_made w [.int .i64 4, .string ⟨#[]⟩, .string s, .string v, .string o] (.cells #[.int .i64 0, .string ⟨#[]⟩] 42)
  go_enter Tryz.func104, Tryz.ntmps104
  go_wp2_with fail
  refine (names_empty _).mono ?_
  rintro e w' ⟨rfl, rfl⟩
  go_wp2_with fail
  refine (seq_ok r r ⟨#[]⟩ q rv ri n V I _ (.inl ⟨rfl, rfl⟩) (hm.below hb2) (hB.below hb2)).mono ?_
  rintro e w1 ⟨rfl, hb⟩
  have hbw := hb2.trans (hb.mono hb2.size)
  have hR1 := hR.below hb hR.lt
  have hC1 := hC.below hb hC.lt
  have x0 : w1.cell? ⟨w.heap.size, 0, none⟩ = some (.int .i64 4) := hC1.cell 0
  have x1 : w1.cell? ⟨w.heap.size, 1, none⟩ = some (.string ⟨#[]⟩) := hC1.cell 1
  have x2 : w1.cell? ⟨w.heap.size, 2, none⟩ = some (.string s) := hC1.cell 2
  have x3 : w1.cell? ⟨w.heap.size, 3, none⟩ = some (.string v) := hC1.cell 3
  have x4 : w1.cell? ⟨w.heap.size, 4, none⟩ = some (.string o) := hC1.cell 4
  have hlt1 := hR1.lt
  go_wp2_with fail
  refine (key_yes s _ Hk.out).mono ?_
  rintro e w' ⟨rfl, rfl⟩
  go_wp2_with fail
  refine (Hsub.out _ hbw).mono ?_
  rintro e w2 ⟨rfl, hT, hkeep⟩
  have hR2 := hkeep _ _ _ (by omega) hR1
  have d0 : w2.cell? ⟨w.heap.size + 1, 0, none⟩ = some (.int .i64 0) := hR2.cell 0
  have d1 : w2.cell? ⟨w.heap.size + 1, 1, none⟩ = some (.string ⟨#[]⟩) := hR2.cell 1
  have e0 : w2.frozen? ⟨w.heap.size + 1, 0, none⟩ = false := hR2.frozen 0
  have e1 : w2.frozen? ⟨w.heap.size + 1, 1, none⟩ = false := hR2.frozen 1
  have hlt2 := hR2.lt
  have Hfin : Hid (∃ W w1' B, Below w.heap.size w W ∧ w.heap.size ≤ B ∧ B < W.heap.size ∧ T W w1' ∧ (w2.setCell ⟨w.heap.size + 1, 0, none⟩ (.int .i64 x)).setCell ⟨w.heap.size + 1, 1, none⟩ (.string val) = (w1'.setCell ⟨B, 0, none⟩ (.int .i64 x)).setCell ⟨B, 1, none⟩ (.string val)) :=
    veil ⟨_, w2, w.heap.size + 1, hbw, by omega, hlt1, hT, rfl⟩
  clear hm hT hkeep x0 x1 x2 x3 x4
  go_wp2
  have hR3 := (hR2.put 0 (.int .i64 x)).put 1 (.string val)
  have q0 := hR3.cell 0
  have q1 := hR3.cell 1
  exact bodyPost_ret (v := replyV x val) (by simp at q0 q1; simp [results, Tryz.results104, go_sem, q0, q1]) rfl ⟨rfl, Hfin.out⟩
end Go.Proofs.YtjonmggkmalgaaaGreatDoor

/-
  The law CmdNexts: what its loop keeps. Two boxes within the root, each with its own sequence; the law's own two numbers.
-/
import Derived.Test.YtjonmggkmalgaaaDoorW26Nexts
namespace Go.Proofs.YtjonmggkmalgaaaDoor
open Go.RowKit Go.Maps Go.WideMaps Go.WideElems Go.Lib

/-- The boxes within the root. -/
def two (a b : ByteArray) (ca cb : Nat) : Dat := ((DataW.map []).put (keyL a) (.lit (.int .u64 ca))).put (keyL b) (.lit (.int .u64 cb))
section
variable {a b : ByteArray} {ca cb : Nat}
theorem is_map1 (a : ByteArray) (d : Dat) : Maps.IsMap ((DataW.map [] : Dat).put (keyL a) d) := by obtain ⟨es, h, _⟩ := tidy0.put (keyL_is a) d; exact ⟨es, h⟩
theorem one_has (d : Dat) : Maps.has ((DataW.map [] : Dat).put (keyL a) d) (keyL a) = true := has_put_same is_map0 (keyL_is _) _
theorem one_hasnot (h : b ≠ a) (d : Dat) : Maps.has ((DataW.map [] : Dat).put (keyL a) d) (keyL b) = false := by rw [has_put_other (keyL_ne h)]; rfl
theorem two_has_a (h : a ≠ b) : Maps.has (two a b ca cb) (keyL a) = true := by unfold two; rw [has_put_other (keyL_ne h)]; exact one_has _
theorem two_has_b : Maps.has (two a b ca cb) (keyL b) = true := has_put_same (is_map1 _ _) (keyL_is _) _
theorem two_at_a (h : a ≠ b) (z : Dat) : (two a b ca cb).atKey (keyL a) z = .lit (.int .u64 ca) := by unfold two; rw [atKey_put_other (keyL_ne h)]; exact atKey_put_same is_map0 (keyL_is _) _ _
theorem two_at_b (z : Dat) : (two a b ca cb).atKey (keyL b) z = .lit (.int .u64 cb) := atKey_put_same (is_map1 _ _) (keyL_is _) _ _
theorem two_tidy : Maps.Tidy (two a b ca cb) := (tidy0.put (keyL_is _) _).put (keyL_is _) _
end

/-- Two boxes c and d (of one of the two names each), their sequences x and y, told by the numbers at g and h. -/
structure Nx (w0 w : World) (st r rv ri : Nat) (I : Dat) (c cv ci d dv di g h : Nat) (x y : Int) : Prop where
  below : Below w0.heap.size w0 w
  at_ : StAt w st r
  root : BoxAt w r rv ri 0 2 (.map []) I
  one : BoxAt w c cv ci x 0 (.map []) (.map [])
  other : BoxAt w d dv di y 0 (.map []) (.map [])
  num : Lies w g 3 [.int .i64 x]
  num' : Lies w h 3 [.int .i64 y]
  new1 : w0.heap.size ≤ rv
  new2 : w0.heap.size ≤ ri
  new3 : w0.heap.size ≤ c
  new4 : w0.heap.size ≤ d
  new5 : w0.heap.size ≤ g
  new6 : w0.heap.size ≤ h
  ne1 : r ≠ c
  ne2 : r ≠ d
  ne3 : c ≠ d
  ne4 : g ≠ h

section
variable {w0 w w' : World} {st r rv ri c cv ci d dv di g h : Nat} {I : Dat} {x y : Int}
theorem Nx.flip (H : Nx w0 w st r rv ri I c cv ci d dv di g h x y) : Nx w0 w st r rv ri I d dv di c cv ci h g y x :=
  ⟨H.below, H.at_, H.root, H.other, H.one, H.num', H.num, H.new1, H.new2, H.new4, H.new3, H.new6, H.new5, H.ne2, H.ne1, H.ne3.symm, H.ne4.symm⟩
theorem Nx.kept (H : Nx w0 w st r rv ri I c cv ci d dv di g h x y) (hb : Below w.heap.size w w') : Nx w0 w' st r rv ri I c cv ci d dv di g h x y :=
  ⟨H.below.trans (hb.mono H.below.size), H.at_.below hb H.at_.lt, H.root.below hb, H.one.below hb, H.other.below hb, H.num.below hb H.num.lt, H.num'.below hb H.num'.lt, H.new1, H.new2, H.new3, H.new4, H.new5, H.new6, H.ne1, H.ne2, H.ne3, H.ne4⟩
/-- '*k++', then the state's Next (and Digits ahead of it or behind it). -/
theorem Nx.step {w1 w2 w3 : World} (H : Nx w0 w st r rv ri I c cv ci d dv di g h x y) (hb : Below (w.setCell ⟨g, 0, none⟩ (.int .i64 (x + 1))).heap.size (w.setCell ⟨g, 0, none⟩ (.int .i64 (x + 1))) w1)
    (hn : NextPost c cv ci 0 x (.map []) (.map []) w1 (.returned (.tuple #[.int .i64 (x + 1), .int .i64 0])) w2) (hb3 : Below w2.heap.size w2 w3) : Nx w0 w3 st r rv ri I c cv ci d dv di g h (x + 1) y := by
  obtain ⟨_, hB, hk⟩ := hn
  have hs : (w.setCell ⟨g, 0, none⟩ (.int .i64 (x + 1))).heap.size = w.heap.size := by simp [World.setCell]
  have hsc : Keeps (fun k => k = g) w (w.setCell ⟨g, 0, none⟩ (.int .i64 (x + 1))) := Keeps.setCell (S := fun k => k = g) (p := ⟨g, 0, none⟩) (Keeps.rfl' _ _) (.inr rfl) _
  have n1 : st ≠ g := H.at_.ne_of_type H.num (by decide)
  have n2 : r ≠ g := H.root.lies.ne_of_type H.num (by decide)
  have n5 : d ≠ g := H.other.lies.ne_of_type H.num (by decide)
  have n3 : rv ≠ g := fun e => lies_ne_map H.num H.root.vals e.symm
  have n4 : ri ≠ g := fun e => lies_ne_map H.num H.root.ins e.symm
  have n6 : dv ≠ g := fun e => lies_ne_map H.num H.other.vals e.symm
  have n7 : di ≠ g := fun e => lies_ne_map H.num H.other.ins e.symm
  have m1 : st ≠ c := H.at_.ne_of_type H.one.lies (by decide)
  have m3 : rv ≠ c := fun e => lies_ne_map H.one.lies H.root.vals e.symm
  have m4 : ri ≠ c := fun e => lies_ne_map H.one.lies H.root.ins e.symm
  have m6 : dv ≠ c := fun e => lies_ne_map H.one.lies H.other.vals e.symm
  have m7 : di ≠ c := fun e => lies_ne_map H.one.lies H.other.ins e.symm
  have m8 : g ≠ c := H.num.ne_of_type H.one.lies (by decide)
  have m9 : h ≠ c := H.num'.ne_of_type H.one.lies (by decide)
  have hz0 := H.below.size
  have hn5 := H.new5
  have hn3 := H.new3
  have b1 : Below w0.heap.size w0 w1 := (H.below.trans (hsc.toBelow hz0 (fun j hj => by omega))).trans (hb.mono (by omega))
  have hz1 := b1.size
  have b2 : Below w0.heap.size w0 w2 := b1.trans (hk.toBelow hz1 (fun j hj => by omega))
  have hz2 := b2.size
  have b3 : Below w0.heap.size w0 w3 := b2.trans (hb3.mono hz2)
  have at1 := (H.at_.kept hsc n1)
  have num1 := H.num.put 0 (.int .i64 (x + 1))
  have num1' := H.num'.kept hsc (fun e => H.ne4 e.symm)
  have root1 := H.root.kept hsc n2 n3 n4
  have oth1 := H.other.kept hsc n5 n6 n7
  have at2 := (at1.below hb at1.lt).kept hk m1
  have num2 := (num1.below hb num1.lt).kept hk m8
  have num2' := (num1'.below hb num1'.lt).kept hk m9
  have root2 := (root1.below hb).kept hk H.ne1 m3 m4
  have oth2 := (oth1.below hb).kept hk (fun e => H.ne3 e.symm) m6 m7
  exact ⟨b3, at2.below hb3 at2.lt, root2.below hb3, hB.below hb3, oth2.below hb3, num2.below hb3 num2.lt, num2'.below hb3 num2'.lt, H.new1, H.new2, H.new3, H.new4, H.new5, H.new6, H.ne1, H.ne2, H.ne3, H.ne4⟩
end

theorem field_err (x : Int) (v : ByteArray) (w : World) : (Instr.field 28 (replyV x v) 0).run Tryd.prog w = .ok (.int .i64 x) w := by kernel_rfl

/-- Which of the slice's cells hold which answers. -/
def Bools (w : World) (x : Option Addr) (n : Nat) (f : Nat → Bool) : Prop := ∀ i, i < n → ∃ b off, x = some ⟨b, off, none⟩ ∧ w.cell? ⟨b, off + i, none⟩ = some (.bool (f i))
end Go.Proofs.YtjonmggkmalgaaaDoor

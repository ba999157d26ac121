/-
  The law CmdCounts at inputs that it does not look at: one of the guard's tests holds. (Printed by gen_counts.py.)
-/
import Derived.Test.YtjonmggkmalgaaaDoorW25Facts
import Derived.Test.YtjonmggkmalgaaaDoorW32State
namespace Go.Proofs.YtjonmggkmalgaaaDoor
open Go.RowKit Go.Maps Go.WideMaps Go.WideElems Go.Lib


set_option maxRecDepth 100000 in
theorem counts_short0 (a : ByteArray) (x : Option Addr) (n cap : Nat) (w : World) (hg : Glob w)  (h : (a.size : Int) < 1) :
    Calls Tryd.prog 3 #[.string a, .slice x n cap] w (LivePost w) := by
  go_enter Tryd.func3, Tryd.ntmps3
  go_wp2_with fail
  refine (alive_ok _ hg).mono ?_
  rintro e w1 ⟨rfl, hb⟩
  go_wp2
  go_ret
  exact ⟨rfl, hb⟩

set_option maxRecDepth 100000 in
theorem counts_short1 (a : ByteArray) (x : Option Addr) (n cap : Nat) (w : World) (hg : Glob w) (ha1 : ¬ ((a.size : Int) < 1)) (h : (32 : Int) < a.size) :
    Calls Tryd.prog 3 #[.string a, .slice x n cap] w (LivePost w) := by
  go_enter Tryd.func3, Tryd.ntmps3
  go_wp2_with fail
  refine (alive_ok _ hg).mono ?_
  rintro e w1 ⟨rfl, hb⟩
  go_wp2
  go_ret
  exact ⟨rfl, hb⟩

set_option maxRecDepth 100000 in
theorem counts_short2 (a : ByteArray) (x : Option Addr) (n cap : Nat) (w : World) (hg : Glob w) (ha1 : ¬ ((a.size : Int) < 1)) (ha2 : ¬ ((32 : Int) < a.size)) (h : ((a[0]'(by omega)).toNat : Int) = 0) :
    Calls Tryd.prog 3 #[.string a, .slice x n cap] w (LivePost w) := by
  have z1 : (0 : Int) < a.size := by omega
  go_enter Tryd.func3, Tryd.ntmps3
  go_wp2_with fail
  refine (alive_ok _ hg).mono ?_
  rintro e w1 ⟨rfl, hb⟩
  go_wp2
  go_ret
  exact ⟨rfl, hb⟩

set_option maxRecDepth 100000 in
theorem counts_short3 (a : ByteArray) (x : Option Addr) (n cap : Nat) (w : World) (hg : Glob w) (ha1 : ¬ ((a.size : Int) < 1)) (ha2 : ¬ ((32 : Int) < a.size)) (ha0 : ((a[0]'(by omega)).toNat : Int) ≠ 0) (h : (40 : Int) < (n : Int)) :
    Calls Tryd.prog 3 #[.string a, .slice x n cap] w (LivePost w) := by
  have z1 : (0 : Int) < a.size := by omega
  have ha0 : (((a[0]'(by omega)).toNat : Int) == 0) = false := by rw [beq_eq_false_iff_ne]; exact ha0
  go_enter Tryd.func3, Tryd.ntmps3
  go_wp2_with fail
  refine (alive_ok _ hg).mono ?_
  rintro e w1 ⟨rfl, hb⟩
  go_wp2
  go_ret
  exact ⟨rfl, hb⟩

/-- Which of the slice's cells hold which numbers. -/
def Ints (w : World) (x : Option Addr) (n : Nat) (f : Nat → Int) : Prop := ∀ i, i < n → ∃ b off, x = some ⟨b, off, none⟩ ∧ w.cell? ⟨b, off + i, none⟩ = some (.int .i64 (f i)) ∧ -9223372036854775808 ≤ f i ∧ f i ≤ 9223372036854775807
end Go.Proofs.YtjonmggkmalgaaaDoor

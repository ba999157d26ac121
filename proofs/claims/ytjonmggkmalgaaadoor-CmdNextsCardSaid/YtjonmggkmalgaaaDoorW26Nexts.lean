/-
  The law CmdNexts at inputs that it does not look at: one of the guard's tests holds. (Printed by gen_nexts.py.)
-/
import Derived.Test.YtjonmggkmalgaaaDoorW25Facts
namespace Go.Proofs.YtjonmggkmalgaaaDoor
open Go.RowKit Go.Maps Go.WideMaps Go.WideElems Go.Lib


set_option maxRecDepth 100000 in
theorem nexts_short0 (a b : ByteArray) (x : Option Addr) (n cap : Nat) (w : World) (hg : Glob w)  (h : (a.size : Int) < 1) :
    Calls Tryd.prog 4 #[.string a, .string b, .slice x n cap] w (LivePost w) := by
  go_enter Tryd.func4, Tryd.ntmps4
  go_wp2_with fail
  refine (alive_ok _ hg).mono ?_
  rintro e w1 ⟨rfl, hb⟩
  go_wp2
  go_ret
  exact ⟨rfl, hb⟩

set_option maxRecDepth 100000 in
theorem nexts_short1 (a b : ByteArray) (x : Option Addr) (n cap : Nat) (w : World) (hg : Glob w) (ha1 : ¬ ((a.size : Int) < 1)) (h : (b.size : Int) < 1) :
    Calls Tryd.prog 4 #[.string a, .string b, .slice x n cap] w (LivePost w) := by
  go_enter Tryd.func4, Tryd.ntmps4
  go_wp2_with fail
  refine (alive_ok _ hg).mono ?_
  rintro e w1 ⟨rfl, hb⟩
  go_wp2
  go_ret
  exact ⟨rfl, hb⟩

set_option maxRecDepth 100000 in
theorem nexts_short2 (a b : ByteArray) (x : Option Addr) (n cap : Nat) (w : World) (hg : Glob w) (ha1 : ¬ ((a.size : Int) < 1)) (hb1 : ¬ ((b.size : Int) < 1)) (h : (32 : Int) < a.size) :
    Calls Tryd.prog 4 #[.string a, .string b, .slice x n cap] w (LivePost w) := by
  go_enter Tryd.func4, Tryd.ntmps4
  go_wp2_with fail
  refine (alive_ok _ hg).mono ?_
  rintro e w1 ⟨rfl, hb⟩
  go_wp2
  go_ret
  exact ⟨rfl, hb⟩

set_option maxRecDepth 100000 in
theorem nexts_short3 (a b : ByteArray) (x : Option Addr) (n cap : Nat) (w : World) (hg : Glob w) (ha1 : ¬ ((a.size : Int) < 1)) (hb1 : ¬ ((b.size : Int) < 1)) (ha2 : ¬ ((32 : Int) < a.size)) (h : (32 : Int) < b.size) :
    Calls Tryd.prog 4 #[.string a, .string b, .slice x n cap] w (LivePost w) := by
  go_enter Tryd.func4, Tryd.ntmps4
  go_wp2_with fail
  refine (alive_ok _ hg).mono ?_
  rintro e w1 ⟨rfl, hb⟩
  go_wp2
  go_ret
  exact ⟨rfl, hb⟩

set_option maxRecDepth 100000 in
theorem nexts_short4 (a : ByteArray) (x : Option Addr) (n cap : Nat) (w : World) (hg : Glob w) (ha1 : ¬ ((a.size : Int) < 1)) (ha2 : ¬ ((32 : Int) < a.size))  :
    Calls Tryd.prog 4 #[.string a, .string a, .slice x n cap] w (LivePost w) := by
  go_enter Tryd.func4, Tryd.ntmps4
  go_wp2_with fail
  refine (alive_ok _ hg).mono ?_
  rintro e w1 ⟨rfl, hb⟩
  go_wp2
  go_ret
  exact ⟨rfl, hb⟩

set_option maxRecDepth 100000 in
theorem nexts_short5 (a b : ByteArray) (x : Option Addr) (n cap : Nat) (w : World) (hg : Glob w) (ha1 : ¬ ((a.size : Int) < 1)) (hb1 : ¬ ((b.size : Int) < 1)) (ha2 : ¬ ((32 : Int) < a.size)) (hb2 : ¬ ((32 : Int) < b.size)) (hab : (a.toList == b.toList) = false) (h : ((a[0]'(by omega)).toNat : Int) = 0) :
    Calls Tryd.prog 4 #[.string a, .string b, .slice x n cap] w (LivePost w) := by
  have z1 : (0 : Int) < a.size := by omega
  have z2 : (0 : Int) < b.size := by omega
  go_enter Tryd.func4, Tryd.ntmps4
  go_wp2_with fail
  refine (alive_ok _ hg).mono ?_
  rintro e w1 ⟨rfl, hb⟩
  go_wp2
  go_ret
  exact ⟨rfl, hb⟩

set_option maxRecDepth 100000 in
theorem nexts_short6 (a b : ByteArray) (x : Option Addr) (n cap : Nat) (w : World) (hg : Glob w) (ha1 : ¬ ((a.size : Int) < 1)) (hb1 : ¬ ((b.size : Int) < 1)) (ha2 : ¬ ((32 : Int) < a.size)) (hb2 : ¬ ((32 : Int) < b.size)) (hab : (a.toList == b.toList) = false) (ha0 : ((a[0]'(by omega)).toNat : Int) ≠ 0) (h : ((b[0]'(by omega)).toNat : Int) = 0) :
    Calls Tryd.prog 4 #[.string a, .string b, .slice x n cap] w (LivePost w) := by
  have z1 : (0 : Int) < a.size := by omega
  have z2 : (0 : Int) < b.size := by omega
  have ha0 : (((a[0]'(by omega)).toNat : Int) == 0) = false := by rw [beq_eq_false_iff_ne]; exact ha0
  go_enter Tryd.func4, Tryd.ntmps4
  go_wp2_with fail
  refine (alive_ok _ hg).mono ?_
  rintro e w1 ⟨rfl, hb⟩
  go_wp2
  go_ret
  exact ⟨rfl, hb⟩

set_option maxRecDepth 100000 in
theorem nexts_short7 (a b : ByteArray) (x : Option Addr) (n cap : Nat) (w : World) (hg : Glob w) (ha1 : ¬ ((a.size : Int) < 1)) (hb1 : ¬ ((b.size : Int) < 1)) (ha2 : ¬ ((32 : Int) < a.size)) (hb2 : ¬ ((32 : Int) < b.size)) (hab : (a.toList == b.toList) = false) (ha0 : ((a[0]'(by omega)).toNat : Int) ≠ 0) (hb0 : ((b[0]'(by omega)).toNat : Int) ≠ 0) (h : (60 : Int) < (n : Int)) :
    Calls Tryd.prog 4 #[.string a, .string b, .slice x n cap] w (LivePost w) := by
  have z1 : (0 : Int) < a.size := by omega
  have z2 : (0 : Int) < b.size := by omega
  have ha0 : (((a[0]'(by omega)).toNat : Int) == 0) = false := by rw [beq_eq_false_iff_ne]; exact ha0
  have hb0 : (((b[0]'(by omega)).toNat : Int) == 0) = false := by rw [beq_eq_false_iff_ne]; exact hb0
  go_enter Tryd.func4, Tryd.ntmps4
  go_wp2_with fail
  refine (alive_ok _ hg).mono ?_
  rintro e w1 ⟨rfl, hb⟩
  go_wp2
  go_ret
  exact ⟨rfl, hb⟩

end Go.Proofs.YtjonmggkmalgaaaDoor

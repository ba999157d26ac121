/-
  pack.Put: Half, Text, Raw, End, over low and fail: bytes that fit are laid, one behind the other.
-/
import Derived.Test.YtjonmggkmalgaaaGreatDoorW02Pack
import Derived.Deep.DeepFit
namespace Go.Proofs.YtjonmggkmalgaaaGreatDoor
open Go.RowKit

theorem small_ok (b : Nat) (xs : List UInt8) (v n : Nat) (w : World) (h : PutAt w b xs 0) (hn1 : 1 ≤ n) (hn : n ≤ 4) (hv : v < 256 ^ n) (hx : xs.length ≤ 1000000000) :
    Calls Tryz.prog 107 #[.pointer (some ⟨b, 0, none⟩), .int .i64 v, .int .i64 n] w (PutsPost b w (xs ++ lowBytes v n)) := by
  have e1 : IntKind.i64.wrap (8 * (n : Int)) = 8 * (n : Int) := IntWalk.i64_in _ (by omega)
  have e2 : 0 ≤ 8 * (n : Int) := by omega
  have e3 : 8 * (n : Int) ≤ 64 := by omega
  have hv4 : v < 4294967296 := by
    refine Nat.lt_of_lt_of_le hv ?_
    have : 256 ^ n ≤ 256 ^ 4 := Nat.pow_le_pow_right (by omega) hn
    simpa using this
  have hz : (v : Int) / 2 ^ (8 * (n : Int)).toNat = 0 := by
    have e : (8 * (n : Int)).toNat = 8 * n := by omega
    rw [e, show (2 : Int) ^ (8 * n) = ((256 ^ n : Nat) : Int) by rw [Int.pow_mul, Int.natCast_pow]; rfl]
    exact Int.ediv_eq_zero_of_lt (by omega) (by omega)
  have hneg : decide ((v : Int) < 0) = false := by simp
  have hu : IntKind.u64.wrap (v : Int) = v := by rw [IntKind.wrap_u64]; omega
  go_enter Tryz.func107, Tryz.ntmps107
  go_wp2_with fail
  refine (fail_ok b xs 1 _ h).mono ?_
  rintro e w' ⟨rfl, rfl⟩
  go_wp2_with fail
  refine (low_calls b xs v n _ h (by omega) hx).mono ?_
  rintro e w' ⟨rfl, h1, hs⟩
  go_wp2
  go_ret
  exact ⟨rfl, h1, hs⟩

theorem half_ok (b : Nat) (xs : List UInt8) (v : Nat) (w : World) (h : PutAt w b xs 0) (hv : v < 65536) (hx : xs.length ≤ 1000000000) :
    Calls Tryz.prog 64 #[.pointer (some ⟨b, 0, none⟩), .int .i64 v] w (PutsPost b w (xs ++ lowBytes v 2)) := by
  go_enter Tryz.func64, Tryz.ntmps64
  go_wp2_with fail
  refine (small_ok b xs v 2 _ h (by omega) (by omega) (by simpa using hv) hx).mono ?_
  rintro e w' ⟨rfl, h1, hs⟩
  go_wp2
  go_ret
  exact ⟨rfl, h1, hs⟩

theorem strCells_bytes (s : ByteArray) : Lib.strCells s = bytesV s.data.toList := rfl

set_option maxRecDepth 100000 in
theorem raw_ok (b : Nat) (xs : List UInt8) (s : ByteArray) (w : World) (h : PutAt w b xs 0) (hs : s.size ≤ 1000000000) (hx : xs.length ≤ 1000000000) :
    Calls Tryz.prog 35 #[.pointer (some ⟨b, 0, none⟩), .string s] w (PutsPost b w (xs ++ s.data.toList)) := by
  obtain ⟨i0, hi, hz0, hz1, hz2⟩ := info_parts infoU8
  have hcopy := h
  obtain ⟨sv, hl, hown⟩ := hcopy
  have c0 : w.cell? ⟨b, 0, none⟩ = some sv := hl.cell 0
  have hne : sv.ownBlock ≠ some b := own_lies_ne hown hl (by decide)
  have hlt := hl.lt
  go_enter Tryz.func35, Tryz.ntmps35
  go_wp2_with fail
  refine (fail_ok b xs 0 _ h).mono ?_
  rintro e w' ⟨rfl, rfl⟩
  go_wp2_with (at_builtin; refine Lib.wpList_append_own_string _ rfl _ _ 76 9 rfl (b + 1) 5 i0 Tryz.underlying76 Tryz.underlying9 hi hz0 hz1 hz2 _ _ _ rfl hown s rfl ?c3 ?c4 ?c5 ?_)
  case c3 => unfold maxLen; omega
  case c4 => omega
  case c5 => omega
  intro v' w2 hown' hgrow _
  have l1 := hl.grown hgrow (fun e => hne e.symm)
  have c1 : w2.cell? ⟨b, 0, none⟩ = some sv := l1.cell 0
  have f1 : w2.frozen? ⟨b, 0, none⟩ = false := l1.frozen 0
  obtain ⟨ao, n', cap, hv'⟩ : ∃ ao n' cap, v' = .slice ao n' cap := by
    rcases hown'.2 with ⟨e, _⟩ | ⟨g, cap, _, e, _⟩
    · exact ⟨_, _, _, e⟩
    · exact ⟨_, _, _, e⟩
  have hput := PutAt.stored (ys := xs ++ s.data.toList) l1 hown' (by rw [List.length_append, Array.length_toList]; rfl) (by rw [bytesV_append]; rfl)
  have hs2 := (Spares.grew (Spares.rfl' b w) hown hgrow).set_ 0 v'
  subst hv'
  clear hown' hgrow c0
  go_wp2
  go_ret
  exact ⟨rfl, hput, hs2⟩

/-- A text as pack lays it. -/
def textBytes (l : List UInt8) : List UInt8 := lowBytes l.length 2 ++ l

theorem text_ok (b : Nat) (xs : List UInt8) (s : ByteArray) (w : World) (h : PutAt w b xs 0) (hs : s.size ≤ 65535) (hx : xs.length ≤ 999999990) :
    Calls Tryz.prog 65 #[.pointer (some ⟨b, 0, none⟩), .string s] w (PutsPost b w (xs ++ textBytes s.data.toList)) := by
  have hgt : decide ((65535 : Int) < (s.size : Int)) = false := by simp; omega
  go_enter Tryz.func65, Tryz.ntmps65
  go_wp2_with fail
  refine (fail_ok b xs 2 _ h).mono ?_
  rintro e w' ⟨rfl, rfl⟩
  go_wp2_with fail
  refine (half_ok b xs s.size _ h (by omega) (by omega)).mono ?_
  rintro e w1 ⟨rfl, h1, hs1⟩
  go_wp2_with fail
  refine (raw_ok b _ s _ h1 (by omega) (by rw [List.length_append, lowBytes_length]; omega)).mono ?_
  rintro e w2 ⟨rfl, h2, hs2⟩
  go_wp2
  go_ret
  refine ⟨rfl, ?_, hs1.trans hs2⟩
  have e : xs ++ lowBytes s.size 2 ++ s.data.toList = xs ++ textBytes s.data.toList := by
    unfold textBytes
    rw [List.append_assoc]
    rfl
  rw [← e]
  exact h2

/-- The bytes that were laid, as a string. -/
def EndPost (xs : List UInt8) (w : World) (e : Ending) (w' : World) : Prop := e = .returned (.tuple #[.string ⟨xs.toArray⟩, .int .i64 0]) ∧ w = w'

theorem conv_own {base : Nat} {sv : Value} {xs : List UInt8} {w : World} (hown : w.ownsRow base 5 1 sv xs.length (bytesV xs)) :
    (convert 76 9 sv).run Tryz.prog w = .ok (.string ⟨xs.toArray⟩) w := by
  rcases hown.2 with ⟨rfl, h0⟩ | ⟨g, cap, cur, rfl, hb, hh, r⟩
  · have : xs = [] := List.eq_nil_of_length_eq_zero h0
    subst this
    have := run_convert_bytes_string (P := Tryz.prog) w 76 9 5 none 0 0 Tryz.underlying76 Tryz.underlying5 Tryz.underlying9
    rw [this]
    simp [Conv.bytesToString]
    rfl
  · refine run_convert_bytes_back w _ _ 5 ⟨g, 0, none⟩ cap xs Tryz.underlying76 Tryz.underlying5 Tryz.underlying9 (fun j hj => ?_)
    have := hown.cells (g := g) rfl j (.int .u8 (xs[j].toNat : Int)) (by simp [bytesV, hj])
    exact this

set_option maxRecDepth 100000 in
theorem end_ok (b : Nat) (xs : List UInt8) (w : World) (h : PutAt w b xs 0) :
    Calls Tryz.prog 36 #[.pointer (some ⟨b, 0, none⟩)] w (EndPost xs w) := by
  obtain ⟨sv, hl, hown⟩ := h
  have c0 : w.cell? ⟨b, 0, none⟩ = some sv := hl.cell 0
  have c1 : w.cell? ⟨b, 1, none⟩ = some (.int .i64 0) := hl.cell 1
  have hcv := conv_own hown
  go_enter Tryz.func36, Tryz.ntmps36
  go_wp2
  go_ret2
  exact ⟨rfl, rfl⟩
end Go.Proofs.YtjonmggkmalgaaaGreatDoor

/-
  The document's Digits: a number in decimal digits.
-/
import Derived.Test.YtjonmggkmalgaaaDoorW22State
namespace Go.Proofs.YtjonmggkmalgaaaDoor
open Go.RowKit Go.Maps Go.WideMaps Go.WideElems Go.Lib

theorem conv_one (w : World) (z : Int) : (convert 47 9 (.slice (some ⟨w.heap.size, 0, none⟩) 1 1)).run Tryd.prog (w.alloc (.cells #[.int .u8 z] 5)) = .ok (.string ⟨#[UInt8.ofNat z.toNat]⟩) (w.alloc (.cells #[.int .u8 z] 5)) := by
  rw [run_convert_bytes_string _ _ _ _ _ 1 1 Tryd.underlying47 Tryd.underlying5 Tryd.underlying9, run_bytesToString _ _ 1 1 [z] ?_]
  · rfl
  · refine run_loadCells_list _ _ [Value.int .u8 z] (fun j v hj => ?_)
    have := (Lies.made w 5 [.int .u8 z]).cell j
    rw [hj] at this
    have e : (⟨w.heap.size, 0, none⟩ : Addr).add j = ⟨w.heap.size, j, none⟩ := by unfold Addr.add; split <;> simp_all
    rw [e]; exact this

def lenOf : Value → Nat
  | .string b => b.size
  | _ => 0

/-- What the loop holds: x is still to be written ahead of suf. -/
def Writ (u0 x : Nat) (suf : List UInt8) : Prop := (0 < x ∧ decDigits u0 = decDigits x ++ suf) ∨ (x = 0 ∧ suf = [] ∧ u0 = 0) ∨ (x = 0 ∧ suf = decDigits u0)

theorem writ_step {u0 x : Nat} {suf : List UInt8} (h : Writ u0 x suf) (hg : 0 < x ∨ suf = []) : Writ u0 (x / 10) (UInt8.ofNat (48 + x % 10) :: suf) := by
  rcases h with ⟨hx, he⟩ | ⟨rfl, rfl, rfl⟩ | ⟨rfl, rfl⟩
  · rcases Nat.lt_or_ge x 10 with hl | hl
    · refine .inr (.inr ⟨Nat.div_eq_of_lt hl, ?_⟩)
      rw [he, dec_small hl, Nat.mod_eq_of_lt hl]; rfl
    · refine .inl ⟨Nat.div_pos hl (by decide), ?_⟩
      rw [he, dec_big (by omega), List.append_assoc]; rfl
  · refine .inr (.inr ⟨rfl, ?_⟩)
    rw [dec_small (by decide)]

  · exfalso
    rcases hg with hg | hg
    · omega
    · exact (dec_worth u0 u0 (Nat.le_refl _)).2.2 hg

theorem writ_end {u0 : Nat} {suf : List UInt8} (h : Writ u0 0 suf) (hne : suf ≠ []) : suf = decDigits u0 := by
  rcases h with ⟨hx, _⟩ | ⟨_, h, _⟩ | ⟨_, h⟩
  · omega
  · exact absurd h hne
  · exact h

theorem writ_length {u0 x : Nat} {suf : List UInt8} (h : Writ u0 x suf) (hu : u0 < 1000000000000000000) : suf.length ≤ 18 := by
  have hl := dec_length 17 u0 hu
  rcases h with ⟨_, h⟩ | ⟨_, rfl, _⟩ | ⟨_, rfl⟩
  · rw [h, List.length_append] at hl; omega
  · simp
  · omega

theorem strS_empty (l : List UInt8) : (strS l).toList.isEmpty = l.isEmpty := by
  rw [ByteArray.toList_eq]

theorem strS_cons (c : UInt8) (l : List UInt8) : (⟨#[c]⟩ : ByteArray) ++ strS l = strS (c :: l) := by
  apply bytes_ext
  rw [ByteArray.data_append]
  simp

set_option maxHeartbeats 1000000 in
set_option maxRecDepth 100000 in
theorem digits_ref_pos (u0 : Nat) (w : World) (hu : u0 < 1000000000000000000) :
    Calls Tryd.prog 8 #[.int .i64 ((u0 : Int))] w (NamePost w (strS (decDigits u0))) := by
  have hlt : ¬ ((u0 : Int) < 0) := by omega
  have hm1 : IntKind.u64.wrap (u0 : Int) = (u0 : Int) := by rw [IntKind.wrap_u64]; omega
  have Hu := veil hu
  clear hu
  go_enter Tryd.func8, Tryd.ntmps8
  go_wp2
  go_loopw [3, 4] (fun s u wr => ∃ (x : Nat) (suf : List UInt8), s = .string (strS suf) ∧ u = .int .u64 (x : Int) ∧ x < 1000000000000000000 ∧ Writ u0 x suf ∧ Below w.heap.size w wr) (fun s u _ => 2 * (intOf u).toNat + (1 - lenOf s))
  case atStart =>
    refine ⟨u0, [], rfl, rfl, Hu.out, ?_, Below.refl _ _⟩
    rcases Nat.eq_zero_or_pos u0 with h | h
    · exact .inr (.inl ⟨h, rfl, h⟩)
    · exact .inl ⟨h, by simp⟩
  case round =>
    obtain ⟨x, suf, rfl, rfl, hx, HW, hb⟩ := hrel
    have hlen := writ_length HW Hu.out
    have hcv := conv_one wr
    have HW := veil HW
    have hse := strS_empty suf
    have hx9 : IntKind.u64.wrap (48 + (x : Int) % 10) = 48 + (x : Int) % 10 := by rw [IntKind.wrap_u64]; omega
    have hx8 : IntKind.u8.wrap (48 + (x : Int) % 10) = 48 + (x : Int) % 10 := by rw [IntKind.wrap_u8]; omega
    have hq : IntKind.u64.wrap ((x : Int) / 10) = (x : Int) / 10 := by rw [IntKind.wrap_u64]; omega
    have hz := hb.size
    rcases Nat.eq_zero_or_pos x with rfl | hp
    · by_cases hem : suf.isEmpty = true
      · obtain rfl : suf = [] := by simpa using hem
        clear hem
        go_wp2
        have hstep := writ_step HW.out (.inr rfl)
        refine ⟨⟨0, [48], congrArg Value.string (strS_cons 48 []), rfl, by decide, hstep, hb.alloc hz _⟩, ?_⟩
        rw [strS_cons]
        simp [intOf, lenOf, strS_size]
      · have hse2 : suf.isEmpty = false := by simpa using hem
        clear hem
        have Hfin := veil (writ_end HW.out (by rintro rfl; cases hse2))
        have hl3 : 1 + suf.length ≤ 9223372036854775807 := by omega
        go_wp2
        all_goals first
          | (exfalso; omega)
          | (go_ret; refine ⟨?_, hb⟩; first | (rw [Hfin.out]; rfl) | (rw [strS_cons, Hfin.out]; rfl))
    · have hp1 : (0 : Int) < (x : Int) := by omega
      have hl2 : [UInt8.ofNat (48 + (x : Int) % 10).toNat].length + suf.length ≤ 9223372036854775807 := by simp; omega
      have hstep := veil (writ_step HW.out (.inl hp))
      have hb2 := hb.alloc hz (.cells #[.int .u8 (48 + (x : Int) % 10)] 5)
      go_wp2
      refine ⟨⟨x / 10, _, congrArg Value.string ?_, by go_num, by omega, hstep.out, hb2⟩, ?_⟩
      · rw [strS_cons, UInt8.ofNat_add]
        rfl
      · rw [strS_cons]
        simp [intOf, lenOf, strS_size]
        omega

set_option maxHeartbeats 1000000 in
set_option maxRecDepth 100000 in
theorem digits_ref_neg (u0 : Nat) (w : World) (hu : u0 < 1000000000000000000) (h1 : 1 ≤ u0) :
    Calls Tryd.prog 8 #[.int .i64 (-(u0 : Int))] w (NamePost w (strS (45 :: decDigits u0))) := by
  have hlt : -(u0 : Int) < 0 := by omega
  obtain ⟨m, hm1, hm2⟩ : ∃ m : Int, IntKind.u64.wrap (-(u0 : Int)) = m ∧ IntKind.u64.wrap (-m) = (u0 : Int) := ⟨_, rfl, by rw [IntKind.wrap_u64, IntKind.wrap_u64]; omega⟩
  have Hu := veil hu
  clear hu
  go_enter Tryd.func8, Tryd.ntmps8
  go_wp2
  go_loopw [3, 4] (fun s u wr => ∃ (x : Nat) (suf : List UInt8), s = .string (strS suf) ∧ u = .int .u64 (x : Int) ∧ x < 1000000000000000000 ∧ Writ u0 x suf ∧ Below w.heap.size w wr) (fun s u _ => 2 * (intOf u).toNat + (1 - lenOf s))
  case atStart =>
    refine ⟨u0, [], rfl, rfl, Hu.out, ?_, Below.refl _ _⟩
    rcases Nat.eq_zero_or_pos u0 with h | h
    · exact .inr (.inl ⟨h, rfl, h⟩)
    · exact .inl ⟨h, by simp⟩
  case round =>
    obtain ⟨x, suf, rfl, rfl, hx, HW, hb⟩ := hrel
    have hlen := writ_length HW Hu.out
    have hcv := conv_one wr
    have HW := veil HW
    have hse := strS_empty suf
    have hx9 : IntKind.u64.wrap (48 + (x : Int) % 10) = 48 + (x : Int) % 10 := by rw [IntKind.wrap_u64]; omega
    have hx8 : IntKind.u8.wrap (48 + (x : Int) % 10) = 48 + (x : Int) % 10 := by rw [IntKind.wrap_u8]; omega
    have hq : IntKind.u64.wrap ((x : Int) / 10) = (x : Int) / 10 := by rw [IntKind.wrap_u64]; omega
    have hz := hb.size
    rcases Nat.eq_zero_or_pos x with rfl | hp
    · by_cases hem : suf.isEmpty = true
      · obtain rfl : suf = [] := by simpa using hem
        clear hem
        go_wp2
        have hstep := writ_step HW.out (.inr rfl)
        refine ⟨⟨0, [48], congrArg Value.string (strS_cons 48 []), rfl, by decide, hstep, hb.alloc hz _⟩, ?_⟩
        rw [strS_cons]
        simp [intOf, lenOf, strS_size]
      · have hse2 : suf.isEmpty = false := by simpa using hem
        clear hem
        have Hfin := veil (writ_end HW.out (by rintro rfl; cases hse2))
        have hl3 : 1 + suf.length ≤ 9223372036854775807 := by omega
        go_wp2
        all_goals first
          | (exfalso; omega)
          | (go_ret; refine ⟨?_, hb⟩; first | (rw [Hfin.out]; rfl) | (rw [strS_cons, Hfin.out]; rfl))
    · have hp1 : (0 : Int) < (x : Int) := by omega
      have hl2 : [UInt8.ofNat (48 + (x : Int) % 10).toNat].length + suf.length ≤ 9223372036854775807 := by simp; omega
      have hstep := veil (writ_step HW.out (.inl hp))
      have hb2 := hb.alloc hz (.cells #[.int .u8 (48 + (x : Int) % 10)] 5)
      go_wp2
      refine ⟨⟨x / 10, _, congrArg Value.string ?_, by go_num, by omega, hstep.out, hb2⟩, ?_⟩
      · rw [strS_cons, UInt8.ofNat_add]
        rfl
      · rw [strS_cons]
        simp [intOf, lenOf, strS_size]
        omega
theorem digits_ref (n : Int) (w : World) (h0 : -1000000000000000000 < n) (h1 : n < 1000000000000000000) :
    Calls Tryd.prog 8 #[.int .i64 n] w (NamePost w (digS n)) := by
  by_cases hn : n < 0
  · have e : n = -((n.natAbs : Nat) : Int) := by omega
    have hd : digS n = strS (45 :: decDigits n.natAbs) := by
      unfold digS Lib.itoa strS; rw [if_pos hn]
    rw [hd]
    have := digits_ref_neg n.natAbs w (by omega) (by omega)
    rw [← e] at this; exact this
  · have e : n = ((n.natAbs : Nat) : Int) := by omega
    have hd : digS n = strS (decDigits n.natAbs) := by
      unfold digS Lib.itoa strS; rw [if_neg hn, show n.toNat = n.natAbs by omega]
    rw [hd]
    have := digits_ref_pos n.natAbs w (by omega)
    rw [← e] at this; exact this
end Go.Proofs.YtjonmggkmalgaaaDoor

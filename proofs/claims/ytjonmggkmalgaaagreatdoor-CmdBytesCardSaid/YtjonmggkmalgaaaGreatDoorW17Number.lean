/-
  pack.Number reads what pack.Digits writes, where a number has at most 18 digits; a text that is no number is refused.
-/
import Derived.Test.YtjonmggkmalgaaaGreatDoorW15State
import Derived.Test.YtjonmggkmalgaaaGreatDoorW16Dec
namespace Go.Proofs.YtjonmggkmalgaaaGreatDoor
open Go.RowKit Go.Lib

/-- A list as a string. -/
abbrev strS (l : List UInt8) : ByteArray := ⟨l.toArray⟩
theorem strS_size (l : List UInt8) : (strS l).size = l.length := by simp [ByteArray.size]
theorem strS_list (l : List UInt8) : (strS l).data.toList = l := by simp

def NumPost (n : Int) (x : Int) (w : World) (e : Ending) (w' : World) : Prop := e = .returned (.tuple #[.int .i64 n, .int .i64 x]) ∧ w = w'

theorem strS_at (l : List UInt8) (i : Nat) (h : i < l.length) : (strS l)[i]'(by rw [strS_size]; exact h) = l[i] := by
  simp [ByteArray.getElem_eq_getElem_data]

theorem acc_step (W x : Nat) (h1 : 48 ≤ x) (h2 : x ≤ 57) (_h3 : W < 100000000000000000) : 10 * (W : Int) + ((x : Int) - 48) % 256 = ((10 * W + (x - 48) : Nat) : Int) := by
  omega
theorem neg_step (W : Nat) (h : W < 1000000000000000000) : wrap64 (-(W : Int)) = -(W : Int) := IntWalk.wrap64_in _ (by omega)

set_option maxRecDepth 100000 in
/-- The digits d of u, with a sign ahead or without. -/
theorem number_digits (s : ByteArray) (d : List UInt8) (below : Bool) (u : Nat) (res : Int) (w : World) (htrim : trimPrefix s.data.toList [45] = d) (hpre : hasPrefix s.data.toList [45] = below) (hd : d = decDigits u) (hu : u < 1000000000000000000)
    (hb : (below = true ∧ 1 ≤ u ∧ res = -(u : Int)) ∨ (below = false ∧ res = (u : Int))) :
    Calls Tryz.prog 145 #[.string s] w (NumPost res 0 w) := by
  obtain ⟨hw, hdig, hne⟩ := dec_worth u u (Nat.le_refl _)
  have hlen := dec_length 17 u (by omega)
  have hhead : (1 ≤ u ∧ ∃ c l, d = c :: l ∧ c.toNat ≠ 48) ∨ (u = 0 ∧ d = [48]) := by
    rw [hd]
    by_cases h0 : u = 0
    · subst h0; exact .inr ⟨rfl, dec_small (by omega)⟩
    · exact .inl ⟨by omega, dec_head u u (Nat.le_refl _) (by omega)⟩
  rw [← hd] at hw hdig hne hlen
  have hpos : 1 ≤ d.length := by
    rcases d with _ | ⟨c, l⟩
    · exact absurd rfl hne
    · simp
  have h18 : ¬ ((18 : Int) < (d.length : Int)) := by omega
  have hE : d.isEmpty = false := by
    rcases d with _ | ⟨c, l⟩
    · exact absurd rfl hne
    · rfl
  have hx : 0 < (strS d).size := by rw [strS_size]; omega
  -- what the tests at the head say
  have htest : (¬ (((strS d)[0].toNat : Int) = 48)) ∨ (((strS d)[0].toNat : Int) = 48 ∧ ¬ ((1 : Int) < (d.length : Int)) ∧ below = false) := by
    rw [strS_at d 0 hpos]
    rcases hhead with ⟨_, c, l, rfl, hc⟩ | ⟨h0, rfl⟩
    · left; simp only [List.getElem_cons_zero]; omega
    · right
      refine ⟨rfl, by simp, ?_⟩
      rcases hb with ⟨_, h1, _⟩ | ⟨h1, _⟩
      · omega
      · exact h1
  have hall : ∀ k (h : k < d.length), 48 ≤ ((strS d)[k]'(by rw [strS_size]; exact h)).toNat ∧ ((strS d)[k]'(by rw [strS_size]; exact h)).toNat ≤ 57 ∧ worth (d.take (k + 1)) = 10 * worth (d.take k) + (((strS d)[k]'(by rw [strS_size]; exact h)).toNat - 48) ∧ worth (d.take k) < 100000000000000000 := by
    intro k h
    have hk17 := worth_take_lt d hdig k
    have hp : 10 ^ k ≤ 10 ^ 17 := Nat.pow_le_pow_right (by omega) (by omega)
    have hp' : (10 : Nat) ^ 17 = 100000000000000000 := by decide
    rw [strS_at d k h]
    have := hdig d[k] (List.getElem_mem h)
    exact ⟨this.1, this.2, by rw [List.take_succ_eq_append_getElem h, worth_snoc], by omega⟩
  have Htrim := veil htrim
  have Hpre := veil hpre
  have Hd := veil hd
  have Hw := veil hw
  have Hall := veil hall
  have Hb := veil hb
  clear htrim hpre hd hw hdig hhead hne hall hb
  go_enter Tryz.func145, Tryz.ntmps145
  go_wp2_with fail
  refine (Tryz.strings_CutPrefix s ⟨#[45]⟩ _).mono ?_
  rintro e w' ⟨rfl, rfl⟩
  rw [show (⟨#[45]⟩ : ByteArray).data.toList = [45] from rfl, Htrim.out, Hpre.out]
  rcases htest with hc | ⟨hc, hl1, hbe⟩
  all_goals
    try subst hbe
    go_wp2_with fail
    go_loop [6, 35] (fun n i => ∃ k : Nat, k ≤ d.length ∧ i = .int .i64 k ∧ n = .int .i64 (worth (d.take k) : Nat)) (fun _ i => d.length - (intOf i).toNat)
    case atStart => exact ⟨0, Nat.zero_le _, rfl, rfl⟩
    case round =>
      obtain ⟨k, hk, rfl, rfl⟩ := hrel
      by_cases hlt : k < d.length
      · obtain ⟨g1, g2, g3, g4⟩ := Hall.out k hlt
        have hkx : k < (strS d).size := by rw [strS_size]; omega
        have G3 := veil g3
        clear g3
        have b1 : ¬ ((((strS d)[k]).toNat : Int) < 48) := by omega
        have b2 : ¬ ((57 : Int) < (((strS d)[k]).toNat : Int)) := by omega
        have b3 : IntKind.i64.wrap (10 * (worth (d.take k) : Int)) = 10 * (worth (d.take k) : Int) := IntWalk.i64_in _ (by omega)
        go_wp2
        go_round
        case rel => exact ⟨k + 1, by omega, by go_num, by rw [G3.out]; exact congrArg (Value.int .i64) (acc_step _ _ g1 g2 g4)⟩
        case measure => simp [intOf]; omega
      · obtain rfl : k = d.length := by omega
        have hend : worth (d.take d.length) = u := by rw [List.take_length]; exact Hw.out
        rw [hend]
        clear hend
        go_wp2
        all_goals
          go_ret2
          rcases Hb.out with ⟨hbt, h1, hr⟩ | ⟨hbf, hr⟩
          all_goals first
            | exact ⟨by rw [hr]; rfl, rfl⟩
            | exact ⟨by rw [hr, ← neg_step u hu]; rfl, rfl⟩
            | simp_all

theorem trim_none (l : List UInt8) (h : hasPrefix l [45] = false) : trimPrefix l [45] = l := by
  unfold trimPrefix
  rw [h]; rfl

/-- Number reads what Digits writes. -/
theorem number_dig (n : Int) (w : World) (h0 : -1000000000000000000 < n) (h1 : n < 1000000000000000000) :
    Calls Tryz.prog 145 #[.string (digS n)] w (NumPost n 0 w) := by
  by_cases hn : n < 0
  · have e : (digS n).data.toList = 45 :: decDigits n.natAbs := by
      show ((itoa n).toArray).toList = _
      unfold itoa
      rw [if_pos hn]
    refine number_digits (digS n) (decDigits n.natAbs) true n.natAbs n w ?_ ?_ rfl (by omega) (.inl ⟨rfl, by omega, by omega⟩)
    · rw [e]; simp [trimPrefix, hasPrefix]
    · rw [e]; simp [hasPrefix]
  · have e : (digS n).data.toList = decDigits n.toNat := by
      show ((itoa n).toArray).toList = _
      unfold itoa
      rw [if_neg hn]
    have hp : hasPrefix (decDigits n.toNat) [45] = false := by
      obtain ⟨_, hdig, hne⟩ := dec_worth n.toNat n.toNat (Nat.le_refl _)
      rcases hl : decDigits n.toNat with _ | ⟨c, l⟩
      · exact absurd hl hne
      · have := hdig c (by rw [hl]; exact List.mem_cons_self ..)
        unfold Digit at this
        have hc : ((45 : UInt8) == c) = false := by
          rw [beq_eq_false_iff_ne]
          rintro rfl
          revert this; decide
        show (45 == c && _) = false
        rw [hc]; rfl
    refine number_digits (digS n) (decDigits n.toNat) false n.toNat n w ?_ ?_ rfl (by omega) (.inr ⟨rfl, by omega⟩)
    · rw [e]; exact trim_none _ hp
    · rw [e]; exact hp

theorem number_x (w : World) : Calls Tryz.prog 145 #[.string ⟨#[120]⟩] w (NumPost 0 1 w) := by
  go_enter Tryz.func145, Tryz.ntmps145
  go_wp2_with fail
  refine (Tryz.strings_CutPrefix ⟨#[120]⟩ ⟨#[45]⟩ _).mono ?_
  rintro e w' ⟨rfl, rfl⟩
  rw [show trimPrefix (⟨#[120]⟩ : ByteArray).data.toList (⟨#[45]⟩ : ByteArray).data.toList = [120] by decide, show hasPrefix (⟨#[120]⟩ : ByteArray).data.toList (⟨#[45]⟩ : ByteArray).data.toList = false by decide]
  go_wp2_with fail
  go_loop [6, 35] (fun n i => i = .int .i64 0 ∧ n = .int .i64 0) (fun _ _ => 0)
  case atStart => exact ⟨rfl, rfl⟩
  case round =>
    obtain ⟨rfl, rfl⟩ := hrel
    go_wp2
    go_ret2
    exact ⟨rfl, rfl⟩
end Go.Proofs.YtjonmggkmalgaaaGreatDoor

/-
  Decimal numerals, plainly: what the digits of a number are, how many, and what they are worth.
-/
import Derived.Lib.ItoaNum
import Derived.Lib.ItoaMem
namespace Go.Proofs.YtjonmggkmalgaaaGreatDoor
open Go.Lib

/-- What digits are worth. -/
def worth (l : List UInt8) : Nat := l.foldl (fun a c => 10 * a + (c.toNat - 48)) 0
theorem worth_snoc (l : List UInt8) (c : UInt8) : worth (l ++ [c]) = 10 * worth l + (c.toNat - 48) := by simp [worth, List.foldl_append]
def Digit (c : UInt8) : Prop := 48 ≤ c.toNat ∧ c.toNat ≤ 57

theorem digit_of (d : Nat) (h : d < 10) : (UInt8.ofNat (48 + d)).toNat = 48 + d := by
  rw [UInt8.toNat_ofNat']; omega

theorem dec_small {u : Nat} (h : u < 10) : decDigits u = [UInt8.ofNat (48 + u)] := by rw [decDigits, dif_pos h]
theorem dec_big {u : Nat} (h : ¬ u < 10) : decDigits u = decDigits (u / 10) ++ [UInt8.ofNat (48 + u % 10)] := by rw [decDigits, dif_neg h]

theorem dec_worth : ∀ (k u : Nat), u ≤ k → worth (decDigits u) = u ∧ (∀ c ∈ decDigits u, Digit c) ∧ decDigits u ≠ [] := by
  intro k
  induction k with
  | zero =>
    intro u hu
    obtain rfl : u = 0 := by omega
    rw [dec_small (by omega)]
    refine ⟨by decide, fun c hc => ?_, by simp⟩
    rw [List.mem_singleton] at hc
    subst hc
    exact ⟨by decide, by decide⟩
  | succ k ih =>
    intro u hu
    by_cases h : u < 10
    · rw [dec_small h]
      refine ⟨?_, fun c hc => ?_, by simp⟩
      · have := worth_snoc [] (UInt8.ofNat (48 + u))
        rw [List.nil_append] at this
        rw [this, digit_of u h]
        simp [worth]
      · rw [List.mem_singleton] at hc
        subst hc
        unfold Digit
        rw [digit_of u h]
        omega
    · obtain ⟨h1, h2, h3⟩ := ih (u / 10) (by omega)
      rw [dec_big h]
      refine ⟨?_, fun c hc => ?_, by simp⟩
      · rw [worth_snoc, h1, digit_of _ (by omega)]
        omega
      · rw [List.mem_append, List.mem_singleton] at hc
        rcases hc with hc | hc
        · exact h2 c hc
        · subst hc
          unfold Digit
          rw [digit_of _ (by omega)]
          omega

theorem worth_take_lt (l : List UInt8) (h : ∀ c ∈ l, Digit c) : ∀ k, worth (l.take k) < 10 ^ k := by
  intro k
  induction k with
  | zero => rw [List.take_zero]; decide
  | succ k ih =>
    have hp : 10 ^ (k + 1) = 10 ^ k * 10 := Nat.pow_succ 10 k
    by_cases hk : k < l.length
    · have h2 := h l[k] (List.getElem_mem hk)
      unfold Digit at h2
      rw [List.take_succ_eq_append_getElem hk, worth_snoc]
      omega
    · rw [List.take_of_length_le (by omega)]
      rw [List.take_of_length_le (by omega)] at ih
      omega

theorem worth_take_le (l : List UInt8) (k : Nat) (h : ∀ c ∈ l, Digit c) (hl : l.length ≤ 18) : worth (l.take k) < 1000000000000000000 := by
  have h3 : (10 : Nat) ^ 18 = 1000000000000000000 := by decide
  by_cases hk : k ≤ 18
  · have h1 := worth_take_lt l h k
    have h2 : 10 ^ k ≤ 10 ^ 18 := Nat.pow_le_pow_right (by omega) hk
    omega
  · have h1 := worth_take_lt l h 18
    rw [List.take_of_length_le (by omega)] at h1
    rw [List.take_of_length_le (by omega)]
    omega

theorem dec_length : ∀ (m u : Nat), u < 10 ^ (m + 1) → (decDigits u).length ≤ m + 1 := by
  intro m
  induction m with
  | zero => intro u hu; rw [dec_small (by simpa using hu)]; simp
  | succ m ih =>
    intro u hu
    by_cases h : u < 10
    · rw [dec_small h]; simp
    · rw [dec_big h, List.length_append]
      have := ih (u / 10) (by rw [Nat.pow_succ] at hu; omega)
      simp only [List.length_singleton]
      omega

/-- A numeral begins with 0 only if it is that of 0. -/
theorem dec_head : ∀ (k u : Nat), u ≤ k → 1 ≤ u → ∃ c l, decDigits u = c :: l ∧ c.toNat ≠ 48 := by
  intro k
  induction k with
  | zero => intro u h1 h2; omega
  | succ k ih =>
    intro u h1 h2
    by_cases h : u < 10
    · exact ⟨_, [], dec_small h, by rw [digit_of u h]; omega⟩
    · obtain ⟨c, l, hc, hne⟩ := ih (u / 10) (by omega) (by omega)
      exact ⟨c, l ++ [UInt8.ofNat (48 + u % 10)], by rw [dec_big h, hc]; rfl, hne⟩
end Go.Proofs.YtjonmggkmalgaaaGreatDoor

/-
  The document's reader and numbers: rootstockref1.Num, Fit, Get: the same plain functions tell what it reads as pack.Get's.
-/
import Derived.Test.YtjonmggkmalgaaaGreatDoorW40Get
import Derived.Test.YtjonmggkmalgaaaGreatDoorW21All
namespace Go.Proofs.YtjonmggkmalgaaaGreatDoor
open Go.RowKit Go.Lib

theorem leVal_drop (l : List UInt8) (j : Nat) (h : j < l.length) : leVal (l.drop j) = l[j].toNat + 256 * leVal (l.drop (j + 1)) := by
  rw [List.drop_eq_getElem_cons h]; rfl

set_option maxRecDepth 100000 in
theorem num_ref (l : List UInt8) (w : World) (hl : l.length ≤ 8) :
    Calls Tryz.prog 59 #[.string (strS l)] w fun e w' => e = .returned (.int .u64 ((leVal l : Nat) : Int)) ∧ w = w' := by
  have hz := strS_size l
  go_enter Tryz.func59, Tryz.ntmps59
  go_wp2
  go_loop [3, 4] (fun v i => ∃ k : Nat, k ≤ l.length ∧ i = .int .i64 ((k : Int) - 1) ∧ v = .int .u64 ((leVal (l.drop k) : Nat) : Int)) (fun _ i => (intOf i + 1).toNat)
  case atStart => exact ⟨l.length, Nat.le_refl _, rfl, by simp [leVal]⟩
  case round =>
    obtain ⟨k, hk, rfl, rfl⟩ := hrel
    by_cases h0 : k = 0
    · subst h0
      go_wp2
      go_ret
      exact ⟨rfl, rfl⟩
    · obtain ⟨j, rfl⟩ : ∃ j, k = j + 1 := ⟨k - 1, by omega⟩
      have ej : ((j + 1 : Nat) : Int) - 1 = (j : Int) := by omega
      rw [ej]
      have hlt : j < l.length := by omega
      have i0 : (0 : Int) ≤ (j : Int) := by omega
      have i1 : (j : Int) < (l.length : Int) := by omega
      have hd := leVal_drop l j hlt
      have hv := leVal_lt (l.drop (j + 1))
      have hp : 256 ^ (l.drop (j + 1)).length ≤ 256 ^ 7 := Nat.pow_le_pow_right (by decide) (by rw [List.length_drop]; omega)
      have h7 : (256 : Nat) ^ 7 = 72057594037927936 := by decide
      have hb : leVal (l.drop (j + 1)) < 72057594037927936 := by omega
      have hc := strS_at l j hlt
      have hcl := l[j].toNat_lt
      obtain ⟨V, hV⟩ : ∃ V, V = leVal (l.drop (j + 1)) := ⟨_, rfl⟩
      rw [← hV] at hd hb ⊢
      have Hd := veil (And.intro hd hc)
      have Hb := veil (And.intro hb hcl)
      clear hd hv hp h7 hb hV ej hc hcl
      go_wp2
      go_round
      case rel =>
        refine ⟨j, by omega, rfl, ?_⟩
        obtain ⟨hd, hc⟩ := Hd.out
        obtain ⟨hb, hcl⟩ := Hb.out
        rw [hd]
        rw [hc]
        congr 1
        simp only [IntKind.wrap_u64]
        omega
      case measure => simp [intOf]

/-- A reader of the document's. -/
def RGetAt (w : World) (g : Nat) (s : GetS) : Prop := Lies w g 97 [.string (strS s.1), .int .i64 s.2]
def RReadsPost (w : World) (g : Nat) (v : Value) (s : GetS) (e : Ending) (w' : World) : Prop := e = .returned v ∧ RGetAt w' g s ∧ Keeps (fun k => k = g) w w'

set_option maxRecDepth 100000 in
theorem raw_rget (g : Nat) (n : Int) (s : GetS) (w : World) (h : RGetAt w g s) (hl : s.1.length ≤ 1000000) (hn : n ≤ 1000000000) :
    Calls Tryz.prog 114 #[.pointer (some ⟨g, 0, none⟩), .int .i64 n] w (RReadsPost w g (.string (strS (rawG n s).1)) (rawG n s).2) := by
  obtain ⟨l, e⟩ := s
  have hlt := h.lt
  have c0 : w.cell? ⟨g, 0, none⟩ = some (.string (strS l)) := h.cell 0
  have c1 : w.cell? ⟨g, 1, none⟩ = some (.int .i64 e) := h.cell 1
  have f0 : w.frozen? ⟨g, 0, none⟩ = false := h.frozen 0
  have f1 : w.frozen? ⟨g, 1, none⟩ = false := h.frozen 1
  have hz := strS_size l
  by_cases he : e = 0
  · subst he
    by_cases h0 : n < 0
    · have hr : rawG n (l, 0) = ([], (l, 1)) := by simp [rawG, h0]
      rw [hr]
      clear hr
      go_enter Tryz.func114, Tryz.ntmps114
      go_wp2
      go_ret
      exact ⟨rfl, h.put 1 _, Keeps.setCell (S := fun k => k = g) (p := ⟨g, 1, none⟩) (Keeps.rfl' _ _) (.inr rfl) _⟩
    · by_cases h1 : ((strS l).size : Int) < n
      · have hr : rawG n (l, 0) = ([], (l, 5)) := by rw [hz] at h1; simp [rawG, h0, h1]
        rw [hr]
        clear hr
        go_enter Tryz.func114, Tryz.ntmps114
        go_wp2
        go_ret
        exact ⟨rfl, h.put 1 _, Keeps.setCell (S := fun k => k = g) (p := ⟨g, 1, none⟩) (Keeps.rfl' _ _) (.inr rfl) _⟩
      · have hr : rawG n (l, 0) = (l.take n.toNat, (l.drop n.toNat, 0)) := by rw [hz] at h1; simp [rawG, h0, h1]
        rw [hr]
        clear hr
        have hx1 : (strS l).extract 0 n.toNat = strS (l.take n.toNat) := by rw [strS_extract]; simp
        have hx2 : (strS l).extract n.toNat l.length = strS (l.drop n.toNat) := by
          rw [strS_extract]
          congr 2
          rw [List.take_of_length_le (by simp)]
        have n0 : 0 ≤ n := by omega
        have hk : Keeps (fun k => k = g) w (w.setCell ⟨g, 0, none⟩ (.string (strS (l.drop n.toNat)))) := Keeps.setCell (S := fun k => k = g) (p := ⟨g, 0, none⟩) (Keeps.rfl' _ _) (.inr rfl) _
        have hp := h.put 0 (.string (strS (l.drop n.toNat)))
        go_enter Tryz.func114, Tryz.ntmps114
        go_wp2
        go_ret
        exact ⟨rfl, hp, hk⟩
  · have hr : rawG n (l, e) = ([], (l, e)) := by simp [rawG, he]
    rw [hr]
    clear hr
    go_enter Tryz.func114, Tryz.ntmps114
    go_wp2
    go_ret
    exact ⟨rfl, h, Keeps.rfl' _ _⟩

/-- What Num(n) reads: the number as a signed one. -/
def rnumG (n : Nat) (s : GetS) : Int × GetS := (wrap64 ((lowG n s).1 : Int), (lowG n s).2)
theorem rnum_small (n : Nat) (s : GetS) (hn : n ≤ 4) : rnumG n s = smallG n s := by
  have := lowG_lt n s hn
  unfold rnumG smallG
  rw [show wrap64 ((lowG n s).1 : Int) = ((lowG n s).1 : Int) by simp only [wrap64]; omega]
theorem rnum_int (s : GetS) : rnumG 8 s = intG s := rfl

section
variable (g : Nat) (s : GetS) (w : World) (h : RGetAt w g s) (hl : s.1.length ≤ 1000000)
include h hl
theorem num_rget (n : Nat) (hn : n ≤ 8) : Calls Tryz.prog 56 #[.pointer (some ⟨g, 0, none⟩), .int .i64 n] w (RReadsPost w g (.int .i64 (rnumG n s).1) (rnumG n s).2) := by
  have hlen := (rawG_length n s).1
  have hraw := raw_rget g n s w h hl (by omega)
  go_enter Tryz.func56, Tryz.ntmps56
  go_wp2_with fail
  refine hraw.mono ?_
  rintro e w1 ⟨rfl, hat, hk⟩
  go_wp2_with fail
  refine (num_ref _ _ (Nat.le_trans hlen hn)).mono ?_
  rintro e w2 ⟨rfl, rfl⟩
  go_wp2
  go_ret
  exact ⟨rfl, hat, hk⟩
theorem text_rget : Calls Tryz.prog 57 #[.pointer (some ⟨g, 0, none⟩)] w (RReadsPost w g (.string (strS (textG s).1)) (textG s).2) := by
  have hlt := lowG_lt2 s
  have hnum := num_rget g s w h hl 2 (by decide)
  rw [rnum_small 2 s (by decide)] at hnum
  have hle : (smallG 2 s).2.1.length ≤ 1000000 := by have := lowG_length 2 s; unfold smallG; simp only; omega
  have hb : (smallG 2 s).1 ≤ 1000000000 := by unfold smallG; simp only; omega
  go_enter Tryz.func57, Tryz.ntmps57
  go_wp2_with fail
  refine hnum.mono ?_
  rintro e w1 ⟨rfl, hat, hk⟩
  go_wp2_with fail
  refine (raw_rget g _ _ _ hat hle hb).mono ?_
  rintro e w2 ⟨rfl, hat2, hk2⟩
  go_wp2
  go_ret
  exact ⟨rfl, hat2, hk.trans hk2 (fun _ _ h => h)⟩
omit hl
theorem end_rget : Calls Tryz.prog 58 #[.pointer (some ⟨g, 0, none⟩)] w (RReadsPost w g (.int .i64 (endG s).2) (endG s)) := by
  obtain ⟨l, e⟩ := s
  have hlt := h.lt
  have f1 : w.frozen? ⟨g, 1, none⟩ = false := h.frozen 1
  have c0 : w.cell? ⟨g, 0, none⟩ = some (.string (strS l)) := h.cell 0
  have c1 : w.cell? ⟨g, 1, none⟩ = some (.int .i64 e) := h.cell 1
  have hz := strS_size l
  by_cases he : e = 0
  · subst he
    by_cases hp : 0 < l.length
    · have hr : endG (l, 0) = (l, 6) := by unfold endG; rw [if_pos (by show (0 : Int) < leftG (l, 0); simp [leftG]; omega)]
      rw [hr]
      clear hr
      go_enter Tryz.func58, Tryz.ntmps58
      go_wp2
      go_ret
      exact ⟨rfl, h.put 1 _, Keeps.setCell (S := fun k => k = g) (p := ⟨g, 1, none⟩) (Keeps.rfl' _ _) (.inr rfl) _⟩
    · have hr : endG (l, 0) = (l, 0) := by unfold endG; rw [if_neg (by show ¬ (0 : Int) < leftG (l, 0); unfold leftG; rw [if_neg (by simp)]; show ¬ (0 : Int) < (l.length : Int); omega)]
      rw [hr]
      clear hr
      go_enter Tryz.func58, Tryz.ntmps58
      go_wp2
      go_ret
      exact ⟨rfl, h, Keeps.rfl' _ _⟩
  · have hr : endG (l, e) = (l, e) := by simp [endG, leftG, he]
    rw [hr]
    have hne : (e == 0) = false := by simpa using he
    clear hr
    go_enter Tryz.func58, Tryz.ntmps58
    go_wp2
    go_ret
    exact ⟨rfl, h, Keeps.rfl' _ _⟩
end

theorem fit_ref (v : Int) (w : World) (hv0 : -9223372036854775808 ≤ v) (hv1 : v ≤ 9223372036854775807) : Calls Tryz.prog 66 #[.int .i64 v, .int .i64 2] w fun e w' =>
    e = (if 0 ≤ v ∧ v < 65536 then .returned (.tuple #[.string (strS (lowBytes v.toNat 2)), .bool true]) else .returned (.tuple #[.string ⟨#[]⟩, .bool false])) ∧ Below w.heap.size w w' := by
  by_cases h0 : v < 0
  · rw [if_neg (by omega)]
    go_enter Tryz.func66, Tryz.ntmps66
    go_wp2
    go_ret2
    exact ⟨rfl, Below.refl _ _⟩
  · obtain ⟨n, rfl⟩ : ∃ n : Nat, v = n := ⟨v.toNat, by omega⟩
    have hw : IntKind.u64.wrap (n : Int) = (n : Int) := by rw [IntKind.wrap_u64]; omega
    by_cases h1 : n < 65536
    · rw [if_pos (by omega)]
      have h2 : ¬ (65536 : Int) ≤ (n : Int) := by omega
      go_enter Tryz.func66, Tryz.ntmps66
      go_wp2_with fail
      refine (low_ref n 2 _ (by omega) (by omega)).mono ?_
      rintro e w1 ⟨rfl, hb⟩
      go_wp2
      go_ret2
      exact ⟨rfl, hb⟩
    · rw [if_neg (by omega)]
      have h2 : (65536 : Int) ≤ (n : Int) := by omega
      go_enter Tryz.func66, Tryz.ntmps66
      go_wp2
      go_ret2
      exact ⟨rfl, Below.refl _ _⟩

theorem text_ref19 (s : ByteArray) (w : World) (hs : s.size ≤ 65535) : Calls Tryz.prog 53 #[.string s] w (NamePost w (strS (textBytes s.data.toList))) := by
  go_enter Tryz.func53, Tryz.ntmps53
  go_wp2_with fail
  refine (text_ref s _ hs).mono ?_
  rintro e w1 ⟨rfl, hb⟩
  go_wp2
  go_ret
  exact ⟨rfl, hb⟩
end Go.Proofs.YtjonmggkmalgaaaGreatDoor

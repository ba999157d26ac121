/-
  pack.Get: what its functions read, told by plain functions on what is left and the first error.
-/
import Derived.Test.YtjonmggkmalgaaaGreatDoorW17Number
import Derived.Laws.Bits64b
namespace Go.Proofs.YtjonmggkmalgaaaGreatDoor
open Go.RowKit Go.Lib

/-- What is left, and the first error. -/
abbrev GetS := List UInt8 × Int
def GetAt (w : World) (g : Nat) (s : GetS) : Prop := Lies w g 134 [.string (strS s.1), .int .i64 s.2]

def rawG (n : Int) (s : GetS) : List UInt8 × GetS :=
  if s.2 ≠ 0 then ([], s) else if n < 0 then ([], (s.1, 1)) else if (s.1.length : Int) < n then ([], (s.1, 5)) else (s.1.take n.toNat, (s.1.drop n.toNat, 0))

/-- The call has turned what the reader at block g holds, and nothing else that was there. -/
def ReadsPost (w : World) (g : Nat) (v : Value) (s : GetS) (e : Ending) (w' : World) : Prop := e = .returned v ∧ GetAt w' g s ∧ Keeps (fun k => k = g) w w'

theorem strS_extract (l : List UInt8) (a b : Nat) : (strS l).extract a b = strS ((l.drop a).take (b - a)) := by
  apply bytes_ext
  simp [List.extract_eq_take_drop]

set_option maxRecDepth 100000 in
theorem raw_get (g : Nat) (n : Int) (s : GetS) (w : World) (h : GetAt w g s) (hl : s.1.length ≤ 1000000) (hn : n ≤ 1000000000) :
    Calls Tryz.prog 44 #[.pointer (some ⟨g, 0, none⟩), .int .i64 n] w (ReadsPost w g (.string (strS (rawG n s).1)) (rawG n s).2) := by
  obtain ⟨l, e⟩ := s
  have hlt := h.lt
  have c0 : w.cell? ⟨g, 0, none⟩ = some (.string (strS l)) := h.cell 0
  have c1 : w.cell? ⟨g, 1, none⟩ = some (.int .i64 e) := h.cell 1
  have f0 : w.frozen? ⟨g, 0, none⟩ = false := h.frozen 0
  have f1 : w.frozen? ⟨g, 1, none⟩ = false := h.frozen 1
  have hz := strS_size l
  by_cases he : e = 0
  · subst he
    by_cases h0 : n < 0
    · have hr : rawG n (l, 0) = ([], (l, 1)) := by simp [rawG, h0]
      rw [hr]
      clear hr
      go_enter Tryz.func44, Tryz.ntmps44
      go_wp2
      go_ret
      exact ⟨rfl, h.put 1 _, Keeps.setCell (S := fun k => k = g) (p := ⟨g, 1, none⟩) (Keeps.rfl' _ _) (.inr rfl) _⟩
    · by_cases h1 : ((strS l).size : Int) < n
      · have hr : rawG n (l, 0) = ([], (l, 5)) := by rw [hz] at h1; simp [rawG, h0, h1]
        rw [hr]
        clear hr
        go_enter Tryz.func44, Tryz.ntmps44
        go_wp2
        go_ret
        exact ⟨rfl, h.put 1 _, Keeps.setCell (S := fun k => k = g) (p := ⟨g, 1, none⟩) (Keeps.rfl' _ _) (.inr rfl) _⟩
      · have hr : rawG n (l, 0) = (l.take n.toNat, (l.drop n.toNat, 0)) := by rw [hz] at h1; simp [rawG, h0, h1]
        rw [hr]
        clear hr
        have hx1 : (strS l).extract 0 n.toNat = strS (l.take n.toNat) := by rw [strS_extract]; simp
        have hx2 : (strS l).extract n.toNat l.length = strS (l.drop n.toNat) := by
          rw [strS_extract]
          congr 2
          rw [List.take_of_length_le (by simp)]
        have n0 : 0 ≤ n := by omega
        go_enter Tryz.func44, Tryz.ntmps44
        go_wp2_with fail
        refine (clone_any (strS (l.take n.toNat)) _ (by rw [strS_size, List.length_take]; have : l.length ≤ 1000000 := hl; omega)).mono ?_
        rintro e w1 ⟨rfl, hb⟩
        have hk : Keeps (fun k => k = g) w (w.setCell ⟨g, 0, none⟩ (.string (strS (l.drop n.toNat)))) := Keeps.setCell (S := fun k => k = g) (p := ⟨g, 0, none⟩) (Keeps.rfl' _ _) (.inr rfl) _
        have hp := h.put 0 (.string (strS (l.drop n.toNat)))
        have hat := hp.below hb hp.lt
        have hk2 := hk.trans (Keeps.below (S := fun k => k = g) hb (fun k hk' hk2 => absurd hk' (by omega))) (fun _ _ h => h)
        go_wp2
        go_ret
        exact ⟨rfl, hat, hk2⟩
  · have hr : rawG n (l, e) = ([], (l, e)) := by simp [rawG, he]
    rw [hr]
    clear hr
    go_enter Tryz.func44, Tryz.ntmps44
    go_wp2
    go_ret
    exact ⟨rfl, h, Keeps.rfl' _ _⟩

/-- Bytes as a number, the least first. -/
def leVal : List UInt8 → Nat
  | [] => 0
  | c :: l => c.toNat + 256 * leVal l
theorem leVal_lt : ∀ l : List UInt8, leVal l < 256 ^ l.length
  | [] => by simp [leVal]
  | c :: l => by
    have := leVal_lt l
    have hc : c.toNat < 256 := c.toNat_lt
    simp only [leVal, List.length_cons, Nat.pow_succ]
    omega
theorem leVal_snoc (c : UInt8) : ∀ l : List UInt8, leVal (l ++ [c]) = leVal l + c.toNat * 256 ^ l.length
  | [] => by simp [leVal]
  | d :: l => by
    simp only [List.cons_append, leVal, leVal_snoc c l, List.length_cons, Nat.pow_succ]
    have : 256 * (leVal l + c.toNat * 256 ^ l.length) = 256 * leVal l + c.toNat * (256 ^ l.length * 256) := by
      rw [Nat.mul_add, Nat.mul_comm (256 ^ l.length) 256, Nat.mul_left_comm]
    omega

def lowG (size : Nat) (s : GetS) : Nat × GetS := (leVal (rawG size s).1, (rawG size s).2)

theorem rawG_length (n : Nat) (s : GetS) : (rawG n s).1.length ≤ n ∧ (rawG n s).2.1.length ≤ s.1.length := by
  unfold rawG
  split
  · simp
  · split
    · simp
    · split
      · simp
      · simp; omega

theorem pow_room (k : Nat) (h : k < 8) : 256 ^ k * 256 ≤ 18446744073709551616 := by
  rcases (by omega : k = 0 ∨ k = 1 ∨ k = 2 ∨ k = 3 ∨ k = 4 ∨ k = 5 ∨ k = 6 ∨ k = 7) with rfl | rfl | rfl | rfl | rfl | rfl | rfl | rfl <;> decide
theorem or_step (a c k : Nat) (hk : k < 8) (ha : a < 256 ^ k) (hc : c < 256) : bits BinOp.or IntKind.u64 (a : Int) (IntKind.u64.wrap (IntKind.u64.wrap (c : Int) * 2 ^ (8 * k))) = ((a + c * 256 ^ k : Nat) : Int) := by
  have hp := pow_room k hk
  have h256 : (2 : Nat) ^ (8 * k) = 256 ^ k := by rw [Nat.pow_mul]
  have hlt : c * 256 ^ k < 18446744073709551616 := by
    have h1 : c * 256 ^ k ≤ 255 * 256 ^ k := Nat.mul_le_mul_right _ (by omega)
    have h2 : 0 < 256 ^ k := Nat.pow_pos (by decide)
    omega
  have e1 : IntKind.u64.wrap (c : Int) = (c : Int) := by rw [IntKind.wrap_u64]; omega
  have e2 : (c : Int) * 2 ^ (8 * k) = ((c * 256 ^ k : Nat) : Int) := by
    rw [← h256, Int.natCast_mul, Int.natCast_pow]; rfl
  have e3 : IntKind.u64.wrap ((c * 256 ^ k : Nat) : Int) = ((c * 256 ^ k : Nat) : Int) := by rw [IntKind.wrap_u64]; omega
  rw [e1, e2, e3, bits_or_u64_nat _ _ (by omega) hlt]
  congr 1
  have h3 := Nat.shiftLeft_add_eq_or_of_lt (b := a) (i := 8 * k) (by rw [h256]; exact ha) c
  rw [Nat.shiftLeft_eq, h256] at h3
  rw [Nat.or_comm, ← h3]
  omega

set_option maxRecDepth 100000 in
theorem low_get (g : Nat) (n : Nat) (s : GetS) (w : World) (h : GetAt w g s) (hl : s.1.length ≤ 1000000) (hn : n ≤ 8) :
    Calls Tryz.prog 111 #[.pointer (some ⟨g, 0, none⟩), .int .i64 n] w (ReadsPost w g (.int .u64 ((lowG n s).1 : Int)) (lowG n s).2) := by
  have hlen := (rawG_length n s).1
  unfold lowG
  obtain ⟨b, hb⟩ : ∃ b, b = (rawG n s).1 := ⟨_, rfl⟩
  have hraw := raw_get g n s w h hl (by omega)
  rw [← hb] at hlen hraw ⊢
  have hz := strS_size b
  clear hb
  go_enter Tryz.func111, Tryz.ntmps111
  go_wp2_with fail
  refine hraw.mono ?_
  rintro e w1 ⟨rfl, hat, hk⟩
  go_wp2_with fail
  go_loop [5, 13] (fun v i => ∃ k : Nat, k ≤ b.length ∧ i = .int .i64 k ∧ v = .int .u64 ((leVal (b.take k) : Nat) : Int)) (fun _ i => b.length - (intOf i).toNat)
  case atStart => exact ⟨0, Nat.zero_le _, rfl, by simp [leVal]⟩
  case round =>
    obtain ⟨k, hkb, rfl, rfl⟩ := hrel
    by_cases hlt : k < b.length
    · have i0 : (0 : Int) ≤ (k : Int) := by omega
      have i1 : (k : Int) < (b.length : Int) := by omega
      go_wp2
      refine ⟨⟨k + 1, by omega, by go_num, ?_⟩, by simp [intOf]; omega⟩
      have hc : (strS b)[k].toNat = b[k].toNat := by rw [strS_at b k hlt]
      have htk : b.take (k + 1) = b.take k ++ [b[k]] := by rw [List.take_add_one, List.getElem?_eq_getElem hlt]; rfl
      have htl : (b.take k).length = k := by rw [List.length_take]; omega
      have hv := leVal_lt (b.take k)
      rw [htl] at hv
      rw [hc, htk, leVal_snoc, htl, or_step _ _ k (by omega) hv b[k].toNat_lt]
    · obtain rfl : k = b.length := by omega
      go_wp2
      go_ret
      exact ⟨rfl, hat, hk⟩

def smallG (size : Nat) (s : GetS) : Int × GetS := (((lowG size s).1 : Int), (lowG size s).2)
def intG (s : GetS) : Int × GetS := (wrap64 ((lowG 8 s).1 : Int), (lowG 8 s).2)
def textG (s : GetS) : List UInt8 × GetS := rawG (smallG 2 s).1 (smallG 2 s).2
def leftG (s : GetS) : Int := if s.2 ≠ 0 then 0 else (s.1.length : Int)
def endG (s : GetS) : GetS := if 0 < leftG s then (s.1, 6) else s

theorem lowG_lt (n : Nat) (s : GetS) (hn : n ≤ 4) : (lowG n s).1 < 4294967296 := by
  have h1 := leVal_lt (rawG n s).1
  have h2 := (rawG_length n s).1
  have h3 : (256 : Nat) ^ (rawG n s).1.length ≤ 256 ^ 4 := Nat.pow_le_pow_right (by decide) (by omega)
  have h4 : (256 : Nat) ^ 4 = 4294967296 := by decide
  unfold lowG
  omega
theorem lowG_lt2 (s : GetS) : (lowG 2 s).1 < 65536 := by
  have h1 := leVal_lt (rawG ((2 : Nat) : Int) s).1
  have h2 := (rawG_length 2 s).1
  have h3 : (256 : Nat) ^ (rawG ((2 : Nat) : Int) s).1.length ≤ 256 ^ 2 := Nat.pow_le_pow_right (by decide) h2
  have h4 : (256 : Nat) ^ 2 = 65536 := by decide
  unfold lowG
  show leVal (rawG ((2 : Nat) : Int) s).1 < 65536
  omega
theorem lowG_length (n : Nat) (s : GetS) : (lowG n s).2.1.length ≤ s.1.length := (rawG_length n s).2

section
variable (g : Nat) (s : GetS) (w : World) (h : GetAt w g s) (hl : s.1.length ≤ 1000000)
include h hl
theorem byte_get : Calls Tryz.prog 47 #[.pointer (some ⟨g, 0, none⟩)] w (ReadsPost w g (.int .i64 (smallG 1 s).1) (smallG 1 s).2) := by
  have hlt := lowG_lt 1 s (by decide)
  have hraw := low_get g 1 s w h hl (by decide)
  have hw : IntKind.i64.wrap ((lowG 1 s).1 : Int) = ((lowG 1 s).1 : Int) := by rw [IntKind.wrap_i64]; omega
  go_enter Tryz.func47, Tryz.ntmps47
  go_wp2_with fail
  refine hraw.mono ?_
  rintro e w1 ⟨rfl, hat, hk⟩
  go_wp2
  go_ret
  exact ⟨rfl, hat, hk⟩
theorem half_get : Calls Tryz.prog 60 #[.pointer (some ⟨g, 0, none⟩)] w (ReadsPost w g (.int .i64 (smallG 2 s).1) (smallG 2 s).2) := by
  have hlt := lowG_lt 2 s (by decide)
  have hraw := low_get g 2 s w h hl (by decide)
  have hw : IntKind.i64.wrap ((lowG 2 s).1 : Int) = ((lowG 2 s).1 : Int) := by rw [IntKind.wrap_i64]; omega
  go_enter Tryz.func60, Tryz.ntmps60
  go_wp2_with fail
  refine hraw.mono ?_
  rintro e w1 ⟨rfl, hat, hk⟩
  go_wp2
  go_ret
  exact ⟨rfl, hat, hk⟩
theorem word_get : Calls Tryz.prog 42 #[.pointer (some ⟨g, 0, none⟩)] w (ReadsPost w g (.int .i64 (smallG 4 s).1) (smallG 4 s).2) := by
  have hlt := lowG_lt 4 s (by decide)
  have hraw := low_get g 4 s w h hl (by decide)
  have hw : IntKind.i64.wrap ((lowG 4 s).1 : Int) = ((lowG 4 s).1 : Int) := by rw [IntKind.wrap_i64]; omega
  go_enter Tryz.func42, Tryz.ntmps42
  go_wp2_with fail
  refine hraw.mono ?_
  rintro e w1 ⟨rfl, hat, hk⟩
  go_wp2
  go_ret
  exact ⟨rfl, hat, hk⟩
theorem int_get : Calls Tryz.prog 46 #[.pointer (some ⟨g, 0, none⟩)] w (ReadsPost w g (.int .i64 (intG s).1) (intG s).2) := by
  have hraw := low_get g 8 s w h hl (by decide)
  go_enter Tryz.func46, Tryz.ntmps46
  go_wp2_with fail
  refine hraw.mono ?_
  rintro e w1 ⟨rfl, hat, hk⟩
  go_wp2
  go_ret
  exact ⟨rfl, hat, hk⟩
theorem text_get : Calls Tryz.prog 48 #[.pointer (some ⟨g, 0, none⟩)] w (ReadsPost w g (.string (strS (textG s).1)) (textG s).2) := by
  have hlt := lowG_lt2 s
  have hhalf := half_get g s w h hl
  have hle : (smallG 2 s).2.1.length ≤ 1000000 := by have := lowG_length 2 s; unfold smallG; simp only; omega
  have hb : (smallG 2 s).1 ≤ 1000000000 := by unfold smallG; simp only; omega
  go_enter Tryz.func48, Tryz.ntmps48
  go_wp2_with fail
  refine hhalf.mono ?_
  rintro e w1 ⟨rfl, hat, hk⟩
  go_wp2_with fail
  refine (raw_get g _ _ _ hat hle hb).mono ?_
  rintro e w2 ⟨rfl, hat2, hk2⟩
  go_wp2
  go_ret
  exact ⟨rfl, hat2, hk.trans hk2 (fun _ _ h => h)⟩
omit hl
theorem bad_get : Calls Tryz.prog 43 #[.pointer (some ⟨g, 0, none⟩)] w fun e w' => e = .returned (.int .i64 s.2) ∧ w = w' := by
  have c1 : w.cell? ⟨g, 1, none⟩ = some (.int .i64 s.2) := h.cell 1
  go_enter Tryz.func43, Tryz.ntmps43
  go_wp2
  go_ret
  exact ⟨rfl, rfl⟩
theorem left_get : Calls Tryz.prog 45 #[.pointer (some ⟨g, 0, none⟩)] w fun e w' => e = .returned (.int .i64 (leftG s)) ∧ w = w' := by
  have c0 : w.cell? ⟨g, 0, none⟩ = some (.string (strS s.1)) := h.cell 0
  have hbad := bad_get g s w h
  have hz := strS_size s.1
  unfold leftG
  by_cases he : s.2 = 0
  · have hb : (s.2 != 0) = false := by rw [he]; rfl
    rw [if_neg (by simp [he])]
    go_enter Tryz.func45, Tryz.ntmps45
    go_wp2_with fail
    refine hbad.mono ?_
    rintro e w1 ⟨rfl, rfl⟩
    go_wp2
    go_ret
    exact ⟨rfl, rfl⟩
  · have hb : (s.2 != 0) = true := by simpa using he
    rw [if_pos he]
    go_enter Tryz.func45, Tryz.ntmps45
    go_wp2_with fail
    refine hbad.mono ?_
    rintro e w1 ⟨rfl, rfl⟩
    go_wp2
    go_ret
    exact ⟨rfl, rfl⟩
theorem end_get : Calls Tryz.prog 49 #[.pointer (some ⟨g, 0, none⟩)] w (ReadsPost w g (.int .i64 (endG s).2) (endG s)) := by
  have hlt := h.lt
  have f1 : w.frozen? ⟨g, 1, none⟩ = false := h.frozen 1
  have c1 : w.cell? ⟨g, 1, none⟩ = some (.int .i64 s.2) := h.cell 1
  have hleft := left_get g s w h
  have hbad := bad_get g s w h
  unfold endG
  by_cases he : 0 < leftG s
  · rw [if_pos he]
    have hp : GetAt (w.setCell ⟨g, 1, none⟩ (.int .i64 6)) g (s.1, 6) := h.put 1 _
    have hk : Keeps (fun k => k = g) w (w.setCell ⟨g, 1, none⟩ (.int .i64 6)) := Keeps.setCell (S := fun k => k = g) (p := ⟨g, 1, none⟩) (Keeps.rfl' _ _) (.inr rfl) _
    have hbad2 := bad_get g _ _ hp
    go_enter Tryz.func49, Tryz.ntmps49
    go_wp2_with fail
    refine hleft.mono ?_
    rintro e w1 ⟨rfl, rfl⟩
    go_wp2_with fail
    refine hbad2.mono ?_
    rintro e w1 ⟨rfl, rfl⟩
    go_wp2
    go_ret
    exact ⟨rfl, hp, hk⟩
  · rw [if_neg he]
    go_enter Tryz.func49, Tryz.ntmps49
    go_wp2_with fail
    refine hleft.mono ?_
    rintro e w1 ⟨rfl, rfl⟩
    go_wp2_with fail
    refine hbad.mono ?_
    rintro e w1 ⟨rfl, rfl⟩
    go_wp2
    go_ret
    exact ⟨rfl, h, Keeps.rfl' _ _⟩
end

theorem from_get (b : ByteArray) (w : World) : Calls Tryz.prog 41 #[.string b] w fun e w' => e = .returned (.pointer (some ⟨w.heap.size, 0, none⟩)) ∧ GetAt w' w.heap.size (b.data.toList, 0) ∧ w.heap.size < w'.heap.size ∧ Below w.heap.size w w' := by
  go_enter Tryz.func41, Tryz.ntmps41
  go_wp2
  go_ret
  have e : strS b.data.toList = b := by apply bytes_ext; simp
  refine ⟨rfl, ?_, by simp, (Below.refl _ _).alloc (Nat.le_refl _) _⟩
  unfold GetAt
  rw [e]
  exact Lies.made w 134 [.string b, .int .i64 0]
end Go.Proofs.YtjonmggkmalgaaaGreatDoor

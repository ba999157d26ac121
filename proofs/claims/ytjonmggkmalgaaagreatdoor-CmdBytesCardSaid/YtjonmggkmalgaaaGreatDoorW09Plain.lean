/-
  cmd.plain: what is written: Put, Delete, Make, Drop.
-/
import Derived.Test.YtjonmggkmalgaaaGreatDoorW08Plain
import Derived.Deep.QuietTactic
import Derived.BigQuiet
namespace Go.Proofs.YtjonmggkmalgaaaGreatDoor
open Go.RowKit Go.Maps Go.WideMaps Go.WideElems

theorem BoxAt.apart_v {w : World} {b bv bi n : Nat} {q : Int} {V I : Dat} (h : BoxAt w b bv bi q n V I) : bv ≠ b := by
  rintro rfl
  obtain ⟨es, clock, hh, _⟩ := h.vals
  have := h.lies
  unfold Lies at this
  rw [hh] at this; cases this
theorem BoxAt.apart_i {w : World} {b bv bi n : Nat} {q : Int} {V I : Dat} (h : BoxAt w b bv bi q n V I) : bi ≠ b := by
  rintro rfl
  obtain ⟨es, clock, hh, _⟩ := h.ins
  have := h.lies
  unfold Lies at this
  rw [hh] at this; cases this
theorem HasMax.drew {w : World} (h : HasMax w) : HasMax w.drew := h
theorem Leads.drew {w : World} {r c : Nat} {p : ByteArray} (h : Leads w r p c) : Leads w.drew r p c := h.below (Below.refl _ _).drew
theorem BoxAt.drew {w : World} {b bv bi n : Nat} {q : Int} {V I : Dat} (h : BoxAt w b bv bi q n V I) : BoxAt w.drew b bv bi q n V I := h.below (Below.refl _ _).drew
theorem keeps_row {w w' : World} {b : Nat} (h : w.grownBy w' (some b)) : Keeps (fun k => k = b) w w' :=
  Keeps.grown (S := fun k => k = b) (Keeps.rfl' _ _) h (fun k _ hk => by injection hk with hk; exact hk.symm)
theorem keeps_then {w w1 w2 : World} {b : Nat} (h : Below w.heap.size w w1) (h' : Keeps (fun k => k = b) w1 w2) : Keeps (fun k => k = b) w w2 :=
  (Keeps.below (S := fun k => k = b) h (fun k hk hk' => absurd hk (by omega))).trans h' (fun k _ hk => hk)

/-- The values of the box at c have turned to V'; nothing else that was there has turned. -/
def ValsPost (c bv bi n : Nat) (q : Int) (V' I : Dat) (w : World) (e : Ending) (w' : World) : Prop :=
  e = .returned (.int .i64 0) ∧ BoxAt w' c bv bi q n V' I ∧ Keeps (fun k => k = bv) w w'

theorem put_ok (r c : Nat) (p s v : ByteArray) (q : Int) (bv bi n : Nat) (V I : Dat) (w : World) (h : Leads w r p c) (hm : HasMax w) (hB : BoxAt w c bv bi q n V I) (hs : s.size ≤ 1000000) (hv : v.size ≤ 2000) (hI : Maps.has I (keyL s) = false) (hn : n ≤ 1000000) :
    Calls Tryz.prog 206 #[plainV r, .string p, .string s, .string v] w (ValsPost c bv bi (n + 1) q (V.put (keyL s) (.lit (.string v.data.toList))) I w) := by
  have hv2 : ¬ ((2000 : Int) < v.size) := by omega
  go_enter Tryz.func206, Tryz.ntmps206
  go_wp2_with fail
  refine (at_ok r c p s q bv bi n V I _ (h.alloc _) (hm.alloc _) (hB.below ((Below.refl _ _).alloc (Nat.le_refl _) _)) hs hI).mono ?_
  rintro e w1 ⟨rfl, hb⟩
  have hbw := below_after hb
  have hB1 := hB.below hbw
  have c1 : w1.cell? ⟨c, 1, none⟩ = some (.map (some bv)) := hB1.lies.cell 1
  clear hI
  go_wp2_with (at_mapUpdate; refine wpList_mapUpdate_own _ rfl _ _ _ 72 rfl 9 9 keyed Tryz.underlying72 strElem bv n V rfl hB1.vals (by unfold maxLen; omega) _ _ _ rfl rfl (key_of s (by omega)) (.lit (.string v.data.toList)) [] (plainElem_string Tryz.underlying9 (by unfold maxLen; omega)) ?_; intro w2 hown2 hgrow2)
  go_ret
  have hk := keeps_row hgrow2
  exact ⟨rfl, ⟨hB1.lies.kept hk (fun e => hB1.apart_v e.symm), hown2, (map_keeps hB1.ins hk (fun e => hB1.apart e.symm)).mono (by omega), hB1.apart⟩, keeps_then hbw hk⟩

theorem delete_ok (r c : Nat) (p s v : ByteArray) (q : Int) (bv bi n : Nat) (V I : Dat) (w : World) (h : Leads w r p c) (hm : HasMax w) (hB : BoxAt w c bv bi q n V I) (hs : s.size ≤ 1000000) (hI : Maps.has I (keyL s) = false)
    (hV : Maps.has V (keyL s) = true) (hat : V.atKey (keyL s) (.lit (.string [])) = .lit (.string v.data.toList)) :
    Calls Tryz.prog 201 #[plainV r, .string p, .string s] w (ValsPost c bv bi n q (V.del (keyL s)) I w) := by
  go_enter Tryz.func201, Tryz.ntmps201
  go_wp2_with fail
  refine (at_ok r c p s q bv bi n V I _ (h.alloc _) (hm.alloc _) (hB.below ((Below.refl _ _).alloc (Nat.le_refl _) _)) hs hI).mono ?_
  rintro e w1 ⟨rfl, hb⟩
  have hbw := below_after hb
  have hB1 := hB.below hbw
  have c1 : w1.cell? ⟨c, 1, none⟩ = some (.map (some bv)) := hB1.lies.cell 1
  have k1 := look_str_yes hB1.vals (by omega) hV hat
  clear hI hV hat
  go_wp2_with (at_delete; refine wpList_delete_own _ rfl _ _ 72 9 rfl 9 keyed Tryz.underlying72 strElem bv n V rfl hB1.vals _ _ rfl (key_of s (by omega)) ?_; intro w2 hown2 hturn2)
  go_ret
  have hk := keeps_row hturn2.grown
  exact ⟨rfl, ⟨hB1.lies.kept hk (fun e => hB1.apart_v e.symm), hown2, map_keeps hB1.ins hk (fun e => hB1.apart e.symm), hB1.apart⟩, keeps_then hbw hk⟩

/-- A name without a slash. -/
def Plainname (s : ByteArray) : Prop := ∀ i (h : i < s.size), s[i] ≠ 47

def LastPost (r : Nat) (s : ByteArray) (w : World) (e : Ending) (w' : World) : Prop := e = .returned (.tuple #[.pointer (some ⟨r, 0, none⟩), .string s, .int .i64 0]) ∧ Below w.heap.size w w'

set_option maxRecDepth 100000 in
theorem last_ok (r : Nat) (s : ByteArray) (w : World) (hm : HasMax w) (hs : s.size ≤ 1000000) (hp : Plainname s) :
    Calls Tryz.prog 209 #[plainV r, .string s] w (LastPost r s w) := by
  go_enter Tryz.func209, Tryz.ntmps209
  go_wp2_with fail
  go_loop [7] (fun i => ∃ k : Nat, k ≤ s.size ∧ i = .int .i64 k) (fun i => (intOf i).toNat)
  case atStart => exact ⟨s.size, Nat.le_refl _, rfl⟩
  case round =>
    obtain ⟨k, hk, rfl⟩ := hrel
    by_cases hpos : 0 < k
    · have hne : ((s[k - 1].toNat : Int) != 47) = true := by
        have := hp (k - 1) (by omega)
        rw [bne_iff_ne]
        intro e
        exact this (UInt8.toNat_inj.1 (by simp; omega))
      have b1 : 1 ≤ (k : Int) := by omega
      have b2 : (k : Int) - 1 < s.size := by omega
      go_wp2
      go_round
      case rel => exact ⟨k - 1, by omega, by congr 1; omega⟩
      case measure => simp [intOf]; omega
    · obtain rfl : k = 0 := by omega
      have z1 : (0 : Int) ≤ (s.size : Int) := Int.natCast_nonneg _
      have z2 : IntKind.i64.wrap (-1) = -1 := by decide
      have z3 : max (-1 : Int) 0 = 0 := by decide
      have z4 : s.extract 0 0 = ⟨#[]⟩ := by
        apply bytes_ext
        simp [ByteArray.extract, ByteArray.copySlice]
      have z5 : s.extract 0 s.size = s := by
        apply bytes_ext
        simp
      go_wp2_with fail
      go_region_held3 (fun w' => w'.cell? ⟨w.heap.size, 0, none⟩ = some (.pointer (some ⟨r, 0, none⟩))) (first | exact (hb.cell (p := ⟨w.heap.size, 0, none⟩) (by simp)).trans (by simp) | go_keep)
        ((go_at_call 210; refine (find_ok r r ⟨#[]⟩ _ (.inl ⟨rfl, rfl⟩) (hm.alloc _).drew).mono ?_; rintro e w1 ⟨rfl, hb⟩))
      have hbw : Below w.heap.size w w1 := ((Below.refl _ _).alloc (Nat.le_refl _) _).drew.trans (hb.mono (by simp))
      clear hm hp
      go_wp2_with fail
      go_quiet (fail)
      go_wp2
      go_ret3
      exact ⟨rfl, below_drewN hbw _⟩
end Go.Proofs.YtjonmggkmalgaaaGreatDoor

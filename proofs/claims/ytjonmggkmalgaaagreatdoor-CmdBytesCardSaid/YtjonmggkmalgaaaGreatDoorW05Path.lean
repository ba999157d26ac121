/-
  bucket.Path, and what cmd asks of names: the names of a path are what lies between its slashes; each has 1 to 32 bytes, and there are at most 4.
-/
import Derived.Test.YtjonmggkmalgaaaGreatDoorW03Pack
import Derived.Test.YtjonmggkmalgaaaGreatDoorW04Shelf
namespace Go.Proofs.YtjonmggkmalgaaaGreatDoor
open Go.RowKit

/-- May a text of so many bytes be a name? -/
def wordB (n : Nat) : Bool := decide (1 ≤ n) && decide (n ≤ 32)

theorem word_any (s : ByteArray) (w : World) :
    Calls Tryz.prog 149 #[.string s] w fun e w' => e = .returned (.bool (wordB s.size)) ∧ w = w' := by
  by_cases h1 : 1 ≤ s.size
  · by_cases h2 : s.size ≤ 32
    · have e1 : wordB s.size = true := by simp [wordB, h1, h2]
      rw [e1]; clear e1
      go_enter Tryz.func149, Tryz.ntmps149
      go_wp2
      go_ret
      exact ⟨ret_bool (by simp; omega), rfl⟩
    · have e1 : wordB s.size = false := by simp [wordB, h2]
      rw [e1]; clear e1
      have h3 : ¬ ((s.size : Int) ≤ 32) := by omega
      go_enter Tryz.func149, Tryz.ntmps149
      go_wp2
      go_ret
      exact ⟨rfl, rfl⟩
  · have e1 : wordB s.size = false := by simp [wordB, h1]
    rw [e1]; clear e1
    have h3 : ¬ (1 ≤ (s.size : Int)) := by omega
    go_enter Tryz.func149, Tryz.ntmps149
    go_wp2
    go_ret
    exact ⟨rfl, rfl⟩

theorem pathlit_any (s : ByteArray) (w : World) :
    Calls Tryz.prog 148 #[.string s] w fun e w' => e = .returned (.bool (!wordB s.size)) ∧ w = w' := by
  go_enter Tryz.func148, Tryz.ntmps148
  go_wp2_with fail
  refine (word_any s _).mono ?_
  rintro e w' ⟨rfl, rfl⟩
  go_wp2
  go_ret
  exact ⟨rfl, rfl⟩

theorem clone_any (s : ByteArray) (w : World) (hs : s.size ≤ 1000000000) :
    Calls Tryz.prog 112 #[.string s] w fun e w' => e = .returned (.string s) ∧ Below w.heap.size w w' := by
  go_enter Tryz.func112, Tryz.ntmps112
  go_wp2_with fail
  refine (Tryz.stringslite_Clone s _ (by omega)).mono ?_
  rintro e w' ⟨rfl, hb⟩
  go_wp2
  go_ret
  exact ⟨rfl, hb⟩

/-- A slash. -/
def slashS : ByteArray := ⟨#[47]⟩
/-- The names of a path that is not empty. -/
def pathNames (s : ByteArray) : List ByteArray := Lib.splitB slashS 0 (Lib.countB s slashS) s
def pathOk (s : ByteArray) : Bool := decide ((pathNames s).length ≤ 4) && (pathNames s).all fun n => wordB n.size

/-- The package variable that strings.Index looks at lies below block B. -/
def HasMax (w : World) : Prop := ∃ m : Int, w.cell? ⟨0, 0, none⟩ = some (.int .i64 m)
theorem HasMax.kept {S : Nat → Prop} {w w' : World} (h : HasMax w) (hk : Keeps S w w') (hn : ¬ S 0) : HasMax w' := by
  obtain ⟨m, hm⟩ := h
  exact ⟨m, (hk.cell (World.block_lt_of_cell? w _ hm) hn).trans hm⟩
theorem HasMax.below {w w' : World} (h : HasMax w) (hb : Below w.heap.size w w') : HasMax w' := by
  obtain ⟨m, hm⟩ := h
  exact ⟨m, (hb.cell (World.block_lt_of_cell? w _ hm)).trans hm⟩

/-- What bucket.Path comes to at a path that is not empty. -/
def PathPost (s : ByteArray) (w : World) (e : Ending) (w' : World) : Prop :=
  Below w.heap.size w w' ∧
  ((pathOk s = true ∧ ∃ g, w.heap.size ≤ g ∧ e = .returned (.tuple #[.slice (some ⟨g, 0, none⟩) (pathNames s).length (pathNames s).length, .int .i64 0]) ∧ Lies w' g 9 ((pathNames s).map Value.string)) ∨
   (pathOk s = false ∧ e = .returned (.tuple #[.slice none 0 0, .int .i64 1])))

theorem pathNames_length (s : ByteArray) : (pathNames s).length = Lib.countB s slashS + 1 := Lib.splitB_all slashS (by decide) 0 _ s rfl

theorem pathlit_pays (w : World) : PredAt Tryz.prog 148 #[] Value.string (fun s => !wordB s.size) w := by
  intro W x _
  exact (pathlit_any x W).mono fun e w' ⟨he, hw⟩ => ⟨he, 0, by rw [← hw]; rfl⟩

theorem below_drewN {B : Nat} {a w : World} (h : Below B a w) (n : Nat) : Below B a (w.drewN n) := ⟨h.os, h.tape, h.output, h.size, h.block⟩

theorem path_empty (w : World) : Calls Tryz.prog 141 #[.string ⟨#[]⟩] w fun e w' => e = .returned (.tuple #[.slice none 0 0, .int .i64 0]) ∧ w = w' := by
  go_enter Tryz.func141, Tryz.ntmps141
  go_wp2
  go_ret2
  exact ⟨rfl, rfl⟩

set_option maxRecDepth 100000 in
theorem path_any (s : ByteArray) (w : World) (hne : s.toList.isEmpty = false) (hs : s.size ≤ 1000000) (hm : HasMax w) :
    Calls Tryz.prog 141 #[.string s] w (PathPost s w) := by
  have hlen := pathNames_length s
  have hcl : Lib.countB s slashS ≤ s.size := Lib.countB_le slashS (by decide) _ s (Nat.le_refl _)
  go_enter Tryz.func141, Tryz.ntmps141
  go_wp2_with fail
  refine (clone_any s _ (by omega)).mono ?_
  rintro e w1 ⟨rfl, hb1⟩
  obtain ⟨m, hm1⟩ := hm.below hb1
  go_wp2_with fail
  refine (Tryz.strings_Split s slashS m _ (by omega) hm1 (by decide)).mono ?_
  rintro e w2 ⟨rfl, rfl⟩
  have hbel : Below w.heap.size w (w1.alloc (.cells ((pathNames s).map Value.string).toArray 9)) := hb1.alloc hb1.size _
  have hlies : Lies (w1.alloc (.cells ((pathNames s).map Value.string).toArray 9)) w1.heap.size 9 ((pathNames s).map Value.string) := Lies.made w1 9 _
  by_cases h4 : Lib.countB s slashS + 1 ≤ 4
  · have hany : (((pathNames s).take (Lib.countB s slashS + 1)).any fun n => !wordB n.size) = !((pathNames s).all fun n => wordB n.size) := by
      rw [List.take_of_length_le (by omega)]
      induction pathNames s with
      | nil => rfl
      | cons x l ih => simp only [List.any_cons, List.all_cons, ih, Bool.not_and]
    have H4 : ¬ (4 : Int) < (Lib.countB s slashS : Int) + 1 := by omega
    have Hany := veil hany
    have Hlen := veil hlen
    clear hany hlen
    go_wp2_with fail
    refine (Tryz.slices_ContainsFunc Value.string (fun n => !wordB n.size) 148 #[] (enters_of Tryz.func148 (by kernel_rfl) rfl) _ 0 _ _ (pathNames s) _ (pathlit_pays _) (by rw [Hlen.out]; omega) (by omega) ?hc).mono ?_
    case hc =>
      intro j hj
      have := hlies.cell j
      rw [Nat.zero_add]
      refine this.trans ?_
      rw [List.getElem?_map, List.getElem?_eq_getElem hj, getElem!_pos (pathNames s) j hj]
      rfl
    rintro e w' ⟨rfl, q, rfl⟩
    rw [Hany.out]
    by_cases hall : ((pathNames s).all fun n => wordB n.size) = true
    · have hok : pathOk s = true := by unfold pathOk; rw [hall, Hlen.out]; simp; omega
      rw [hall]
      have Hok := veil hok
      clear hok hall
      go_wp2
      go_ret2
      exact ⟨below_drewN hbel q, .inl ⟨Hok.out, _, hb1.size, by rw [Hlen.out]; rfl, hlies⟩⟩
    · have hok : pathOk s = false := by unfold pathOk; rw [eq_false_of_ne_true hall]; simp
      rw [eq_false_of_ne_true hall]
      have Hok := veil hok
      clear hok hall
      go_wp2
      go_ret2
      exact ⟨below_drewN hbel q, .inr ⟨Hok.out, rfl⟩⟩
  · have hok : pathOk s = false := by unfold pathOk; rw [hlen]; simp; omega
    have Hok := veil hok
    clear hok hlen
    go_wp2
    go_ret2
    exact ⟨hbel, .inr ⟨Hok.out, rfl⟩⟩
end Go.Proofs.YtjonmggkmalgaaaGreatDoor

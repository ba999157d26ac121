/-
  cmd.own, cmd.key, cmd.names: names and keys that begin with a byte 0 are nobody's.
-/
import Derived.Test.YtjonmggkmalgaaaGreatDoorW05Path
namespace Go.Proofs.YtjonmggkmalgaaaGreatDoor
open Go.RowKit

/-- Does it begin with a byte 0? -/
def ownB (s : ByteArray) : Bool := Lib.hasPrefix s.data.toList [0]
def keyOk (s : ByteArray) : Bool := wordB s.size && !ownB s
def namesOk (s : ByteArray) : Bool := pathOk s && (pathNames s).all fun n => !ownB n

theorem own_any (s : ByteArray) (w : World) : Calls Tryz.prog 142 #[.string s] w fun e w' => e = .returned (.bool (ownB s)) ∧ w = w' := by
  go_enter Tryz.func142, Tryz.ntmps142
  go_wp2_with fail
  refine (Tryz.strings_HasPrefix s ⟨#[0]⟩ _).mono ?_
  rintro e w' ⟨rfl, rfl⟩
  go_wp2
  go_ret
  exact ⟨rfl, rfl⟩

theorem key_yes (s : ByteArray) (w : World) (h : keyOk s = true) : Calls Tryz.prog 134 #[.string s] w fun e w' => e = .returned (.int .i64 0) ∧ w = w' := by
  unfold keyOk at h
  simp only [Bool.and_eq_true, Bool.not_eq_true'] at h
  obtain ⟨h1, h2⟩ := h
  have h3 : 1 ≤ s.size ∧ s.size ≤ 32 := by simpa [wordB] using h1
  clear h1
  obtain ⟨h3, h4⟩ := h3
  have H2 := veil h2
  clear h2
  have a1 : ¬ ((s.size : Int) < 1) := by omega
  have a2 : ¬ ((32 : Int) < s.size) := by omega
  go_enter Tryz.func134, Tryz.ntmps134
  go_wp2_with fail
  refine (own_any s _).mono ?_
  rintro e w' ⟨rfl, rfl⟩
  rw [H2.out]
  go_wp2
  go_ret
  exact ⟨rfl, rfl⟩

/-- What cmd.names comes to at a path that is not empty. -/
def NamesPost (s : ByteArray) (w : World) (e : Ending) (w' : World) : Prop :=
  Below w.heap.size w w' ∧
  ((namesOk s = true ∧ ∃ g, w.heap.size ≤ g ∧ e = .returned (.tuple #[.slice (some ⟨g, 0, none⟩) (pathNames s).length (pathNames s).length, .int .i64 0]) ∧ Lies w' g 9 ((pathNames s).map Value.string)) ∨
   (namesOk s = false ∧ e = .returned (.tuple #[.slice none 0 0, .int .i64 1])))

theorem names_empty (w : World) : Calls Tryz.prog 131 #[.string ⟨#[]⟩] w fun e w' => e = .returned (.tuple #[.slice none 0 0, .int .i64 0]) ∧ w = w' := by
  go_enter Tryz.func131, Tryz.ntmps131
  go_wp2_with fail
  refine (path_empty _).mono ?_
  rintro e w' ⟨rfl, rfl⟩
  go_wp2_with fail
  go_loop [15] (fun i => i = .int .i64 0) (fun _ => 0)
  case atStart => rfl
  case round =>
    subst hrel
    go_wp2
    go_ret2
    exact ⟨rfl, rfl⟩

set_option maxRecDepth 100000 in
theorem names_any (s : ByteArray) (w : World) (hne : s.toList.isEmpty = false) (hs : s.size ≤ 1000000) (hm : HasMax w) :
    Calls Tryz.prog 131 #[.string s] w (NamesPost s w) := by
  have hlen := pathNames_length s
  have hcl : Lib.countB s slashS ≤ s.size := Lib.countB_le slashS (by decide) _ s (Nat.le_refl _)
  have hl2 : (pathNames s).length ≤ 1000001 := by omega
  clear hlen hcl
  go_enter Tryz.func131, Tryz.ntmps131
  go_wp2_with fail
  refine (path_any s _ hne hs hm).mono ?_
  rintro e w1 ⟨hb, ⟨hok, g, hg, rfl, hl⟩ | ⟨hok, rfl⟩⟩
  · have Hok := veil hok
    clear hok
    go_wp2_with fail
    go_loop [15] (fun i => ∃ k : Nat, k ≤ (pathNames s).length ∧ i = .int .i64 k ∧ ∀ j (hj : j < (pathNames s).length), j < k → ownB (pathNames s)[j] = false) (fun i => (pathNames s).length - (intOf i).toNat)
    case atStart => exact ⟨0, Nat.zero_le _, rfl, fun j _ hj => absurd hj (by omega)⟩
    case round =>
      obtain ⟨k, hk, rfl, hall⟩ := hrel
      have Hall := veil hall
      clear hall
      by_cases hlt : k < (pathNames s).length
      · have hc : w1.cell? ⟨g, k, none⟩ = some (.string (pathNames s)[k]) := by
          rw [hl.cell k, List.getElem?_map, List.getElem?_eq_getElem hlt]; rfl
        go_wp2_with fail
        refine (own_any _ _).mono ?_
        rintro e w' ⟨rfl, rfl⟩
        by_cases hown : ownB (pathNames s)[k] = true
        · rw [hown]
          have Hown := veil hown
          clear hown
          go_wp2
          go_ret2
          refine ⟨hb, .inr ⟨?_, rfl⟩⟩
          unfold namesOk
          rw [Bool.and_eq_false_iff]
          right
          rw [List.all_eq_false]
          exact ⟨_, List.getElem_mem hlt, by rw [Hown.out]; decide⟩
        · rw [eq_false_of_ne_true hown]
          have Hown := veil (eq_false_of_ne_true hown)
          clear hown
          go_wp2
          go_round
          case rel =>
            refine ⟨k + 1, by omega, by go_num, fun j hj hjk => ?_⟩
            by_cases e : j = k
            · subst e; exact Hown.out
            · exact Hall.out j hj (by omega)
          case measure => simp [intOf]; omega
      · go_wp2
        go_ret2
        obtain rfl : k = (pathNames s).length := by omega
        refine ⟨hb, .inl ⟨?_, g, hg, rfl, hl⟩⟩
        unfold namesOk
        rw [Hok.out, Bool.true_and, List.all_eq_true]
        intro n hn
        obtain ⟨j, hj, rfl⟩ := List.getElem_of_mem hn
        rw [Hall.out j hj hj]
        rfl
  · have Hok := veil hok
    clear hok
    go_wp2_with fail
    go_loop [15] (fun i => i = .int .i64 0) (fun _ => 0)
    case atStart => rfl
    case round =>
      subst hrel
      go_wp2
      go_ret2
      exact ⟨hb, .inr ⟨by unfold namesOk; rw [Hok.out]; rfl, rfl⟩⟩
end Go.Proofs.YtjonmggkmalgaaaGreatDoor

/-
  cmd.plain: finding a box at a path (the root, or one within it), and what is done there.
-/
import Derived.Test.YtjonmggkmalgaaaGreatDoorW07Box
namespace Go.Proofs.YtjonmggkmalgaaaGreatDoor
open Go.RowKit Go.Maps Go.WideMaps Go.WideElems

/-- A receiver 'plain': the root's pointer. -/
abbrev plainV (r : Nat) : Value := .agg #[.pointer (some ⟨r, 0, none⟩)]

/-- From the root r the path p leads to the box at block c: the root itself, or the one of that name within it. -/
def Leads (w : World) (r : Nat) (p : ByteArray) (c : Nat) : Prop :=
  (p = ⟨#[]⟩ ∧ c = r) ∨
  (pathOk p = true ∧ pathNames p = [p] ∧ p.toList.isEmpty = false ∧ ∃ bv bi seq n V I, BoxAt w r bv bi seq n V I ∧ Maps.has V (keyL p) = false ∧ Maps.has I (keyL p) = true ∧ I.atKey (keyL p) .nil = .lit (.int .u64 c))
/-- .. leads nowhere. -/
def Leadsnot (w : World) (r : Nat) (p : ByteArray) : Prop :=
  pathOk p = true ∧ pathNames p = [p] ∧ p.toList.isEmpty = false ∧ ∃ bv bi seq n V I, BoxAt w r bv bi seq n V I ∧ Maps.has V (keyL p) = false ∧ Maps.has I (keyL p) = false

theorem pathOk_size {p : ByteArray} (h : pathOk p = true) (hn : pathNames p = [p]) : p.size ≤ 32 := by
  unfold pathOk at h
  rw [hn] at h
  simp [wordB] at h
  omega

theorem Leads.below {w w' : World} {r c : Nat} {p : ByteArray} (h : Leads w r p c) (hb : Below w.heap.size w w') : Leads w' r p c := by
  rcases h with h | ⟨h1, h2, h3, bv, bi, seq, n, V, I, hB, h4⟩
  · exact .inl h
  · exact .inr ⟨h1, h2, h3, bv, bi, seq, n, V, I, hB.below hb, h4⟩

def FindPost (w : World) (v : Value) (x : Int) (e : Ending) (w' : World) : Prop := e = .returned (.tuple #[v, .int .i64 x]) ∧ Below w.heap.size w w'

set_option maxRecDepth 100000 in
theorem find_ok (r c : Nat) (p : ByteArray) (w : World) (h : Leads w r p c) (hm : HasMax w) :
    Calls Tryz.prog 210 #[plainV r, .string p] w (FindPost w (.pointer (some ⟨c, 0, none⟩)) 0) := by
  rcases h with ⟨rfl, rfl⟩ | ⟨hok, hnames, hne, bv, bi, seq, n, V, I, hB, hV, hI, hat⟩
  · go_enter Tryz.func210, Tryz.ntmps210
    go_wp2_with fail
    refine (path_empty _).mono ?_
    rintro e w' ⟨rfl, rfl⟩
    go_wp2_with fail
    go_loop [8, 27] (fun b i => b = .pointer (some ⟨c, 0, none⟩) ∧ i = .int .i64 0) (fun _ _ => 0)
    case atStart => exact ⟨rfl, rfl⟩
    case round =>
      obtain ⟨rfl, rfl⟩ := hrel
      go_wp2
      go_ret2
      exact ⟨rfl, (Below.refl _ _).alloc (Nat.le_refl _) _⟩
  · have hp32 := pathOk_size hok hnames
    have Hok := veil hok
    have Hnames := veil hnames
    clear hok hnames
    go_enter Tryz.func210, Tryz.ntmps210
    go_wp2_with fail
    have hm1 : HasMax (w.alloc (.cells #[.pointer (some ⟨r, 0, none⟩)] 127)) := hm.below ((Below.refl _ _).alloc (Nat.le_refl _) _)
    refine (path_any p _ hne (by omega) hm1).mono ?_
    rintro e w1 ⟨hb, ⟨_, g, hg, rfl, hl⟩ | ⟨hok', _⟩⟩
    · have hl1 : (pathNames p).length = 1 := by rw [Hnames.out]; rfl
      have hbw : Below w.heap.size w w1 := ((Below.refl _ _).alloc (Nat.le_refl _) _).trans (hb.mono (by simp))
      have hB1 := hB.below hbw
      rw [hl1]
      have cn : w1.cell? ⟨g, 0, none⟩ = some (.string p) := by rw [hl.cell 0, Hnames.out]; rfl
      have cr : w1.cell? ⟨w.heap.size, 0, none⟩ = some (.pointer (some ⟨r, 0, none⟩)) := (hb.cell (p := ⟨w.heap.size, 0, none⟩) (by simp)).trans (by simp)
      clear hl hl1 hg
      have c1 : w1.cell? ⟨r, 1, none⟩ = some (.map (some bv)) := hB1.lies.cell 1
      have c2 : w1.cell? ⟨r, 2, none⟩ = some (.map (some bi)) := hB1.lies.cell 2
      have k1 := look_ptr_yes hB1.ins (by omega) hI hat
      have k2 := look_str_no hB1.vals (by omega) hV
      clear hV hI hat
      go_wp2_with fail
      go_loop [8, 27] (fun b i => (b = .pointer (some ⟨r, 0, none⟩) ∧ i = .int .i64 0) ∨ (b = .pointer (some ⟨c, 0, none⟩) ∧ i = .int .i64 1)) (fun _ i => 1 - (intOf i).toNat)
      case atStart => exact .inl ⟨rfl, rfl⟩
      case round =>
        rcases hrel with ⟨rfl, rfl⟩ | ⟨rfl, rfl⟩
        · go_wp2
          go_round
          case rel => exact .inr ⟨rfl, rfl⟩
          case measure => simp [intOf]
        · go_wp2
          go_ret2
          exact ⟨rfl, hbw⟩
    · rw [Hok.out] at hok'; cases hok'

set_option maxRecDepth 100000 in
theorem find_none (r : Nat) (p : ByteArray) (w : World) (h : Leadsnot w r p) (hm : HasMax w) :
    Calls Tryz.prog 210 #[plainV r, .string p] w (FindPost w (.pointer none) 8) := by
  obtain ⟨hok, hnames, hne, bv, bi, seq, n, V, I, hB, hV, hI⟩ := h
  have hp32 := pathOk_size hok hnames
  have Hok := veil hok
  have Hnames := veil hnames
  clear hok hnames
  go_enter Tryz.func210, Tryz.ntmps210
  go_wp2_with fail
  have hm1 : HasMax (w.alloc (.cells #[.pointer (some ⟨r, 0, none⟩)] 127)) := hm.below ((Below.refl _ _).alloc (Nat.le_refl _) _)
  refine (path_any p _ hne (by omega) hm1).mono ?_
  rintro e w1 ⟨hb, ⟨_, g, hg, rfl, hl⟩ | ⟨hok', _⟩⟩
  · have hl1 : (pathNames p).length = 1 := by rw [Hnames.out]; rfl
    have hbw : Below w.heap.size w w1 := ((Below.refl _ _).alloc (Nat.le_refl _) _).trans (hb.mono (by simp))
    have hB1 := hB.below hbw
    rw [hl1]
    have cn : w1.cell? ⟨g, 0, none⟩ = some (.string p) := by rw [hl.cell 0, Hnames.out]; rfl
    have cr : w1.cell? ⟨w.heap.size, 0, none⟩ = some (.pointer (some ⟨r, 0, none⟩)) := (hb.cell (p := ⟨w.heap.size, 0, none⟩) (by simp)).trans (by simp)
    clear hl hl1 hg
    have c1 : w1.cell? ⟨r, 1, none⟩ = some (.map (some bv)) := hB1.lies.cell 1
    have c2 : w1.cell? ⟨r, 2, none⟩ = some (.map (some bi)) := hB1.lies.cell 2
    have k1 := look_ptr_no hB1.ins (by omega) hI
    have k2 := look_str_no hB1.vals (by omega) hV
    clear hV hI
    go_wp2_with fail
    go_loop [8, 27] (fun b i => b = .pointer (some ⟨r, 0, none⟩) ∧ i = .int .i64 0) (fun _ i => 1 - (intOf i).toNat)
    case atStart => exact ⟨rfl, rfl⟩
    case round =>
      obtain ⟨rfl, rfl⟩ := hrel
      go_wp2
      go_ret2
      exact ⟨rfl, hbw⟩
  · rw [Hok.out] at hok'; cases hok'

/-! ### what is done at a path that leads to a box -/
theorem Leads.alloc {w : World} {r c : Nat} {p : ByteArray} (h : Leads w r p c) (o : Obj) : Leads (w.alloc o) r p c := h.below ((Below.refl _ _).alloc (Nat.le_refl _) _)
theorem HasMax.alloc {w : World} (h : HasMax w) (o : Obj) : HasMax (w.alloc o) := h.below ((Below.refl _ _).alloc (Nat.le_refl _) _)
theorem Leadsnot.alloc {w : World} {r : Nat} {p : ByteArray} (h : Leadsnot w r p) (o : Obj) : Leadsnot (w.alloc o) r p := by
  obtain ⟨h1, h2, h3, bv, bi, seq, n, V, I, hB, h4⟩ := h
  exact ⟨h1, h2, h3, bv, bi, seq, n, V, I, hB.below ((Below.refl _ _).alloc (Nat.le_refl _) _), h4⟩
theorem below_after {w w1 : World} {o : Obj} (hb : Below (w.alloc o).heap.size (w.alloc o) w1) : Below w.heap.size w w1 := ((Below.refl _ _).alloc (Nat.le_refl _) _).trans (hb.mono (by simp))

theorem seq_ok (r c : Nat) (p : ByteArray) (q : Int) (bv bi n : Nat) (V I : Dat) (w : World) (h : Leads w r p c) (hm : HasMax w) (hB : BoxAt w c bv bi q n V I) :
    Calls Tryz.prog 207 #[plainV r, .string p] w (FindPost w (.int .i64 q) 0) := by
  go_enter Tryz.func207, Tryz.ntmps207
  go_wp2_with fail
  refine (find_ok r c p _ (h.alloc _) (hm.alloc _)).mono ?_
  rintro e w1 ⟨rfl, hb⟩
  have hbw := below_after hb
  have c0 : w1.cell? ⟨c, 0, none⟩ = some (.int .i64 q) := (hB.below hbw).lies.cell 0
  go_wp2
  go_ret2
  exact ⟨rfl, hbw⟩

theorem seq_none (r : Nat) (p : ByteArray) (w : World) (h : Leadsnot w r p) (hm : HasMax w) :
    Calls Tryz.prog 207 #[plainV r, .string p] w (FindPost w (.int .i64 0) 8) := by
  go_enter Tryz.func207, Tryz.ntmps207
  go_wp2_with fail
  refine (find_none r p _ (h.alloc _) (hm.alloc _)).mono ?_
  rintro e w1 ⟨rfl, hb⟩
  have hbw := below_after hb
  go_wp2
  go_ret2
  exact ⟨rfl, hbw⟩

/-- The box at c has the sequence q + 1; nothing else that was there has turned. -/
def NextPost (c bv bi n : Nat) (q : Int) (V I : Dat) (w : World) (e : Ending) (w' : World) : Prop :=
  e = .returned (.tuple #[.int .i64 (q + 1), .int .i64 0]) ∧ BoxAt w' c bv bi (q + 1) n V I ∧ Keeps (fun k => k = c) w w'

theorem next_ok (r c : Nat) (p : ByteArray) (q : Int) (bv bi n : Nat) (V I : Dat) (w : World) (h : Leads w r p c) (hm : HasMax w) (hB : BoxAt w c bv bi q n V I) (h0 : 0 ≤ q) (h1 : q ≤ 1000000) :
    Calls Tryz.prog 205 #[plainV r, .string p] w (NextPost c bv bi n q V I w) := by
  go_enter Tryz.func205, Tryz.ntmps205
  go_wp2_with fail
  refine (find_ok r c p _ (h.alloc _) (hm.alloc _)).mono ?_
  rintro e w1 ⟨rfl, hb⟩
  have hbw := below_after hb
  have hB1 := hB.below hbw
  have c0 : w1.cell? ⟨c, 0, none⟩ = some (.int .i64 q) := hB1.lies.cell 0
  have f0 : w1.frozen? ⟨c, 0, none⟩ = false := hB1.lies.frozen 0
  go_wp2
  go_ret2
  have hk : Keeps (fun k => k = c) w1 (w1.setCell ⟨c, 0, none⟩ (.int .i64 (q + 1))) := Keeps.setCell (S := fun k => k = c) (p := ⟨c, 0, none⟩) (Keeps.rfl' _ _) (.inr rfl) _
  have hvc : bv ≠ c := by
    rintro rfl
    obtain ⟨es, clock, hh, _⟩ := hB1.vals
    have := hB1.lies
    unfold Lies at this
    rw [hh] at this; cases this
  have hic : bi ≠ c := by
    rintro rfl
    obtain ⟨es, clock, hh, _⟩ := hB1.ins
    have := hB1.lies
    unfold Lies at this
    rw [hh] at this; cases this
  exact ⟨rfl, ⟨hB1.lies.put 0 _, map_keeps hB1.vals hk hvc, map_keeps hB1.ins hk hic, hB1.apart⟩, (Keeps.below (S := fun k => k = c) hbw (fun k hk hk' => absurd hk (by omega))).trans hk (fun k _ hk => hk)⟩

theorem at_ok (r c : Nat) (p s : ByteArray) (q : Int) (bv bi n : Nat) (V I : Dat) (w : World) (h : Leads w r p c) (hm : HasMax w) (hB : BoxAt w c bv bi q n V I) (hs : s.size ≤ 1000000) (hI : Maps.has I (keyL s) = false) :
    Calls Tryz.prog 208 #[plainV r, .string p, .string s] w (FindPost w (.pointer (some ⟨c, 0, none⟩)) 0) := by
  go_enter Tryz.func208, Tryz.ntmps208
  go_wp2_with fail
  refine (find_ok r c p _ (h.alloc _) (hm.alloc _)).mono ?_
  rintro e w1 ⟨rfl, hb⟩
  have hbw := below_after hb
  have hB1 := hB.below hbw
  have c2 : w1.cell? ⟨c, 2, none⟩ = some (.map (some bi)) := hB1.lies.cell 2
  have k1 := look_ptr_no hB1.ins (by omega) hI
  clear hI
  go_wp2
  go_ret2
  exact ⟨rfl, hbw⟩

def GetPost (w : World) (v : ByteArray) (is : Bool) (e : Ending) (w' : World) : Prop := e = .returned (.tuple #[.string v, .bool is, .int .i64 0]) ∧ Below w.heap.size w w'

theorem get_yes (r c : Nat) (p s v : ByteArray) (q : Int) (bv bi n : Nat) (V I : Dat) (w : World) (h : Leads w r p c) (hm : HasMax w) (hB : BoxAt w c bv bi q n V I) (hs : s.size ≤ 1000000) (hI : Maps.has I (keyL s) = false)
    (hV : Maps.has V (keyL s) = true) (hat : V.atKey (keyL s) (.lit (.string [])) = .lit (.string v.data.toList)) :
    Calls Tryz.prog 203 #[plainV r, .string p, .string s] w (GetPost w v true) := by
  go_enter Tryz.func203, Tryz.ntmps203
  go_wp2_with fail
  refine (at_ok r c p s q bv bi n V I _ (h.alloc _) (hm.alloc _) (hB.below ((Below.refl _ _).alloc (Nat.le_refl _) _)) hs hI).mono ?_
  rintro e w1 ⟨rfl, hb⟩
  have hbw := below_after hb
  have hB1 := hB.below hbw
  have c1 : w1.cell? ⟨c, 1, none⟩ = some (.map (some bv)) := hB1.lies.cell 1
  have k1 := look_str_yes hB1.vals (by omega) hV hat
  clear hI hV hat
  go_wp2
  go_ret3
  exact ⟨rfl, hbw⟩

theorem get_no (r c : Nat) (p s : ByteArray) (q : Int) (bv bi n : Nat) (V I : Dat) (w : World) (h : Leads w r p c) (hm : HasMax w) (hB : BoxAt w c bv bi q n V I) (hs : s.size ≤ 1000000) (hI : Maps.has I (keyL s) = false)
    (hV : Maps.has V (keyL s) = false) :
    Calls Tryz.prog 203 #[plainV r, .string p, .string s] w (GetPost w ⟨#[]⟩ false) := by
  go_enter Tryz.func203, Tryz.ntmps203
  go_wp2_with fail
  refine (at_ok r c p s q bv bi n V I _ (h.alloc _) (hm.alloc _) (hB.below ((Below.refl _ _).alloc (Nat.le_refl _) _)) hs hI).mono ?_
  rintro e w1 ⟨rfl, hb⟩
  have hbw := below_after hb
  have hB1 := hB.below hbw
  have c1 : w1.cell? ⟨c, 1, none⟩ = some (.map (some bv)) := hB1.lies.cell 1
  have k1 := look_str_no hB1.vals (by omega) hV
  clear hI hV
  go_wp2
  go_ret3
  exact ⟨rfl, hbw⟩
end Go.Proofs.YtjonmggkmalgaaaGreatDoor

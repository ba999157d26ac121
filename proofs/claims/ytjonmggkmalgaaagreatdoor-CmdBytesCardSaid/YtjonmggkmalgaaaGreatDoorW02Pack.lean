/-
  pack.Put: laying numbers and texts into bytes: each method appends just the bytes that it names, as long as nothing is wrong.
-/
import Derived.Test.YtjonmggkmalgaaaGreatDoorProg
import Derived.Test.YtjonmggkmalgaaaGreatDoorW01Words
import Derived.Lib.AppendStr
import Derived.Deep.RegionHeld3
import Derived.Deep.RegionLaw
import Derived.Deep.DrawnRows
import Derived.Outline
import Derived.WalkSpells
namespace Go.Proofs.YtjonmggkmalgaaaGreatDoor
open Go.RowKit
attribute [local go_sem ↓] Go.wp_at_zero Go.wp_at_succ

theorem infoU8 : (Tryz.prog.info? 5).map (fun i => (i.zero, i.size, i.bytes)) = some (some (.int .u8 0), 1, 1) := by kernel_rfl

/-- Block b is a pack.Put whose error is e and whose bytes are xs, in a row of its own behind b. -/
def PutAt (w : World) (b : Nat) (xs : List UInt8) (e : Int) : Prop :=
  ∃ v, Lies w b 78 [v, .int .i64 e] ∧ w.ownsRow (b + 1) 5 1 v xs.length (bytesV xs)

/-- What a pack.Put's method may turn: its own block, and rows of bytes behind it. -/
def U8 (b : Nat) (w : World) (k : Nat) : Prop := k = b ∨ (b < k ∧ ∃ cs, w.heap[k]? = some (.cells cs 5 (0, 0)))
def Spares (b : Nat) (w w' : World) : Prop := Keeps (U8 b w) w w'

section
variable {w w1 w2 : World} {b : Nat}
theorem Spares.rfl' (b : Nat) (w : World) : Spares b w w := Keeps.rfl' _ _
theorem Spares.trans (h : Spares b w w1) (h' : Spares b w1 w2) : Spares b w w2 := by
  refine Keeps.trans h h' (fun k hk hu => ?_)
  rcases hu with rfl | ⟨hb, cs, hc⟩
  · exact .inl rfl
  · by_cases hn : U8 b w k
    · exact hn
    · have := h.block k hk hn
      exact .inr ⟨hb, cs, by rw [← this]; exact hc⟩
theorem Spares.alloc (h : Spares b w w1) (o : Obj) : Spares b w (w1.alloc o) := Keeps.alloc h o
theorem Spares.drew (h : Spares b w w1) : Spares b w w1.drew := Keeps.drew h
theorem Spares.set_ (h : Spares b w w1) (i : Nat) (u : Value) : Spares b w (w1.setCell ⟨b, i, none⟩ u) := Keeps.setCell h (.inr (.inl rfl)) u
theorem Spares.below (h : Spares b w w1) (hb : b ≤ w.heap.size) : Below b w w1 := Keeps.toBelow h hb (fun k hk hu => by rcases hu with rfl | ⟨h1, _⟩ <;> omega)
theorem Spares.lies (h : Spares b w w1) {k : Nat} {t : TypeId} {cs : List Value} (hl : Lies w k t cs) (hk : k ≠ b) (ht : t ≠ 5) : Lies w1 k t cs :=
  hl.kept h (fun hu => by
    rcases hu with rfl | ⟨_, cs', hc⟩
    · exact hk rfl
    · unfold Lies at hl
      rw [hl] at hc
      injection hc with hc
      injection hc with _ hc
      exact ht hc)
theorem PutAt.lt {xs : List UInt8} {e : Int} (h : PutAt w b xs e) : b < w.heap.size := by
  obtain ⟨v, hl, _⟩ := h; exact hl.lt
end

theorem Spares.grew {w wr w1 : World} {b n : Nat} {sv : Value} {xs : List Value} (h : Spares b w wr) (hown : wr.ownsRow (b + 1) 5 1 sv n xs) (hg : wr.grownBy w1 sv.ownBlock) : Spares b w w1 := by
  refine h.trans (Keeps.grown (Keeps.rfl' _ _) hg (fun k _ hk => ?_))
  obtain ⟨h1, h2⟩ := own_lt hown hk
  rcases hown.2 with ⟨rfl, _⟩ | ⟨g, cap, cur, rfl, _, hh, _⟩
  · simp [Value.ownBlock] at hk
  · have : g = k := by simpa [Value.ownBlock] using hk
    subst this
    exact .inr ⟨by omega, cur, hh⟩
/-- The bytes' new row is stored. -/
theorem PutAt.stored {w1 : World} {b n : Nat} {sv v' : Value} {ys : List UInt8} {zs : List Value} (hl : Lies w1 b 78 [sv, .int .i64 0]) (hown : w1.ownsRow (b + 1) 5 1 v' n zs) (hn : n = ys.length) (hz : zs = bytesV ys) : PutAt (w1.setCell ⟨b, 0, none⟩ v') b ys 0 := by
  subst hn; subst hz
  refine ⟨v', hl.put 0 v', own_keeps (S := fun k => k = b) hown (Keeps.setCell (S := fun k => k = b) (p := ⟨b, 0, none⟩) (Keeps.rfl' _ _) (.inr rfl) _) (fun g hg hb => ?_)⟩
  have := (own_lt hown hg).1
  omega

/-- The error stays 0: nothing is wrong. -/
theorem fail_ok (b : Nat) (xs : List UInt8) (E : Int) (w : World) (h : PutAt w b xs 0) :
    Calls Tryz.prog 108 #[.pointer (some ⟨b, 0, none⟩), .bool false, .int .i64 E] w fun e w' => e = .returned (.bool false) ∧ w = w' := by
  obtain ⟨v, hl, _⟩ := h
  have c1 : w.cell? ⟨b, 1, none⟩ = some (.int .i64 0) := hl.cell 1
  go_enter Tryz.func108, Tryz.ntmps108
  go_wp2
  go_ret
  exact ⟨rfl, rfl⟩

/-- One byte of a number, as the walk has it. -/
def byteAt (v : Nat) (i : Nat) : UInt8 := UInt8.ofNat (v / 256 ^ i)
def lowBytes (v n : Nat) : List UInt8 := (List.range n).map (byteAt v)
theorem lowBytes_succ (v n : Nat) : lowBytes v (n + 1) = lowBytes v n ++ [byteAt v n] := by unfold lowBytes; rw [List.range_succ, List.map_append]; rfl
theorem byte_of_walk (v k : Nat) : (IntKind.u8.wrap ((v : Int) / 2 ^ (8 * (k : Int)).toNat)) = ((byteAt v k).toNat : Int) := by
  have e : (8 * (k : Int)).toNat = 8 * k := by omega
  rw [e]
  have e2 : (2 : Int) ^ (8 * k) = ((256 ^ k : Nat) : Int) := by
    rw [Int.pow_mul, Int.natCast_pow]; rfl
  rw [e2]
  unfold byteAt
  have e3 : (v : Int) / ((256 ^ k : Nat) : Int) = ((v / 256 ^ k : Nat) : Int) := (Int.natCast_ediv v (256 ^ k)).symm
  rw [e3]
  rw [UInt8.toNat_ofNat', IntKind.wrap_u8]
  omega
theorem lowBytes_length (v n : Nat) : (lowBytes v n).length = n := by unfold lowBytes; rw [List.length_map, List.length_range]

def PutsPost (b : Nat) (w : World) (ys : List UInt8) (e : Ending) (w' : World) : Prop :=
  e = .returned (.pointer (some ⟨b, 0, none⟩)) ∧ PutAt w' b ys 0 ∧ Spares b w w'

set_option maxHeartbeats 1000000 in
set_option maxRecDepth 100000 in
theorem low_calls (b : Nat) (xs : List UInt8) (v : Nat) (n : Nat) (w : World) (h : PutAt w b xs 0) (hn : n ≤ 8) (hx : xs.length ≤ 1000000000) :
    Calls Tryz.prog 138 #[.pointer (some ⟨b, 0, none⟩), .int .u64 v, .int .i64 n] w (PutsPost b w (xs ++ lowBytes v n)) := by
  obtain ⟨i0, hi, hz0, hz1, hz2⟩ := info_parts infoU8
  go_enter Tryz.func138, Tryz.ntmps138
  go_wp2
  go_loopw [9] (fun i wr => ∃ k : Nat, k ≤ n ∧ i = .int .i64 k ∧ PutAt wr b (xs ++ lowBytes v k) 0 ∧ Spares b w wr) (fun i _ => n - (intOf i).toNat)
  case atStart => exact ⟨0, Nat.zero_le _, rfl, by simpa [lowBytes] using h, Spares.rfl' _ _⟩
  case round =>
    obtain ⟨k, hk, rfl, hp, hs⟩ := hrel
    by_cases hlt : k < n
    · obtain ⟨sv, hl, hown⟩ := hp
      have c0 : wr.cell? ⟨b, 0, none⟩ = some sv := hl.cell 0
      have ca : ∀ o, (wr.alloc o).cell? ⟨b, 0, none⟩ = some sv := fun o => (hl.alloc o).cell 0
      have hne : sv.ownBlock ≠ some b := own_lies_ne hown hl (by decide)
      have e1 : IntKind.i64.wrap (8 * (k : Int)) = 8 * (k : Int) := IntWalk.i64_in _ (by omega)
      have e2 : 0 ≤ 8 * (k : Int) := by omega
      have e3 : 8 * (k : Int) ≤ 64 := by omega
      have hlen : (xs ++ lowBytes v k).length ≤ 1000000008 := by rw [List.length_append, lowBytes_length]; omega
      go_wp2
      go_region_law
        ((refine step_append_lies _ (by rfl) _ _ _ (by rfl) (b + 1) 5 i0 _ 1 1 Tryz.underlying76 hi hz0 hz1 hz2 rfl (by omega) sv _ _ (by rfl) ((hown.alloc _).drew)
            ⟨wr.heap.size, 0, none⟩ 1 1 [.int .u8 (IntKind.u8.wrap ((v : Int) / 2 ^ (8 * (k : Int)).toNat))] (by rfl) (by rfl) (World.news_of_block (cs := #[.int .u8 (IntKind.u8.wrap ((v : Int) / 2 ^ (8 * (k : Int)).toNat))]) (t := 5) (fr := (0, 0)) (heap_alloc_new wr _)) (by simp [Value.oneCell'])
            (by omega) (by unfold maxLen; omega) (by omega) (by have := hl.lt; simp; omega) (wr.heap.size + 1) (by simp) ?_; intro g cap w1 hown1 hgrow hat hglt; have l1 := ((hl.alloc _).drew).grown hgrow (fun e => hne e.symm); have c1 : w1.cell? ⟨b, 0, none⟩ = some sv := l1.cell 0; have f1 : w1.frozen? ⟨b, 0, none⟩ = false := l1.frozen 0))
      all_goals
        have hs1 : Spares b w w1 := ((hs.alloc _).drew).grew ((hown.alloc _).drew) hgrow
        have hput := PutAt.stored (ys := xs ++ lowBytes v (k + 1)) l1 hown1 (by rw [lowBytes_succ]; simp; omega) (by rw [lowBytes_succ, byte_of_walk, ← List.append_assoc, bytesV_append (xs ++ lowBytes v k)]; rfl)
        have hs2 := hs1.set_ 0 (.slice (some ⟨g, 0, none⟩) ((xs ++ lowBytes v k).length + 1) cap)
        rw [List.length_append] at hput hs2
        clear hown1 hgrow hs1 l1 c1 f1 ca c0 hl hown e1
        go_wp2
        go_roundw
        case rel => exact ⟨k + 1, by omega, by go_num, hput, hs2⟩
        case measure => simp [intOf]; omega
    · go_wp2
      go_ret
      obtain rfl : k = n := by omega
      exact ⟨rfl, hp, hs⟩
end Go.Proofs.YtjonmggkmalgaaaGreatDoor

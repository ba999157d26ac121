/-
  The law CmdCounts: the walk.
-/
import Derived.Test.YtjonmggkmalgaaaDoorW33Counts
namespace Go.Proofs.YtjonmggkmalgaaaDoor
open Go.RowKit Go.Maps Go.WideMaps Go.WideElems Go.Lib

/-- What the key has: nothing (the sum is 0 then), or the sum. -/
def Sums (V : Dat) (k : ByteArray) (x : Int) : Prop := Maps.IsMap V ∧ ((Maps.has V (keyL k) = false ∧ x = 0) ∨ (Maps.has V (keyL k) = true ∧ V.atKey (keyL k) (.lit (.string [])) = .lit (.string (digS x).data.toList)))

theorem tmod_bounds (z : Int) : -1000000000000 < z.tmod 1000000000000 ∧ z.tmod 1000000000000 < 1000000000000 := by
  have h1 := Int.tmod_lt_of_pos z (b := 1000000000000) (by decide)
  have h2 := Int.lt_tmod_of_pos z (b := 1000000000000) (by decide)
  omega

theorem is_map_put {V : Dat} (h : Maps.IsMap V) (k : Lit) (d : Dat) : Maps.IsMap (V.put k d) := by obtain ⟨es, rfl⟩ := h; exact ⟨_, rfl⟩

set_option maxHeartbeats 2000000 in
set_option maxRecDepth 100000 in
theorem counts_good (a : ByteArray) (x : Option Addr) (n cap : Nat) (f : Nat → Int) (w : World) (hg : Glob w) (hx : Ints w x n f) (hga : Goodkey a) (hn : n ≤ 40) :
    Calls Tryd.prog 3 #[.string a, .slice x n cap] w (LivePost w) := by
  have ha1 : ¬ ((a.size : Int) < 1) := by have := hga.low; omega
  have ha2 : ¬ ((32 : Int) < a.size) := by have := hga.high; omega
  have z1 : (0 : Int) < a.size := by omega
  have ha0 : (((a[0]'(by omega)).toNat : Int) == 0) = false := by
    rw [beq_eq_false_iff_ne]
    intro e
    exact hga.own (by omega) (UInt8.toNat_inj.1 (by simp; omega))
  have hn6 : ¬ ((40 : Int) < (n : Int)) := by omega
  obtain ⟨g1, g2⟩ := hg.lt
  have HG := veil hga
  have HX := veil hx
  clear hga hx
  go_enter Tryd.func3, Tryd.ntmps3
  go_wp2_with fail
  refine (alive_ok _ hg).mono ?_
  rintro e w1 ⟨rfl, hb⟩
  clear ha1 ha2 ha0
  go_wp2_with fail
  refine (new_any _).mono ?_
  rintro e w2 ⟨st, r, rv, ri, rfl, n1, n2, n3, n4, hsr, hS2, hB2, hb2⟩
  have hbw2 := hb.trans (hb2.mono hb.size)
  have hsz1 := hb.size
  have hsz2 := hbw2.size
  have H2 := veil (And.intro hS2 (And.intro hB2 hbw2))
  clear hS2 hB2 hbw2 hb2
  go_wp2_with fail
  go_loopw [6, 7] (fun t i wr => ∃ (k : Nat) (y : Int) (V : Dat), i = .int .i64 k ∧ k ≤ n ∧ t = .int .i64 y ∧ -(1000000000000 * (k : Int)) ≤ y ∧ y ≤ 1000000000000 * (k : Int) ∧ Sums V a y ∧ BoxAt wr r rv ri 0 k V (.map []) ∧ StAt wr st r ∧ Below w.heap.size w wr) (fun _ i _ => n - (intOf i).toNat)
  case atStart => exact ⟨0, 0, _, rfl, Nat.zero_le _, rfl, by decide, by decide, ⟨is_map0, .inl ⟨rfl, rfl⟩⟩, H2.out.2.1, H2.out.1, H2.out.2.2⟩
  case round =>
    obtain ⟨k, y, V, rfl, hkn, rfl, hy0, hy1, HS, hB, hS, hbr⟩ := hrel
    have hszr := hbr.size
    have hhigh := HG.out.high
    by_cases hlt : k < n
    · obtain ⟨bb, off, rfl, hcell0, hf0, hf1⟩ := HX.out k hlt
      have hcell : wr.cell? ⟨bb, off + k, none⟩ = some (.int .i64 (f k)) := (hbr.cell (World.block_lt_of_cell? w _ hcell0)).trans hcell0
      have hi0 : (0 : Int) ≤ (k : Int) := by omega
      have hi1 : (k : Int) < (n : Int) := by omega
      obtain ⟨t0, t1⟩ := tmod_bounds (f k)
      clear hcell0
      have HSv := veil HS
      have HBv := veil (And.intro hB hS)
      clear HS hB hS
      go_wp2_with fail
      generalize hvv : (f k).tmod 1000000000000 = v at t0 t1 ⊢
      clear hvv
      have y0 : -1000000000000000000 < y := by omega
      have y1 : y < 1000000000000000000 := by omega
      have v0 : -1000000000000000000 < v := by omega
      have v1 : v < 1000000000000000000 := by omega
      have s0 : -1000000000000000000 < y + v := by omega
      have s1 : y + v < 1000000000000000000 := by omega
      refine (digits_ref v _ v0 v1).mono ?_
      rintro e w3 ⟨rfl, hb3⟩
      have hbw3 := hbr.trans (hb3.mono hszr)
      have hszw3 := hbw3.size
      have hB3 := HBv.out.1.below hb3
      have hS3 := HBv.out.2.below hb3 HBv.out.2.lt
      have hadd := veil (st_add st r rv ri k 0 V (.map []) a w3 y v (hg.below hbw3) HG.out.keyOk (by omega) hB3 (by omega) rfl HSv.out.2 y0 y1 v0 v1 s0 s1 (by omega) (by omega) hS3)
      clear hB3 hS3
      go_wp2_with fail
      refine hadd.out.mono ?_
      rintro e w4 ⟨rfl, ⟨_, hB4, hk4⟩, hS4⟩
      have hsz4 := hk4.size
      have hm4 := Lies.made w4 28 [.int .i64 0, .string (digS (y + v))]
      have ha4 := (Below.refl w4.heap.size w4).alloc (Nat.le_refl _) (.cells #[.int .i64 0, .string (digS (y + v))] 28)
      have hbw4 := hbw3.trans (hk4.toBelow hszw3 (fun j hj => by omega))
      have hszw4 := hbw4.size
      have d0 := hm4.cell 0
      have d1 := hm4.cell 1
      clear hadd
      simp at d0 d1
      go_wp2_with fail
      go_region_held3 (fun w' => w'.cell? ⟨w4.heap.size, 0, none⟩ = some (.int .i64 0) ∧ w'.cell? ⟨w4.heap.size, 1, none⟩ = some (.string (digS (y + v))))
        (first
          | exact ⟨hm4.cell 0, hm4.cell 1⟩
          | exact ⟨hm5.cell 0, hm5.cell 1⟩)
        ((go_at_call 8; refine (digits_ref (y + v) _ s0 s1).mono ?_; rintro e w5 ⟨rfl, hb5⟩; have hm5 := (hm4.drew).below hb5 (hm4.drew).lt))
      all_goals (
        have hb5' := (ha4.drew).trans (hb5.mono (by simp))
        have hB5 := hB4.below hb5'
        have hS5 := hS4.below hb5' hS4.lt
        have hbw5 := hbw4.trans (hb5'.mono hszw4)
        clear hm4 hm5 d0 d1
        go_wp2
        go_roundw
        case rel =>
          refine ⟨k + 1, y + v, _, by go_num, by omega, rfl, by omega, by omega, ⟨is_map_put HSv.out.1 _ _, .inr ⟨has_put_same HSv.out.1 (keyL_is _) _, atKey_put_same HSv.out.1 (keyL_is _) _ _⟩⟩, hB5, hS5, hbw5⟩
        case measure => simp [intOf]; omega)
    · obtain rfl : k = n := by omega
      have HSv := veil HS
      have hput := st_put st r rv ri k 0 V (.map []) a wr ⟨#[120]⟩ (hg.below hbr).1 HG.out.keyOk (by omega) (by decide) hB (by omega) rfl hS
      have hrv := hB.lts.2.1
      clear HS hB hS
      go_wp2_with fail
      refine hput.mono ?_
      rintro e w3 ⟨rfl, ⟨_, hB3, hk3⟩, hS3⟩
      have hbw3 := hbr.trans (hk3.toBelow hszr (fun j hj => by omega))
      have hsz3 := hbw3.size
      have hv1 : Maps.IsMap (V.put (keyL a) (.lit (.string [120]))) := is_map_put HSv.out.1 _ _
      have hadd := st_add_wrong st r rv ri (k + 1) 0 _ (.map []) a w3 1 (hg.below hbw3).1 HG.out.keyOk (by omega) hB3 (by omega) rfl (has_put_same HSv.out.1 (keyL_is _) _) (atKey_put_same HSv.out.1 (keyL_is _) _ _) (by decide) (by decide) hS3
      rw [dig1] at hadd
      clear hput
      go_wp2_with fail
      refine hadd.mono ?_
      rintro e w4 ⟨rfl, hb4⟩
      have hbw4 := hbw3.trans (hb4.mono hsz3)
      have hsz4 := hbw4.size
      have hB4 := hB3.below hb4
      have hS4 := hS3.below hb4 hS3.lt
      have hsw := st_swap_wrong st r rv ri (k + 1) 0 _ (.map []) a w4 ⟨#[122]⟩ (hg.below hbw4).1 HG.out.keyOk (by omega) (by decide) hB4 (by omega) rfl (has_put_same HSv.out.1 (keyL_is _) _) (atKey_put_same HSv.out.1 (keyL_is _) _ _) hS4
      clear hadd hB3 hS3
      go_wp2_with fail
      refine hsw.mono ?_
      rintro e w5 ⟨rfl, hb5⟩
      have hbw5 := hbw4.trans (hb5.mono hsz4)
      have hsz5 := hbw5.size
      have hB5 := hB4.below hb5
      have hS5 := hS4.below hb5 hS4.lt
      have hok := st_swap_ok st r rv ri (k + 1) 0 _ (.map []) a w5 ⟨#[122]⟩ ⟨#[120]⟩ (hg.below hbw5).1 HG.out.keyOk (by omega) (by decide) hB5 (by omega) rfl (has_put_same HSv.out.1 (keyL_is _) _) (atKey_put_same HSv.out.1 (keyL_is _) _ _) hS5
      clear hsw hB4 hS4
      go_wp2_with fail
      refine hok.mono ?_
      rintro e w6 ⟨rfl, ⟨_, hB6, hk6⟩, hS6⟩
      have hbw6 := hbw5.trans (hk6.toBelow hsz5 (fun j hj => by omega))
      have hsz6 := hbw6.size
      have hdel := st_del st r rv ri (k + 1 + 1) 0 _ (.map []) a w6 ⟨#[122]⟩ (hg.below hbw6).1 HG.out.keyOk (by omega) hB6 (by omega) rfl (has_put_same hv1 (keyL_is _) _) (atKey_put_same hv1 (keyL_is _) _ _) hS6
      clear hok hB5 hS5
      go_wp2_with fail
      refine hdel.mono ?_
      rintro e w7 ⟨rfl, ⟨_, hB7, hk7⟩, hS7⟩
      have hbw7 := hbw6.trans (hk7.toBelow hsz6 (fun j hj => by omega))
      have hno := st_swap_none st r rv ri (k + 1 + 1) 0 _ (.map []) a w7 ⟨#[]⟩ ⟨#[122]⟩ (hg.below hbw7).1 HG.out.keyOk (by omega) (by decide) hB7 (by omega) rfl has_del_same hS7
      clear hdel hB6 hS6
      go_wp2_with fail
      refine hno.mono ?_
      rintro e w8 ⟨rfl, hb8⟩
      go_wp2
      go_ret
      exact ⟨rfl, hbw7.trans (hb8.mono hbw7.size)⟩
end Go.Proofs.YtjonmggkmalgaaaDoor

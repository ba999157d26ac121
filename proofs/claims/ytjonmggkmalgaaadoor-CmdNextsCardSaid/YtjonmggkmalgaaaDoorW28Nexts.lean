/-
  The law CmdNexts: the walk.
-/
import Derived.Test.YtjonmggkmalgaaaDoorW27Nexts
namespace Go.Proofs.YtjonmggkmalgaaaDoor
open Go.RowKit Go.Maps Go.WideMaps Go.WideElems Go.Lib

set_option maxHeartbeats 2000000 in
set_option maxRecDepth 100000 in
theorem nexts_good (a b : ByteArray) (x : Option Addr) (n cap : Nat) (f : Nat → Bool) (w : World) (hg : Glob w) (hx : Bools w x n f) (hga : Goodkey a) (hgb : Goodkey b) (hne : a ≠ b) (hn : n ≤ 60) :
    Calls Tryd.prog 4 #[.string a, .string b, .slice x n cap] w (LivePost w) := by
  have ha1 : ¬ ((a.size : Int) < 1) := by have := hga.low; omega
  have hb1 : ¬ ((b.size : Int) < 1) := by have := hgb.low; omega
  have ha2 : ¬ ((32 : Int) < a.size) := by have := hga.high; omega
  have hb2 : ¬ ((32 : Int) < b.size) := by have := hgb.high; omega
  have hab : (a.toList == b.toList) = false := by
    rw [beq_eq_false_iff_ne, ByteArray.toList_eq, ByteArray.toList_eq]
    exact fun e => hne (bytes_ext e)
  have z1 : (0 : Int) < a.size := by omega
  have z2 : (0 : Int) < b.size := by omega
  have ha0 : (((a[0]'(by omega)).toNat : Int) == 0) = false := by
    rw [beq_eq_false_iff_ne]
    intro e
    exact hga.own (by omega) (UInt8.toNat_inj.1 (by simp; omega))
  have hb0 : (((b[0]'(by omega)).toNat : Int) == 0) = false := by
    rw [beq_eq_false_iff_ne]
    intro e
    exact hgb.own (by omega) (UInt8.toNat_inj.1 (by simp; omega))
  have hn6 : ¬ ((60 : Int) < (n : Int)) := by omega
  obtain ⟨g1, g2⟩ := hg.lt
  have HG := veil (And.intro hga hgb)
  have HX := veil hx
  have HN := veil hne
  clear hga hgb hx hne
  go_enter Tryd.func4, Tryd.ntmps4
  go_wp2_with fail
  refine (alive_ok _ hg).mono ?_
  rintro e w1 ⟨rfl, hb⟩
  clear ha1 hb1 ha2 hb2 hab ha0 hb0
  go_wp2_with fail
  go_loop [7] (fun i => ∃ k : Nat, k ≤ a.size ∧ i = .int .i64 k ∧ ∀ j (hj : j < a.size), j < k → a[j] ≠ 47) (fun i => a.size - (intOf i).toNat)
  case atStart => exact ⟨0, Nat.zero_le _, rfl, fun j _ hj => by omega⟩
  case round =>
    obtain ⟨k, hk, rfl, hp⟩ := hrel
    have HP := veil hp
    clear hp
    have hhigh := HG.out.1.high
    by_cases hlt : k < a.size
    · have b1 : (0 : Int) ≤ (k : Int) := by omega
      have b2 : (k : Int) < a.size := by omega
      by_cases h47 : a[k] = 47
      · have h47' : (((a[k]).toNat : Int) == 47) = true := by rw [h47]; rfl
        go_wp2
        go_ret
        exact ⟨rfl, hb⟩
      · have h47' : (((a[k]).toNat : Int) == 47) = false := by
          rw [beq_eq_false_iff_ne]
          intro e
          exact h47 (UInt8.toNat_inj.1 (by simp; omega))
        go_wp2
        go_round
        case rel => exact ⟨k + 1, by omega, by go_num, fun j hj hjk => by
          rcases Nat.lt_or_ge j k with h | h
          · exact HP.out j hj h
          · obtain rfl : j = k := by omega
            exact h47⟩
        case measure => simp [intOf]; omega
    · obtain rfl : k = a.size := by omega
      have HPa := veil (show Plainname a from fun j hj => HP.out j hj hj)
      clear HP
      go_wp2_with fail
      go_loop [8] (fun i => ∃ k : Nat, k ≤ b.size ∧ i = .int .i64 k ∧ ∀ j (hj : j < b.size), j < k → b[j] ≠ 47) (fun i => b.size - (intOf i).toNat)
      case atStart => exact ⟨0, Nat.zero_le _, rfl, fun j _ hj => by omega⟩
      case round =>
        obtain ⟨k, hk, rfl, hp⟩ := hrel
        have HP := veil hp
        clear hp
        have hhigh' := HG.out.2.high
        by_cases hlt : k < b.size
        · have b1 : (0 : Int) ≤ (k : Int) := by omega
          have b2 : (k : Int) < b.size := by omega
          by_cases h47 : b[k] = 47
          · have h47' : (((b[k]).toNat : Int) == 47) = true := by rw [h47]; rfl
            go_wp2
            go_ret
            exact ⟨rfl, hb⟩
          · have h47' : (((b[k]).toNat : Int) == 47) = false := by
              rw [beq_eq_false_iff_ne]
              intro e
              exact h47 (UInt8.toNat_inj.1 (by simp; omega))
            go_wp2
            go_round
            case rel => exact ⟨k + 1, by omega, by go_num, fun j hj hjk => by
              rcases Nat.lt_or_ge j k with h | h
              · exact HP.out j hj h
              · obtain rfl : j = k := by omega
                exact h47⟩
            case measure => simp [intOf]; omega
        · obtain rfl : k = b.size := by omega
          have HPb := veil (show Plainname b from fun j hj => HP.out j hj hj)
          clear HP
          go_wp2_with fail
          refine (new_any _).mono ?_
          rintro e w2 ⟨st, r, rv, ri, rfl, n1, n2, n3, n4, hsr, hS2, hB2, hb2⟩
          have hbw2 := hb.trans (hb2.mono hb.size)
          have hsz1 := hb.size
          have hmk1 := st_make st r rv ri 0 0 (.map []) (.map []) a w2 HG.out.1.keyOk (by omega) HPa.out hB2 (by omega) rfl rfl (hg.below hbw2).1 hS2
          go_wp2_with fail
          refine hmk1.mono ?_
          rintro e w3 ⟨rfl, ⟨_, ca, cva, cia, m1, m2, m3, hR3, hA3, hk3⟩, hS3⟩
          have hsz2 := hbw2.size
          have hbw3 := hbw2.trans (hk3.toBelow hsz2 (fun j hj => by omega))
          have hrr0 := hB2.lts
          have hrr := hR3.lts
          have haa := hA3.lts
          have hmk2 := st_make st r rv ri 1 0 (.map []) _ b w3 HG.out.2.keyOk (by omega) HPb.out hR3 (by omega) (one_hasnot (fun e => HN.out e.symm) _) rfl (hg.below hbw3).1 hS3
          have Hmk2 := veil hmk2
          clear hmk1 hmk2
          go_wp2_with fail
          refine Hmk2.out.mono ?_
          rintro e w4 ⟨rfl, ⟨_, cb, cvb, cib, m4, m5, m6, hR4, hB4, hk4⟩, hS4⟩
          have hsz3 := hbw3.size
          have hbw4 := hbw3.trans (hk4.toBelow hsz3 (fun j hj => by omega))
          have hA4 := hA3.kept hk4 (fun e => lies_ne_map hA3.lies hR3.ins e) (by omega) (by omega)
          clear Hmk2
          have ha5 := (Below.refl w4.heap.size w4).alloc (Nat.le_refl _) (.cells #[.int .i64 0] 3)
          have ha6 := ha5.alloc (by simp) (.cells #[.int .i64 0] 3)
          have hq1 := (Lies.made w4 3 [.int .i64 0]).alloc (.cells #[.int .i64 0] 3)
          have hq2 := Lies.made (w4.alloc (.cells #[.int .i64 0] 3)) 3 [.int .i64 0]
          have hsz4 := hbw4.size
          have hcc := hB4.lts
          have N0 : Nx w ((w4.alloc (.cells #[.int .i64 0] 3)).alloc (.cells #[.int .i64 0] 3)) st r rv ri (two a b ca cb) ca cva cia cb cvb cib w4.heap.size (w4.heap.size + 1) 0 0 :=
            ⟨hbw4.trans (ha6.mono hsz4), hS4.below ha6 hS4.lt, hR4.below ha6, hA4.below ha6, hB4.below ha6, hq1, by simpa using hq2, by omega, by omega, by omega, by omega, by omega, by omega, by omega, by omega, by omega, by omega⟩
          have HN0 := veil N0
          clear N0 hq1 hq2 ha5 ha6 hS4 hR4 hA4 hB4 hk4 hk3 hbw4 hbw3 hbw2
          go_wp2_with fail
          go_loopw [12] (fun i wr => ∃ (k : Nat) (p q : Int), i = .int .i64 k ∧ k ≤ n ∧ 0 ≤ p ∧ 0 ≤ q ∧ p + q = k ∧ Nx w wr st r rv ri (two a b ca cb) ca cva cia cb cvb cib w4.heap.size (w4.heap.size + 1) p q) (fun i _ => n - (intOf i).toNat)
          case atStart => exact ⟨0, 0, 0, rfl, Nat.zero_le _, by decide, by decide, rfl, HN0.out⟩
          case round =>
            obtain ⟨k, p, q, rfl, hkn, hp0, hq0, hpq, N⟩ := hrel
            by_cases hlt : k < n
            · obtain ⟨bb, off, rfl, hcell0⟩ := HX.out k hlt
              have hcell : wr.cell? ⟨bb, off + k, none⟩ = some (.bool (f k)) := (N.below.cell (World.block_lt_of_cell? w _ hcell0)).trans hcell0
              have hi0 : (0 : Int) ≤ (k : Int) := by omega
              have hi1 : (k : Int) < (n : Int) := by omega
              clear hcell0
              rcases Bool.eq_false_or_eq_true (f k) with hfk | hfk <;> rw [hfk] at hcell <;> clear hfk
              · have c0 : wr.cell? ⟨(w4.heap.size + 1), 0, none⟩ = some (.int .i64 q) := N.flip.num.cell 0
                have f0 : wr.frozen? ⟨(w4.heap.size + 1), 0, none⟩ = false := N.flip.num.frozen 0
                have num5 := N.flip.num.put 0 (.int .i64 (q + 1))
                have c5 : (wr.setCell ⟨(w4.heap.size + 1), 0, none⟩ (.int .i64 (q + 1))).cell? ⟨(w4.heap.size + 1), 0, none⟩ = some (.int .i64 (q + 1)) := num5.cell 0
                have hgc := N.new4
                have hk5 : Keeps (fun k => k = (w4.heap.size + 1)) wr (wr.setCell ⟨(w4.heap.size + 1), 0, none⟩ (.int .i64 (q + 1))) := Keeps.setCell (S := fun k => k = (w4.heap.size + 1)) (p := ⟨(w4.heap.size + 1), 0, none⟩) (Keeps.rfl' _ _) (.inr rfl) _
                have hb5 : Below w.heap.size w (wr.setCell ⟨(w4.heap.size + 1), 0, none⟩ (.int .i64 (q + 1))) := N.below.trans (hk5.toBelow N.below.size (fun j hj => by omega))
                have hsz5 := hb5.size
                have hS5 := N.at_.kept hk5 (N.at_.ne_of_type N.flip.num (by decide))
                have hR5 := N.root.kept hk5 (N.root.lies.ne_of_type N.flip.num (by decide)) (fun e => lies_ne_map N.flip.num N.root.vals e.symm) (fun e => lies_ne_map N.flip.num N.root.ins e.symm)
                have hC5 := N.flip.one.kept hk5 (N.flip.one.lies.ne_of_type N.flip.num (by decide)) (fun e => lies_ne_map N.flip.num N.flip.one.vals e.symm) (fun e => lies_ne_map N.flip.num N.flip.one.ins e.symm)
                have Hdo : Hid (∀ W, Below (wr.setCell ⟨(w4.heap.size + 1), 0, none⟩ (.int .i64 (q + 1))).heap.size (wr.setCell ⟨(w4.heap.size + 1), 0, none⟩ (.int .i64 (q + 1))) W → Calls Tryd.prog 7 #[.pointer (some ⟨st, 0, none⟩), cmdV 7 b ⟨#[]⟩ ⟨#[]⟩ ⟨#[]⟩] W fun e w' => e = .returned (replyV 0 (digS (q + 1))) ∧ Nx w w' st r rv ri (two a b ca cb) cb cvb cib ca cva cia (w4.heap.size + 1) w4.heap.size (q + 1) p) := veil (fun W hbW => (st_next st r 0 q (.map []) (.map []) W cb cvb cib b (hg.below (hb5.trans (hbW.mono hsz5))) (plain_ok HPb.out HG.out.2) (plain_names HPb.out) HG.out.2.ne HG.out.2.high (.inr ⟨plain_path HPb.out HG.out.2, plain_names HPb.out, HG.out.2.ne, rv, ri, 0, 2, .map [], two a b ca cb, hR5.below hbW, rfl, two_has_b, (two_at_b .nil)⟩) (hC5.below hbW) (by omega) (by omega) (by omega) (by omega) (hS5.below hbW hS5.lt)).mono (fun e w' ⟨he, hnp, _⟩ => ⟨he, N.flip.step hbW hnp (Below.refl _ _)⟩))
                have hp6 : (q + 1 : Int) ≤ 61 := by omega
                have hp7 : (0 : Int) ≤ q + 1 := by omega
                clear hk5 hS5 hR5 hC5 N
                go_wp2_with fail
                go_region_held3 (fun w' => w'.cell? ⟨(w4.heap.size + 1), 0, none⟩ = some (.int .i64 (q + 1)))
                  (first
                    | exact c5
                    | exact hnx.num.cell 0
                    | exact (num5.below hbx num5.lt).cell 0)
                  (first
                    | (go_at_call 7; refine (Hdo.out _ (by first | exact (Below.refl _ _).drew | exact hbx)).mono ?_; rintro e w7 ⟨rfl, hnx⟩)
                    | (go_at_call 8; refine (digits_ref (q + 1) _ (by omega) (by omega)).mono ?_; rintro e w8 ⟨rfl, hb8⟩; first | (have hnx := hnx.kept hb8) | (have hbx : Below (wr.setCell ⟨(w4.heap.size + 1), 0, none⟩ (.int .i64 (q + 1))).heap.size (wr.setCell ⟨(w4.heap.size + 1), 0, none⟩ (.int .i64 (q + 1))) w8 := (Below.refl _ _).drew.trans (hb8.mono (Nat.le_refl _)))))
                all_goals (
                  go_wp2
                  go_roundw
                  case rel => exact ⟨k + 1, p, q + 1, by go_num, by omega, by omega, by omega, by omega, hnx.flip⟩
                  case measure => simp [intOf]; omega)
              · have c0 : wr.cell? ⟨w4.heap.size, 0, none⟩ = some (.int .i64 p) := N.num.cell 0
                have f0 : wr.frozen? ⟨w4.heap.size, 0, none⟩ = false := N.num.frozen 0
                have num5 := N.num.put 0 (.int .i64 (p + 1))
                have c5 : (wr.setCell ⟨w4.heap.size, 0, none⟩ (.int .i64 (p + 1))).cell? ⟨w4.heap.size, 0, none⟩ = some (.int .i64 (p + 1)) := num5.cell 0
                have hgc := N.new3
                have hk5 : Keeps (fun k => k = w4.heap.size) wr (wr.setCell ⟨w4.heap.size, 0, none⟩ (.int .i64 (p + 1))) := Keeps.setCell (S := fun k => k = w4.heap.size) (p := ⟨w4.heap.size, 0, none⟩) (Keeps.rfl' _ _) (.inr rfl) _
                have hb5 : Below w.heap.size w (wr.setCell ⟨w4.heap.size, 0, none⟩ (.int .i64 (p + 1))) := N.below.trans (hk5.toBelow N.below.size (fun j hj => by omega))
                have hsz5 := hb5.size
                have hS5 := N.at_.kept hk5 (N.at_.ne_of_type N.num (by decide))
                have hR5 := N.root.kept hk5 (N.root.lies.ne_of_type N.num (by decide)) (fun e => lies_ne_map N.num N.root.vals e.symm) (fun e => lies_ne_map N.num N.root.ins e.symm)
                have hC5 := N.one.kept hk5 (N.one.lies.ne_of_type N.num (by decide)) (fun e => lies_ne_map N.num N.one.vals e.symm) (fun e => lies_ne_map N.num N.one.ins e.symm)
                have Hdo : Hid (∀ W, Below (wr.setCell ⟨w4.heap.size, 0, none⟩ (.int .i64 (p + 1))).heap.size (wr.setCell ⟨w4.heap.size, 0, none⟩ (.int .i64 (p + 1))) W → Calls Tryd.prog 7 #[.pointer (some ⟨st, 0, none⟩), cmdV 7 a ⟨#[]⟩ ⟨#[]⟩ ⟨#[]⟩] W fun e w' => e = .returned (replyV 0 (digS (p + 1))) ∧ Nx w w' st r rv ri (two a b ca cb) ca cva cia cb cvb cib w4.heap.size (w4.heap.size + 1) (p + 1) q) := veil (fun W hbW => (st_next st r 0 p (.map []) (.map []) W ca cva cia a (hg.below (hb5.trans (hbW.mono hsz5))) (plain_ok HPa.out HG.out.1) (plain_names HPa.out) HG.out.1.ne HG.out.1.high (.inr ⟨plain_path HPa.out HG.out.1, plain_names HPa.out, HG.out.1.ne, rv, ri, 0, 2, .map [], two a b ca cb, hR5.below hbW, rfl, (two_has_a HN.out), (two_at_a HN.out .nil)⟩) (hC5.below hbW) (by omega) (by omega) (by omega) (by omega) (hS5.below hbW hS5.lt)).mono (fun e w' ⟨he, hnp, _⟩ => ⟨he, N.step hbW hnp (Below.refl _ _)⟩))
                have hp6 : (p + 1 : Int) ≤ 61 := by omega
                have hp7 : (0 : Int) ≤ p + 1 := by omega
                clear hk5 hS5 hR5 hC5 N
                go_wp2_with fail
                go_region_held3 (fun w' => w'.cell? ⟨w4.heap.size, 0, none⟩ = some (.int .i64 (p + 1)))
                  (first
                    | exact c5
                    | exact hnx.num.cell 0
                    | exact (num5.below hbx num5.lt).cell 0)
                  (first
                    | (go_at_call 7; refine (Hdo.out _ (by first | exact (Below.refl _ _).drew | exact hbx)).mono ?_; rintro e w7 ⟨rfl, hnx⟩)
                    | (go_at_call 8; refine (digits_ref (p + 1) _ (by omega) (by omega)).mono ?_; rintro e w8 ⟨rfl, hb8⟩; first | (have hnx := hnx.kept hb8) | (have hbx : Below (wr.setCell ⟨w4.heap.size, 0, none⟩ (.int .i64 (p + 1))).heap.size (wr.setCell ⟨w4.heap.size, 0, none⟩ (.int .i64 (p + 1))) w8 := (Below.refl _ _).drew.trans (hb8.mono (Nat.le_refl _)))))
                all_goals (
                  go_wp2
                  go_roundw
                  case rel => exact ⟨k + 1, p + 1, q, by go_num, by omega, by omega, by omega, by omega, hnx⟩
                  case measure => simp [intOf]; omega)
            · obtain rfl : k = n := by omega
              have HNN := veil N
              have hfe := field_err
              have hsw := N.below.size
              have hdup := st_dup st r rv ri 2 0 (.map []) (two a b ca cb) a wr ca HG.out.1.keyOk (by omega) HPa.out N.root (two_has_a HN.out) (two_at_a HN.out .nil) (hg.below N.below).1 N.at_
              clear N
              go_wp2_with fail
              refine hdup.mono ?_
              rintro e w6 ⟨rfl, hb6⟩
              have N := HNN.out.kept hb6
              have hsw6 := N.below.size
              have hdrop := st_drop st r rv ri 2 0 (.map []) (two a b ca cb) a w6 ca HG.out.1.keyOk (by omega) HPa.out N.root rfl (two_has_a HN.out) (two_at_a HN.out .nil) (hg.below N.below).1 N.at_
              have h1 := N.new1
              have h2 := N.new2
              have hbw6 := N.below
              clear N hdup
              go_wp2_with fail
              refine hdrop.mono ?_
              rintro e w7 ⟨rfl, ⟨_, hR7, hk7⟩, hS7⟩
              have hbw7 := hbw6.trans (hk7.toBelow hsw6 (fun j hj => by omega))
              have hsw7 := hbw7.size
              have hnone := st_next_none st r w7 a (plain_ok HPa.out HG.out.1) (plain_names HPa.out) HG.out.1.ne HG.out.1.high ⟨plain_path HPa.out HG.out.1, plain_names HPa.out, HG.out.1.ne, rv, ri, 0, 2, .map [], _, hR7, rfl, has_del_same⟩ (hg.below hbw7).1 hS7
              clear hdrop
              go_wp2_with fail
              refine hnone.mono ?_
              rintro e w8 ⟨rfl, hb8⟩
              have hbw8 := hbw7.trans (hb8.mono hsw7)
              have hsw8 := hbw8.size
              have hmk := st_make st r rv ri 2 0 (.map []) _ a w8 HG.out.1.keyOk (by omega) HPa.out (hR7.below hb8) (by omega) has_del_same rfl (hg.below hbw8).1 (hS7.below hb8 hS7.lt)
              clear hnone hR7 hk7 hS7
              go_wp2_with fail
              refine hmk.mono ?_
              rintro e w9 ⟨rfl, ⟨_, c3, c3v, c3i, k1, k2, k3, hR9, hC9, hk9⟩, hS9⟩
              have hbw9 := hbw8.trans (hk9.toBelow hsw8 (fun j hj => by omega))
              have hsw9 := hbw9.size
              have hdt := (two_tidy (a := a) (b := b) (ca := ca) (cb := cb)).del (keyL a)
              have hdm : Maps.IsMap ((two a b ca cb).del (keyL a)) := by obtain ⟨es, h, _⟩ := hdt; exact ⟨es, h⟩
              have hnext := st_next st r 0 0 (.map []) (.map []) w9 c3 c3v c3i a (hg.below hbw9) (plain_ok HPa.out HG.out.1) (plain_names HPa.out) HG.out.1.ne HG.out.1.high (.inr ⟨plain_path HPa.out HG.out.1, plain_names HPa.out, HG.out.1.ne, rv, ri, 0, 3, .map [], _, hR9, rfl, has_put_same hdm (keyL_is _) _, atKey_put_same hdm (keyL_is _) _ _⟩) hC9 (by omega) (by omega) (by omega) (by omega) hS9
              rw [show (0 : Int) + 1 = 1 by decide, dig1] at hnext
              clear hmk hR9 hC9 hS9 hk9 hdt hdm
              go_wp2_with fail
              refine hnext.mono ?_
              rintro e w10 ⟨rfl, ⟨_, _, hk10⟩, hS10⟩
              have hbw10 := hbw9.trans (hk10.toBelow hsw9 (fun j hj => by omega))
              have hroot := st_next_root st r w10 hS10
              clear hnext
              go_wp2_with fail
              refine hroot.mono ?_
              rintro e w11 ⟨rfl, hb11⟩
              go_wp2
              go_ret
              exact ⟨rfl, hbw10.trans (hb11.mono hbw10.size)⟩
end Go.Proofs.YtjonmggkmalgaaaDoor

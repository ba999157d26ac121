/-
  cmd.add at the root: the number that a key has and that of the value come to their sum.
-/
import Derived.Test.YtjonmggkmalgaaaGreatDoorW17Number
namespace Go.Proofs.YtjonmggkmalgaaaGreatDoor
open Go.RowKit Go.Maps Go.WideMaps Go.WideElems

theorem digS_zero : (⟨#[48]⟩ : ByteArray) = digS 0 := by
  apply bytes_ext
  show [48] = ((Lib.itoa 0).toArray).toList
  rw [List.toList_toArray]
  unfold Lib.itoa
  rw [if_neg (by decide), show (0 : Int).toNat = 0 from rfl, dec_small (by omega)]
  rfl
theorem digS_size (n : Int) (h0 : -1000000000000000000 < n) (h1 : n < 1000000000000000000) : (digS n).size ≤ 19 := by
  show ((Lib.itoa n).toArray).size ≤ 19
  rw [List.size_toArray]
  unfold Lib.itoa
  split
  · have := dec_length 17 n.natAbs (by omega)
    rw [List.length_cons]; omega
  · have := dec_length 17 n.toNat (by omega)
    omega

/-- What Get tells in later worlds. -/
def GetIs (r : Nat) (p s sv : ByteArray) (is : Bool) (w : World) : Prop := ∀ W, Below w.heap.size w W → Calls Tryz.prog 203 #[plainV r, .string p, .string s] W (GetPost W sv is)

theorem nil_Put (r : Nat) (w : World) : (nilAhead 335 127 (plainV r) "Put").run Tryz.prog w = .ok (some false) w := by kernel_rfl

set_option maxHeartbeats 1000000 in
set_option maxRecDepth 100000 in
theorem add_some (r rv ri n : Nat) (q x y : Int) (V I : Dat) (s sv : ByteArray) (w : World) (hg : Glob w) (hget : GetIs r ⟨#[]⟩ s sv true w) (hx : sv = digS x) (hx0 : -1000000000000000000 < x) (hx1 : x < 1000000000000000000)
    (hy0 : -1000000000000000000 < y) (hy1 : y < 1000000000000000000) (hs0 : -1000000000000000000 < x + y) (hs1 : x + y < 1000000000000000000)
    (hs : s.size ≤ 1000000) (hB : BoxAt w r rv ri q n V I) (hn : n ≤ 1000000) (hI : Maps.has I (keyL s) = false) (hrv0 : 0 ≠ rv) (hrv1 : 1 ≠ rv) :
    Calls Tryz.prog 135 #[groundV r, cmdV 3 ⟨#[]⟩ s (digS y) ⟨#[]⟩] w fun e w' => e = .returned (replyV 0 (digS (x + y))) ∧ ValsPost r rv ri (n + 1) q (V.put (keyL s) (.lit (.string (digS (x + y)).data.toList))) I w (.returned (.int .i64 0)) w' := by
  subst hx
  have Hget := veil hget
  clear hget
  have hmg := meth_Get r
  have hmp := meth_Put r
  have hnp := nil_Put r
  have hb2 := below2 w (.cells #[.int .i64 3, .string ⟨#[]⟩, .string s, .string (digS y), .string ⟨#[]⟩] 68) (.cells #[.int .i64 0, .string ⟨#[]⟩] 42)
  have hR := reply_made w #[.int .i64 3, .string ⟨#[]⟩, .string s, .string (digS y), .string ⟨#[]⟩]
  have hC := cmd_made w [.int .i64 3, .string ⟨#[]⟩, .string s, .string (digS y), .string ⟨#[]⟩] (.cells #[.int .i64 0, .string ⟨#[]⟩] 42)
  obtain ⟨l1, l2, l3⟩ := hB.lts
  have hsz := digS_size (x + y) (by omega) (by omega)
  have z1 : ¬ ((1000000000000000000 : Int) ≤ x + y) := by omega
  have z2 : ¬ (x + y ≤ (-1000000000000000000 : Int)) := by omega
  go_enter Tryz.func135, Tryz.ntmps135
  go_wp2_with fail
  refine (Hget.out _ hb2).mono ?_
  rintro e w1 ⟨rfl, hb⟩
  have hbw := hb2.trans (hb.mono hb2.size)
  have hR1 := hR.below hb hR.lt
  have hC1 := hC.below hb hC.lt
  have x1 : w1.cell? ⟨w.heap.size, 1, none⟩ = some (.string ⟨#[]⟩) := hC1.cell 1
  have x2 : w1.cell? ⟨w.heap.size, 2, none⟩ = some (.string s) := hC1.cell 2
  have x3 : w1.cell? ⟨w.heap.size, 3, none⟩ = some (.string (digS y)) := hC1.cell 3
  have hlt1 := hR1.lt
  go_wp2_with fail
  refine (number_dig x _ hx0 hx1).mono ?_
  rintro e w' ⟨rfl, rfl⟩
  go_wp2_with fail
  refine (number_dig y _ hy0 hy1).mono ?_
  rintro e w' ⟨rfl, rfl⟩
  go_wp2_with fail
  go_region_held3 (fun w' => w'.cell? ⟨w.heap.size, 1, none⟩ = some (.string ⟨#[]⟩) ∧ w'.cell? ⟨w.heap.size, 2, none⟩ = some (.string s))
    (first
      | exact ⟨hC1.cell 1, hC1.cell 2⟩
      | exact ⟨hC3.cell 1, hC3.cell 2⟩
      | exact ⟨hC2.cell 1, hC2.cell 2⟩)
    (first
      | (go_at_call 133; refine (digits_any (x + y) _ (by omega) (by omega) (hg.below hbw.drew)).mono ?_; rintro e w2 ⟨rfl, hb3⟩; have hbw2 := hbw.drew.trans (hb3.mono (show w.heap.size ≤ w1.drew.heap.size from hbw.size)); have hC2 := (hC1.drew).below hb3 (hC1.drew).lt; have hR2 := (hR1.drew).below hb3 (hR1.drew).lt)
      | (go_at_call 206; refine (put_ok r r ⟨#[]⟩ s (digS (x + y)) q rv ri n V I _ (.inl ⟨rfl, rfl⟩) (hg.below hbw2).1 (hB.below hbw2) hs (by omega) hI hn).mono ?_; rintro e w3 ⟨rfl, hB3, hk3⟩; have hC3 := hC2.kept hk3 (by omega); have hR3 := hR2.kept hk3 (by omega)))
  all_goals
    have hG3 : Glob w3 := (hg.below hbw2).kept hk3 hrv0 hrv1
    have hlt3 := hR3.lt
    clear hI hmg hmp x1 x2 x3 hC1 hC2 hC
    go_wp2_with fail
    refine (digits_any (x + y) _ (by omega) (by omega) hG3).mono ?_
    rintro e w4 ⟨rfl, hb4⟩
    have hR4 := hR3.below hb4 hR3.lt
    have hpost : ValsPost r rv ri (n + 1) q (V.put (keyL s) (.lit (.string (digS (x + y)).data.toList))) I w (.returned (.int .i64 0)) w4 :=
      ⟨rfl, hB3.below hb4, (keeps_then hbw2 hk3).trans (Keeps.below (S := fun k => k = rv) hb4 (fun k hk hk' => absurd hk (by omega))) (fun k _ hk => hk)⟩
    have Hfin := veil (hpost.stored (B := w.heap.size + 1) (Below.refl _ _) hB (by omega) (.int .i64 0) (.string (digS (x + y))))
    have d0 : w4.cell? ⟨w.heap.size + 1, 0, none⟩ = some (.int .i64 0) := hR4.cell 0
    have d1 : w4.cell? ⟨w.heap.size + 1, 1, none⟩ = some (.string ⟨#[]⟩) := hR4.cell 1
    have e0 : w4.frozen? ⟨w.heap.size + 1, 0, none⟩ = false := hR4.frozen 0
    have e1 : w4.frozen? ⟨w.heap.size + 1, 1, none⟩ = false := hR4.frozen 1
    have hlt2 := hR4.lt
    clear hpost
    go_wp2
    have hR5 := (hR4.put 0 (.int .i64 0)).put 1 (.string (digS (x + y)))
    have q0 := hR5.cell 0
    have q1 := hR5.cell 1
    exact bodyPost_ret (v := replyV 0 (digS (x + y))) (by simp at q0 q1; simp [results, Tryz.results135, go_sem, q0, q1]) rfl ⟨rfl, Hfin.out⟩

set_option maxHeartbeats 1000000 in
set_option maxRecDepth 100000 in
theorem add_none (r rv ri n : Nat) (q  y : Int) (V I : Dat) (s sv : ByteArray) (w : World) (hg : Glob w) (hget : GetIs r ⟨#[]⟩ s sv false w) 
    (hy0 : -1000000000000000000 < y) (hy1 : y < 1000000000000000000) 
    (hs : s.size ≤ 1000000) (hB : BoxAt w r rv ri q n V I) (hn : n ≤ 1000000) (hI : Maps.has I (keyL s) = false) (hrv0 : 0 ≠ rv) (hrv1 : 1 ≠ rv) :
    Calls Tryz.prog 135 #[groundV r, cmdV 3 ⟨#[]⟩ s (digS y) ⟨#[]⟩] w fun e w' => e = .returned (replyV 0 (digS (y))) ∧ ValsPost r rv ri (n + 1) q (V.put (keyL s) (.lit (.string (digS (y)).data.toList))) I w (.returned (.int .i64 0)) w' := by
  have Hget := veil hget
  clear hget
  have hmg := meth_Get r
  have hmp := meth_Put r
  have hnp := nil_Put r
  have hb2 := below2 w (.cells #[.int .i64 3, .string ⟨#[]⟩, .string s, .string (digS y), .string ⟨#[]⟩] 68) (.cells #[.int .i64 0, .string ⟨#[]⟩] 42)
  have hR := reply_made w #[.int .i64 3, .string ⟨#[]⟩, .string s, .string (digS y), .string ⟨#[]⟩]
  have hC := cmd_made w [.int .i64 3, .string ⟨#[]⟩, .string s, .string (digS y), .string ⟨#[]⟩] (.cells #[.int .i64 0, .string ⟨#[]⟩] 42)
  obtain ⟨l1, l2, l3⟩ := hB.lts
  have hsz := digS_size (y) (by omega) (by omega)
  have z1 : ¬ ((1000000000000000000 : Int) ≤ y) := by omega
  have z2 : ¬ (y ≤ (-1000000000000000000 : Int)) := by omega
  go_enter Tryz.func135, Tryz.ntmps135
  go_wp2_with fail
  refine (Hget.out _ hb2).mono ?_
  rintro e w1 ⟨rfl, hb⟩
  have hbw := hb2.trans (hb.mono hb2.size)
  have hR1 := hR.below hb hR.lt
  have hC1 := hC.below hb hC.lt
  have x1 : w1.cell? ⟨w.heap.size, 1, none⟩ = some (.string ⟨#[]⟩) := hC1.cell 1
  have x2 : w1.cell? ⟨w.heap.size, 2, none⟩ = some (.string s) := hC1.cell 2
  have x3 : w1.cell? ⟨w.heap.size, 3, none⟩ = some (.string (digS y)) := hC1.cell 3
  have hlt1 := hR1.lt
  go_wp2_with fail
  rw [digS_zero]; refine (number_dig 0 _ (by omega) (by omega)).mono ?_
  rintro e w' ⟨rfl, rfl⟩
  go_wp2_with fail
  refine (number_dig y _ hy0 hy1).mono ?_
  rintro e w' ⟨rfl, rfl⟩
  go_wp2_with fail
  go_region_held3 (fun w' => w'.cell? ⟨w.heap.size, 1, none⟩ = some (.string ⟨#[]⟩) ∧ w'.cell? ⟨w.heap.size, 2, none⟩ = some (.string s))
    (first
      | exact ⟨hC1.cell 1, hC1.cell 2⟩
      | exact ⟨hC3.cell 1, hC3.cell 2⟩
      | exact ⟨hC2.cell 1, hC2.cell 2⟩)
    (first
      | (go_at_call 133; refine (digits_any (y) _ (by omega) (by omega) (hg.below hbw.drew)).mono ?_; rintro e w2 ⟨rfl, hb3⟩; have hbw2 := hbw.drew.trans (hb3.mono (show w.heap.size ≤ w1.drew.heap.size from hbw.size)); have hC2 := (hC1.drew).below hb3 (hC1.drew).lt; have hR2 := (hR1.drew).below hb3 (hR1.drew).lt)
      | (go_at_call 206; refine (put_ok r r ⟨#[]⟩ s (digS (y)) q rv ri n V I _ (.inl ⟨rfl, rfl⟩) (hg.below hbw2).1 (hB.below hbw2) hs (by omega) hI hn).mono ?_; rintro e w3 ⟨rfl, hB3, hk3⟩; have hC3 := hC2.kept hk3 (by omega); have hR3 := hR2.kept hk3 (by omega)))
  all_goals
    have hG3 : Glob w3 := (hg.below hbw2).kept hk3 hrv0 hrv1
    have hlt3 := hR3.lt
    clear hI hmg hmp x1 x2 x3 hC1 hC2 hC
    go_wp2_with fail
    refine (digits_any (y) _ (by omega) (by omega) hG3).mono ?_
    rintro e w4 ⟨rfl, hb4⟩
    have hR4 := hR3.below hb4 hR3.lt
    have hpost : ValsPost r rv ri (n + 1) q (V.put (keyL s) (.lit (.string (digS (y)).data.toList))) I w (.returned (.int .i64 0)) w4 :=
      ⟨rfl, hB3.below hb4, (keeps_then hbw2 hk3).trans (Keeps.below (S := fun k => k = rv) hb4 (fun k hk hk' => absurd hk (by omega))) (fun k _ hk => hk)⟩
    have Hfin := veil (hpost.stored (B := w.heap.size + 1) (Below.refl _ _) hB (by omega) (.int .i64 0) (.string (digS (y))))
    have d0 : w4.cell? ⟨w.heap.size + 1, 0, none⟩ = some (.int .i64 0) := hR4.cell 0
    have d1 : w4.cell? ⟨w.heap.size + 1, 1, none⟩ = some (.string ⟨#[]⟩) := hR4.cell 1
    have e0 : w4.frozen? ⟨w.heap.size + 1, 0, none⟩ = false := hR4.frozen 0
    have e1 : w4.frozen? ⟨w.heap.size + 1, 1, none⟩ = false := hR4.frozen 1
    have hlt2 := hR4.lt
    clear hpost
    go_wp2
    have hR5 := (hR4.put 0 (.int .i64 0)).put 1 (.string (digS (y)))
    have q0 := hR5.cell 0
    have q1 := hR5.cell 1
    exact bodyPost_ret (v := replyV 0 (digS (y))) (by simp at q0 q1; simp [results, Tryz.results135, go_sem, q0, q1]) rfl ⟨rfl, Hfin.out⟩
end Go.Proofs.YtjonmggkmalgaaaGreatDoor

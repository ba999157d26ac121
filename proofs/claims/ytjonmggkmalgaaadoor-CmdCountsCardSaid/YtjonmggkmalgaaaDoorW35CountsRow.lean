/-
  CmdCounts: the row and the card.
-/
import Derived.Test.YtjonmggkmalgaaaDoorW34Counts
import Derived.Test.YtjonmggkmalgaaaDoorW29Row
import Derived.Test.YtjonmggkmalgaaaDoorTie
import Derived.Test.YtjonmggkmalgaaaDoorCards
import Derived.SevenTiedAt
namespace Go.Proofs.YtjonmggkmalgaaaDoor
open Go.ChangeShapes Go.WideShapes Go.ChangeAt Go.RowKit
open Go.ChangeMaps (open_string shut_string)

theorem counts_any (a : ByteArray) (x : Option Addr) (n cap : Nat) (f : Nat → Int) (w : World) (hg : Glob w) (hx : Ints w x n f) :
    Calls Tryd.prog 3 #[.string a, .slice x n cap] w (LivePost w) := by
  by_cases ha1 : (a.size : Int) < 1
  · exact counts_short0 a x n cap w hg ha1
  by_cases ha2 : (32 : Int) < a.size
  · exact counts_short1 a x n cap w hg ha1 ha2
  by_cases ha0 : ((a[0]'(by omega)).toNat : Int) = 0
  · exact counts_short2 a x n cap w hg ha1 ha2 ha0
  by_cases hn : (40 : Int) < (n : Int)
  · exact counts_short3 a x n cap w hg ha1 ha2 ha0 hn
  refine counts_good a x n cap f w hg hx ⟨by omega, by omega, fun h e => ha0 ?_⟩ (by omega)
  rw [e]; rfl

set_option maxRecDepth 100000 in
theorem counts_lifted (os : Os) (started : os.Started) (H : Type) (enc : TypeId × Value → H) :
    ReturnsInHanded {} Tryd.checked os 3 .any (fun w args => (Rows.cmdCountsSpec.pre enc Tryd.prog Tryd.f3 [] false w args ∧ laidMetH Tryd.prog laids w) ∧ sizedMet enc Tryd.prog Tryd.f3 (OpenSpec.ofChange Rows.cmdCountsSpec) false w args)
      (Rows.cmdCountsSpec.post enc Tryd.prog Tryd.f3 false true false false) := by
  refine handed_of_change (C := Tryd.checked) (X := fun w _ => laidMetH Tryd.prog laids w) (fun _ _ _ hh h => h.of_heap hh) ownKnob_none started (by kernel_rfl) Tryd.func3
    (ChangeSpec.witness_shaped (enc := enc) (C := Tryd.checked) (os := os) (X := fun w _ => laidMetH Tryd.prog laids w) false (World.laidAll Tryd.prog os laids) #[.string ByteArray.empty, .slice none 0 0] 8 (World.laidAll_os _ _ _)
      (World.shaped_of_ZipB (by kernel_rfl) (by kernel_rfl)) (by kernel_rfl) (by kernel_rfl) (by kernel_rfl)
      (by rw [MakeChecks.laidMetH_plain _ _ _ (by kernel_rfl)]; exact laidMet_laidAll _ (by kernel_rfl) (by kernel_rfl))) ?_
  intro W base args ds gs before hval0 hW hL hsh
  have hval : ∀ (j : Nat) t v, Tryd.f3.params[j]? = some t → args[j]? = some v → Value.okWide Tryd.prog W .any base t v := hval0
  have hW' := hW
  obtain ⟨p, q, hA0, hV, rfl, hfz, hnd⟩ := hW
  have hA : DataW.TrodAll enc Tryd.prog W 0 (fun _ => true) true Tryd.f3.params.toList args.toList ds p := hA0
  rw [Tryd.params3] at hA hval
  obtain ⟨v0, vs0, d0, ds0, p0, q0, hargs, rfl, rfl, h0, r0⟩ := trodAll_cons hA
  obtain ⟨v1, vs1, d1, ds1, p1, q1, rfl, rfl, rfl, h1, r1⟩ := trodAll_cons r0
  obtain ⟨rfl, rfl, rfl⟩ := trodAll_nil r1
  obtain rfl : args = #[v0, v1] := by cases args; simp_all
  obtain ⟨rfl, rfl⟩ := trodVars_none hV
  obtain ⟨a0, rfl, rfl, rfl, w0⟩ := open_string Tryd.underlying9 (hval 0 9 v0 rfl rfl) h0
  obtain ⟨a1, len1, cap1, rfl⟩ := okWide_slice Tryd.underlying22 (hval 1 22 v1 rfl rfl)
  have k1 := h1
  have lt1 : ∀ x ∈ p1, x.block < W.heap.size := by obtain ⟨m, hm⟩ := k1; exact DataW.trod_lt m _ _ _ hm
  obtain ⟨f1, w1⟩ : ∃ f, Ints W a1 len1 f := by
    obtain ⟨fuel, hf⟩ := h1
    rcases Deep.open_slice1 Tryd.underlying22 (by kernel_rfl) hf with ⟨hcs, _⟩ | ⟨x, l, c, m, n, V, D, Pl, hcs, _, hl, hm, hmm, _, hcell⟩
    · simp [Value.cells] at hcs
      obtain ⟨rfl, rfl, rfl⟩ := hcs
      exact ⟨fun _ => 0, fun i hi => by omega⟩
    · simp [Value.cells] at hcs
      obtain ⟨rfl, rfl, rfl⟩ := hcs
      have hle : len1 ≤ m := by rw [hmm]; split <;> omega
      have hb : ∀ i, i < len1 → ∃ b, V i = .int .i64 b ∧ (Lit.int .i64 b).wf = true := fun i hi => by
        obtain ⟨b, hb, _, hwf⟩ := DataW.trod_int Tryd.underlying3 (hcell i (by omega)).2
        exact ⟨b, by simpa using hb, hwf⟩
      refine ⟨fun i => match V i with | .int _ b => b | _ => 0, fun i hi => ?_⟩
      obtain ⟨b, hbv, hwf⟩ := hb i hi
      have hc := (hcell i (by omega)).1
      obtain ⟨xb, xo, xs⟩ := x
      have hspot : xs = none := by simpa [Addr.add] using World.cell?_spot (hcell 0 (by omega)).1
      subst hspot
      have e : (⟨xb, xo, none⟩ : Addr).add i = ⟨xb, xo + i, none⟩ := by unfold Addr.add; split <;> simp_all
      rw [e, hbv] at hc
      have hr : -9223372036854775808 ≤ b ∧ b ≤ 9223372036854775807 := by simpa [Lit.wf, IntKind.min, IntKind.max, IntKind.signed, IntKind.bits] using hwf
      refine ⟨xb, xo, rfl, ?_, ?_, ?_⟩
      · rw [hc]; simp only [hbv]
      · simp only [hbv]; exact hr.1
      · simp only [hbv]; exact hr.2
  clear hA0 hval0
  refine (counts_any a0 a1 len1 cap1 f1 W (glob_of hL hsh) w1).mono fun e W' ⟨he, bel⟩ => ?_
  subst he
  exact ⟨_, rfl, _, _, _, [], _, [], hW', trodAll_mk1 (shut_bool Tryd.underlying4 _), (trodAll_cons_mk (shut_string Tryd.underlying9 w0) (trodAll_cons_mk (Below.trod laidOut (by kernel_rfl) (of_decide_eq_true (by kernel_rfl)) k1 bel lt1) trodAll_mk0)), rfl, bel.frame _, fun h => by cases h⟩

theorem counts_row : Rows.CmdCountsSaid :=
  OpenClaim.holds_of_wide 3 Tryd.f3 rfl rfl rfl rfl rfl rfl rfl ⟨rfl, rfl, rfl, rfl, rfl⟩ rfl rfl rfl rfl rfl (by kernel_rfl) Tryd.func3 (by kernel_rfl)
    (of_decide_eq_true (by kernel_rfl)) (by unfold Func.isWrapper; first | (rw [if_pos (by decide +kernel)]; kernel_rfl) | (rw [if_neg (by decide +kernel)]; exact ⟨rfl, rfl⟩))
    (fun os started H enc _ => counts_lifted os started H enc)

theorem counts_card : Rows.CmdCountsCardSaid :=
  Claim7.holds_tied_plain_at .later [] [.data, .data, .data, .data, .pinned] true (true, "2da3f7a666262687a9bd40fa609a662dc20c51fb3eabe01198a7db2475e6e635") false
    counts_row (fun _ h => by cases h) (by kernel_rfl) (fun _ h => by cases h) cmdCounts_row_tie rfl ⟨rfl, rfl⟩ (by kernel_rfl) rfl
    (fun f fn hf hfn => by
      obtain rfl : f = 3 := Option.some.inj ((show Tryd.prog.funcNamed "rootstock/rootstocklaw19.CmdCounts" = some 3 by kernel_rfl).symm.trans hf) |>.symm
      obtain rfl : fn = Tryd.f3 := (Option.some.inj (Tryd.func3.symm.trans hfn)).symm
      exact ⟨by kernel_rfl, fun j t ht => by
        rw [Tryd.params3] at ht
        have hm : t ∈ [9, 22] := by simpa using Array.mem_of_getElem? ht
        have hall : ([9, 22].all fun u => !Tryd.prog.wantsStandIn u) = true := by kernel_rfl
        exact (show Tryd.prog.wantsStandIn t = false by simpa using List.all_eq_true.1 hall t hm)⟩)
    (by kernel_rfl)
#print axioms counts_card
end Go.Proofs.YtjonmggkmalgaaaDoor

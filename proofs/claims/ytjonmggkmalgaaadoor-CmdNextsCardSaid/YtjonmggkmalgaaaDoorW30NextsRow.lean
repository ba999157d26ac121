/-
  CmdNexts: the row and the card.
-/
import Derived.Test.YtjonmggkmalgaaaDoorW28Nexts
import Derived.Test.YtjonmggkmalgaaaDoorW29Row
import Derived.Test.YtjonmggkmalgaaaDoorTie
import Derived.Test.YtjonmggkmalgaaaDoorCards
import Derived.SevenTiedAt
namespace Go.Proofs.YtjonmggkmalgaaaDoor
open Go.ChangeShapes Go.WideShapes Go.ChangeAt Go.RowKit
open Go.ChangeMaps (open_string shut_string)

theorem nexts_any (a b : ByteArray) (x : Option Addr) (n cap : Nat) (f : Nat → Bool) (w : World) (hg : Glob w) (hx : Bools w x n f) :
    Calls Tryd.prog 4 #[.string a, .string b, .slice x n cap] w (LivePost w) := by
  by_cases ha1 : (a.size : Int) < 1
  · exact nexts_short0 a b x n cap w hg ha1
  by_cases hb1 : (b.size : Int) < 1
  · exact nexts_short1 a b x n cap w hg ha1 hb1
  by_cases ha2 : (32 : Int) < a.size
  · exact nexts_short2 a b x n cap w hg ha1 hb1 ha2
  by_cases hb2 : (32 : Int) < b.size
  · exact nexts_short3 a b x n cap w hg ha1 hb1 ha2 hb2
  by_cases hab : a = b
  · subst hab
    exact nexts_short4 a x n cap w hg ha1 ha2
  have hab' : (a.toList == b.toList) = false := by
    rw [beq_eq_false_iff_ne, ByteArray.toList_eq, ByteArray.toList_eq]
    exact fun e => hab (bytes_ext e)
  by_cases ha0 : ((a[0]'(by omega)).toNat : Int) = 0
  · exact nexts_short5 a b x n cap w hg ha1 hb1 ha2 hb2 hab' ha0
  by_cases hb0 : ((b[0]'(by omega)).toNat : Int) = 0
  · exact nexts_short6 a b x n cap w hg ha1 hb1 ha2 hb2 hab' ha0 hb0
  by_cases hn : (60 : Int) < (n : Int)
  · exact nexts_short7 a b x n cap w hg ha1 hb1 ha2 hb2 hab' ha0 hb0 hn
  refine nexts_good a b x n cap f w hg hx ⟨by omega, by omega, fun h e => ha0 ?_⟩ ⟨by omega, by omega, fun h e => hb0 ?_⟩ hab (by omega)
  · rw [e]; rfl
  · rw [e]; rfl

set_option maxRecDepth 100000 in
theorem nexts_lifted (os : Os) (started : os.Started) (H : Type) (enc : TypeId × Value → H) :
    ReturnsInHanded {} Tryd.checked os 4 .any (fun w args => (Rows.cmdNextsSpec.pre enc Tryd.prog Tryd.f4 [] false w args ∧ laidMetH Tryd.prog laids w) ∧ sizedMet enc Tryd.prog Tryd.f4 (OpenSpec.ofChange Rows.cmdNextsSpec) false w args)
      (Rows.cmdNextsSpec.post enc Tryd.prog Tryd.f4 false true false false) := by
  refine handed_of_change (C := Tryd.checked) (X := fun w _ => laidMetH Tryd.prog laids w) (fun _ _ _ hh h => h.of_heap hh) ownKnob_none started (by kernel_rfl) Tryd.func4
    (ChangeSpec.witness_shaped (enc := enc) (C := Tryd.checked) (os := os) (X := fun w _ => laidMetH Tryd.prog laids w) false (World.laidAll Tryd.prog os laids) #[.string ByteArray.empty, .string ByteArray.empty, .slice none 0 0] 8 (World.laidAll_os _ _ _)
      (World.shaped_of_ZipB (by kernel_rfl) (by kernel_rfl)) (by kernel_rfl) (by kernel_rfl) (by kernel_rfl)
      (by rw [MakeChecks.laidMetH_plain _ _ _ (by kernel_rfl)]; exact laidMet_laidAll _ (by kernel_rfl) (by kernel_rfl))) ?_
  intro W base args ds gs before hval0 hW hL hsh
  have hval : ∀ (j : Nat) t v, Tryd.f4.params[j]? = some t → args[j]? = some v → Value.okWide Tryd.prog W .any base t v := hval0
  have hW' := hW
  obtain ⟨p, q, hA0, hV, rfl, hfz, hnd⟩ := hW
  have hA : DataW.TrodAll enc Tryd.prog W 0 (fun _ => true) true Tryd.f4.params.toList args.toList ds p := hA0
  rw [Tryd.params4] at hA hval
  obtain ⟨v0, vs0, d0, ds0, p0, q0, hargs, rfl, rfl, h0, r0⟩ := trodAll_cons hA
  obtain ⟨v1, vs1, d1, ds1, p1, q1, rfl, rfl, rfl, h1, r1⟩ := trodAll_cons r0
  obtain ⟨v2, vs2, d2, ds2, p2, q2, rfl, rfl, rfl, h2, r2⟩ := trodAll_cons r1
  obtain ⟨rfl, rfl, rfl⟩ := trodAll_nil r2
  obtain rfl : args = #[v0, v1, v2] := by cases args; simp_all
  obtain ⟨rfl, rfl⟩ := trodVars_none hV
  obtain ⟨a0, rfl, rfl, rfl, w0⟩ := open_string Tryd.underlying9 (hval 0 9 v0 rfl rfl) h0
  obtain ⟨a1, rfl, rfl, rfl, w1⟩ := open_string Tryd.underlying9 (hval 1 9 v1 rfl rfl) h1
  obtain ⟨a2, len2, cap2, rfl⟩ := okWide_slice Tryd.underlying34 (hval 2 34 v2 rfl rfl)
  have k2 := h2
  have lt2 : ∀ x ∈ p2, x.block < W.heap.size := by obtain ⟨m, hm⟩ := k2; exact DataW.trod_lt m _ _ _ hm
  obtain ⟨f2, w2⟩ : ∃ f, Bools W a2 len2 f := by
    obtain ⟨fuel, hf⟩ := h2
    rcases Deep.open_slice1 Tryd.underlying34 (by kernel_rfl) hf with ⟨hcs, _⟩ | ⟨x, l, c, m, n, V, D, Pl, hcs, _, hl, hm, hmm, _, hcell⟩
    · simp [Value.cells] at hcs
      obtain ⟨rfl, rfl, rfl⟩ := hcs
      exact ⟨fun _ => false, fun i hi => by omega⟩
    · simp [Value.cells] at hcs
      obtain ⟨rfl, rfl, rfl⟩ := hcs
      have hle : len2 ≤ m := by rw [hmm]; split <;> omega
      have hb : ∀ i, i < len2 → ∃ b, V i = .bool b := fun i hi => by
        obtain ⟨b, hb, _⟩ := DataW.trod_bool Tryd.underlying4 (hcell i (by omega)).2
        exact ⟨b, by simpa using hb⟩
      refine ⟨fun i => match V i with | .bool b => b | _ => false, fun i hi => ?_⟩
      obtain ⟨b, hbv⟩ := hb i hi
      have hc := (hcell i (by omega)).1
      obtain ⟨xb, xo, xs⟩ := x
      have hspot : xs = none := by simpa [Addr.add] using World.cell?_spot (hcell 0 (by omega)).1
      subst hspot
      refine ⟨xb, xo, rfl, ?_⟩
      have e : (⟨xb, xo, none⟩ : Addr).add i = ⟨xb, xo + i, none⟩ := by unfold Addr.add; split <;> simp_all
      rw [e, hbv] at hc
      rw [hc]
      simp only [hbv]
  clear hA0 hval0
  refine (nexts_any a0 a1 a2 len2 cap2 f2 W (glob_of hL hsh) w2).mono fun e W' ⟨he, bel⟩ => ?_
  subst he
  exact ⟨_, rfl, _, _, _, [], _, [], hW', trodAll_mk1 (shut_bool Tryd.underlying4 _), (trodAll_cons_mk (shut_string Tryd.underlying9 w0) (trodAll_cons_mk (shut_string Tryd.underlying9 w1) (trodAll_cons_mk (Below.trod laidOut (by kernel_rfl) (of_decide_eq_true (by kernel_rfl)) k2 bel lt2) trodAll_mk0))), rfl, bel.frame _, fun h => by cases h⟩

theorem nexts_row : Rows.CmdNextsSaid :=
  OpenClaim.holds_of_wide 4 Tryd.f4 rfl rfl rfl rfl rfl rfl rfl ⟨rfl, rfl, rfl, rfl, rfl⟩ rfl rfl rfl rfl rfl (by kernel_rfl) Tryd.func4 (by kernel_rfl)
    (of_decide_eq_true (by kernel_rfl)) (by unfold Func.isWrapper; first | (rw [if_pos (by decide +kernel)]; kernel_rfl) | (rw [if_neg (by decide +kernel)]; exact ⟨rfl, rfl⟩))
    (fun os started H enc _ => nexts_lifted os started H enc)

theorem nexts_card : Rows.CmdNextsCardSaid :=
  Claim7.holds_tied_plain_at .later [] [.data, .data, .data, .data, .pinned] true (true, "2da3f7a666262687a9bd40fa609a662dc20c51fb3eabe01198a7db2475e6e635") false
    nexts_row (fun _ h => by cases h) (by kernel_rfl) (fun _ h => by cases h) cmdNexts_row_tie rfl ⟨rfl, rfl⟩ (by kernel_rfl) rfl
    (fun f fn hf hfn => by
      obtain rfl : f = 4 := Option.some.inj ((show Tryd.prog.funcNamed "rootstock/rootstocklaw19.CmdNexts" = some 4 by kernel_rfl).symm.trans hf) |>.symm
      obtain rfl : fn = Tryd.f4 := (Option.some.inj (Tryd.func4.symm.trans hfn)).symm
      exact ⟨by kernel_rfl, fun j t ht => by
        rw [Tryd.params4] at ht
        have hm : t ∈ [9, 9, 34] := by simpa using Array.mem_of_getElem? ht
        have hall : ([9, 9, 34].all fun u => !Tryd.prog.wantsStandIn u) = true := by kernel_rfl
        exact (show Tryd.prog.wantsStandIn t = false by simpa using List.all_eq_true.1 hall t hm)⟩)
    (by kernel_rfl)
#print axioms nexts_card
end Go.Proofs.YtjonmggkmalgaaaDoor

/-
  CmdBytes: the row and the card.
-/
import Derived.Test.YtjonmggkmalgaaaGreatDoorW81Bytes
import Derived.Test.YtjonmggkmalgaaaGreatDoorW82Reps
import Derived.Test.YtjonmggkmalgaaaGreatDoorTie
import Derived.Test.YtjonmggkmalgaaaGreatDoorCards
import Derived.SevenTiedAt
namespace Go.Proofs.YtjonmggkmalgaaaGreatDoor
open Go.ChangeShapes Go.WideShapes Go.ChangeAt Go.RowKit
open Go.ChangeMaps (open_string shut_string)

set_option maxRecDepth 100000 in
theorem bytes_lifted (os : Os) (started : os.Started) (H : Type) (enc : TypeId × Value → H) :
    ReturnsInHanded {} Tryz.checked os 4 .any (fun w args => (Rows.cmdBytesSpec.pre enc Tryz.prog Tryz.f4 [] false w args ∧ laidMetH Tryz.prog laids w) ∧ sizedMet enc Tryz.prog Tryz.f4 (OpenSpec.ofChange Rows.cmdBytesSpec) false w args)
      (Rows.cmdBytesSpec.post enc Tryz.prog Tryz.f4 false true false false) := by
  refine handed_of_change (C := Tryz.checked) (X := fun w _ => laidMetH Tryz.prog laids w) (fun _ _ _ hh h => h.of_heap hh) ownKnob_none started (by kernel_rfl) Tryz.func4
    (ChangeSpec.witness_shaped (enc := enc) (C := Tryz.checked) (os := os) (X := fun w _ => laidMetH Tryz.prog laids w) false (World.laidAll Tryz.prog os laids) #[.agg #[.int .i64 0, .int .i64 0, .slice none 0 0], .int .i64 0, .int .i64 0, .slice none 0 0, .string ByteArray.empty] 8 (World.laidAll_os _ _ _)
      (World.shaped_of_ZipB (by kernel_rfl) (by kernel_rfl)) (by kernel_rfl) (by kernel_rfl) (by kernel_rfl)
      (by rw [MakeChecks.laidMetH_plain _ _ _ (by kernel_rfl)]; exact laidMet_laidAll _ (by kernel_rfl) (by kernel_rfl))) ?_
  intro W base args ds gs before hval0 hW hL hsh
  have hval : ∀ (j : Nat) t v, Tryz.f4.params[j]? = some t → args[j]? = some v → Value.okWide Tryz.prog W .any base t v := hval0
  have hW' := hW
  obtain ⟨p, q, hA0, hV, rfl, hfz, hnd⟩ := hW
  have hA : DataW.TrodAll enc Tryz.prog W 0 (fun _ => true) true Tryz.f4.params.toList args.toList ds p := hA0
  rw [Tryz.params4] at hA hval
  obtain ⟨v0, vs0, d0, ds0, p0, q0, hargs, rfl, rfl, h0, r0⟩ := trodAll_cons hA
  obtain ⟨v1, vs1, d1, ds1, p1, q1, rfl, rfl, rfl, h1, r1⟩ := trodAll_cons r0
  obtain ⟨v2, vs2, d2, ds2, p2, q2, rfl, rfl, rfl, h2, r2⟩ := trodAll_cons r1
  obtain ⟨v3, vs3, d3, ds3, p3, q3, rfl, rfl, rfl, h3, r3⟩ := trodAll_cons r2
  obtain ⟨v4, vs4, d4, ds4, p4, q4, rfl, rfl, rfl, h4, r4⟩ := trodAll_cons r3
  obtain ⟨rfl, rfl, rfl⟩ := trodAll_nil r4
  obtain rfl : args = #[v0, v1, v2, v3, v4] := by cases args; simp_all
  obtain ⟨rfl, rfl⟩ := trodVars_none hV
  obtain ⟨c0, s0, x0, l0, cap0, rfl, at0, n0⟩ := open_req (hval 0 24 v0 rfl rfl) h0
  obtain ⟨i1, rfl, _⟩ := open_num (hval 1 3 v1 rfl rfl) h1
  obtain ⟨i2, rfl, _⟩ := open_num (hval 2 3 v2 rfl rfl) h2
  have k3' := h3
  obtain ⟨x3', len3, cap3', rfl⟩ := okWide_slice Tryz.underlying39 (hval 3 39 v3 rfl rfl)
  obtain ⟨x3, l3, cap3, e3', at3, n3, k3, e3⟩ : ∃ (x : Option Addr) (l : List RepS) (cap : Nat), Value.slice x3' len3 cap3' = .slice x l.length cap ∧ RepsAt W x l ∧ l.length ≤ maxLen ∧ l.length ≤ cap ∧ ∀ r ∈ l, -9223372036854775808 ≤ r.err ∧ r.err ≤ 9223372036854775807 := by
    obtain ⟨m, hm⟩ := k3'
    exact open_reps hm
  obtain ⟨rfl, rfl, rfl⟩ : x3' = x3 ∧ len3 = l3.length ∧ cap3' = cap3 := by simpa using e3'
  clear e3'
  obtain ⟨a4, rfl, rfl, rfl, w4⟩ := open_string Tryz.underlying9 (hval 4 9 v4 rfl rfl) h4
  have lt : ∀ {t : TypeId} {v : Value} {d : DataW H} {pp : List MemPlace}, DataW.Trod enc Tryz.prog W 0 (fun _ => true) true t v d pp → ∀ x ∈ pp, x.block < W.heap.size := fun h => by obtain ⟨m, hm⟩ := h; exact DataW.trod_lt m _ _ _ hm
  clear hA0 hval0
  refine (bytes_any c0 s0 i1 i2 x0 x3' l0 l3 cap0 cap3' a4 W (glob_of hL hsh) at0 at3 n0 n3 k3 e3).mono fun e W' ⟨he, bel⟩ => ?_
  subst he
  exact ⟨_, rfl, _, _, _, [], _, [], hW', trodAll_mk1 (shut_bool Tryz.underlying4 _),
    (trodAll_cons_mk (Below.trod laidOut (by kernel_rfl) (of_decide_eq_true (by kernel_rfl)) h0 bel (lt h0)) (trodAll_cons_mk (Below.trod laidOut (by kernel_rfl) (of_decide_eq_true (by kernel_rfl)) h1 bel (lt h1))
    (trodAll_cons_mk (Below.trod laidOut (by kernel_rfl) (of_decide_eq_true (by kernel_rfl)) h2 bel (lt h2)) (trodAll_cons_mk (Below.trod laidOut (by kernel_rfl) (of_decide_eq_true (by kernel_rfl)) h3 bel (lt h3)) (trodAll_cons_mk (shut_string Tryz.underlying9 w4) trodAll_mk0))))), rfl, bel.frame _, fun h => by cases h⟩

theorem bytes_row : Rows.CmdBytesSaid :=
  OpenClaim.holds_of_wide 4 Tryz.f4 rfl rfl rfl rfl rfl rfl rfl ⟨rfl, rfl, rfl, rfl, rfl⟩ rfl rfl rfl rfl rfl (by kernel_rfl) Tryz.func4 (by kernel_rfl)
    (of_decide_eq_true (by kernel_rfl)) (by unfold Func.isWrapper; first | (rw [if_pos (by decide +kernel)]; kernel_rfl) | (rw [if_neg (by decide +kernel)]; exact ⟨rfl, rfl⟩))
    (fun os started H enc _ => bytes_lifted os started H enc)

theorem bytes_card : Rows.CmdBytesCardSaid :=
  Claim7.holds_tied_plain_at .later [] [.data, .data, .data, .data, .pinned] true (true, "bbb683de09b330bbb50a968103b29fe9dc2a2d01306219fa607877ba75965687") false
    bytes_row (fun _ h => by cases h) (by kernel_rfl) (fun _ h => by cases h) cmdBytes_row_tie rfl ⟨rfl, rfl⟩ (by kernel_rfl) rfl
    (fun f fn hf hfn => by
      obtain rfl : f = 4 := Option.some.inj ((show Tryz.prog.funcNamed "rootstock/rootstocklaw19.CmdBytes" = some 4 by kernel_rfl).symm.trans hf) |>.symm
      obtain rfl : fn = Tryz.f4 := (Option.some.inj (Tryz.func4.symm.trans hfn)).symm
      exact ⟨by kernel_rfl, fun j t ht => by
        rw [Tryz.params4] at ht
        have hm : t ∈ [24, 3, 3, 39, 9] := by simpa using Array.mem_of_getElem? ht
        have hall : ([24, 3, 3, 39, 9].all fun u => !Tryz.prog.wantsStandIn u) = true := by kernel_rfl
        exact (show Tryz.prog.wantsStandIn t = false by simpa using List.all_eq_true.1 hall t hm)⟩)
    (by kernel_rfl)
#print axioms bytes_card
end Go.Proofs.YtjonmggkmalgaaaGreatDoor

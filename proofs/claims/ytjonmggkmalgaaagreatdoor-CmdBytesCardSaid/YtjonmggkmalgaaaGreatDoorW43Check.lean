/-
  Whether a request may be, and its bytes: cmd.Check, cmd.Lay, cmd.Entry.
-/
import Derived.Test.YtjonmggkmalgaaaGreatDoorW42Lay
namespace Go.Proofs.YtjonmggkmalgaaaGreatDoor
open Go.RowKit Go.Lib

theorem checklit_any (c : CmdS) (w : World) : Calls Tryz.prog 38 #[c.value] w (BoolPost w (!c.valid)) := by
  obtain ⟨kind, path, key, val, old⟩ := c
  have hm := Lies.made w 68 [.int .i64 kind, .string path, .string key, .string val, .string old]
  have c0 := hm.cell 0
  have c1 := hm.cell 1
  have c2 := hm.cell 2
  have c3 := hm.cell 3
  have c4 := hm.cell 4
  have hb := box_made w 68 [.int .i64 kind, .string path, .string key, .string val, .string old]
  simp at c0 c1 c2 c3 c4
  have hval := valid_any ⟨kind, path, key, val, old⟩ (w.alloc (.cells #[.int .i64 kind, .string path, .string key, .string val, .string old] 68))
  obtain ⟨b, hbv⟩ : ∃ b, b = CmdS.valid ⟨kind, path, key, val, old⟩ := ⟨_, rfl⟩
  rw [← hbv] at hval ⊢
  clear hbv
  go_enter Tryz.func38, Tryz.ntmps38
  go_wp2_with fail
  refine hval.mono ?_
  rintro e w1 ⟨rfl, hb1⟩
  go_wp2
  go_ret
  exact ⟨rfl, hb.trans (hb1.mono hb.size)⟩

def IdxPost (w : World) (P : Prop) (e : Ending) (w' : World) : Prop := ∃ i : Int, e = .returned (.int .i64 i) ∧ (0 ≤ i ↔ P) ∧ -1 ≤ i ∧ Below w.heap.size w w'

set_option maxRecDepth 100000 in
theorem index_cmds (x : Option Addr) (l : List CmdS) (cap : Nat) (w : World) (hx : CmdsAt w x l) (hl : l.length ≤ 1000000) :
    Calls Tryz.prog 109 #[.slice x l.length cap, .func (.func 38) #[] #[]] w (IdxPost w (∃ c ∈ l, c.valid = false)) := by
  have HX := veil hx
  clear hx
  go_enter Tryz.func109, Tryz.ntmps109
  go_wp2_with fail
  go_loopw [8] (fun i wr => ∃ k : Nat, k ≤ l.length ∧ i = .int .i64 k ∧ (∀ c ∈ l.take k, c.valid = true) ∧ Below w.heap.size w wr) (fun i _ => l.length - (intOf i).toNat)
  case atStart => exact ⟨0, Nat.zero_le _, rfl, by simp, Below.refl _ _⟩
  case round =>
    obtain ⟨k, hk, rfl, hv, hb⟩ := hrel
    have HV := veil hv
    clear hv
    by_cases hlt : k < l.length
    · obtain ⟨bb, off, rfl, k0, k1, k2, k3, k4⟩ := (HX.out.below hb) k hlt
      have i0 : (0 : Int) ≤ (k : Int) := by omega
      have i1 : (k : Int) < (l.length : Int) := by omega
      have htake : l.take (k + 1) = l.take k ++ [l[k]] := by rw [List.take_add_one, List.getElem?_eq_getElem hlt]; rfl
      have Htake := veil htake
      clear htake
      have hlit := checklit_any l[k] wr
      cases hvk : (l[k]).valid
      · rw [hvk] at hlit
        have HF := veil (show ∃ c ∈ l, c.valid = false from ⟨l[k], List.getElem_mem hlt, hvk⟩)
        clear hvk
        go_wp2_with fail
        refine hlit.mono ?_
        rintro e w1 ⟨rfl, hb1⟩
        go_wp2
        go_ret
        exact ⟨k, rfl, ⟨fun _ => HF.out, fun _ => i0⟩, by omega, hb.trans (hb1.mono hb.size)⟩
      · rw [hvk] at hlit
        have HF := veil hvk
        clear hvk
        go_wp2_with fail
        refine hlit.mono ?_
        rintro e w1 ⟨rfl, hb1⟩
        have hb2 := hb.trans (hb1.mono hb.size)
        go_wp2
        go_roundw
        case rel =>
          refine ⟨k + 1, by omega, by go_num, ?_, hb2⟩
          rw [Htake.out]
          intro c hc
          rcases List.mem_append.1 hc with hc | hc
          · exact HV.out c hc
          · rw [List.mem_singleton.1 hc]; exact HF.out
        case measure => simp [intOf]; omega
    · obtain rfl : k = l.length := by omega
      go_wp2
      go_ret
      refine ⟨-1, rfl, ⟨fun h => absurd h (by decide), ?_⟩, by decide, hb⟩
      rintro ⟨c, hc, hcv⟩
      have := HV.out c (by rw [List.take_length]; exact hc)
      rw [hcv] at this; cases this

theorem contains_cmds (x : Option Addr) (l : List CmdS) (cap : Nat) (w : World) (hx : CmdsAt w x l) (hl : l.length ≤ 1000000) :
    Calls Tryz.prog 37 #[.slice x l.length cap, .func (.func 38) #[] #[]] w (BoolPost w (!l.all CmdS.valid)) := by
  have hidx := index_cmds x l cap w hx hl
  go_enter Tryz.func37, Tryz.ntmps37
  go_wp2_with fail
  refine hidx.mono ?_
  rintro e w1 ⟨i, rfl, hi, _, hb⟩
  have e : decide (0 ≤ i) = !l.all CmdS.valid := by
    rw [Bool.eq_iff_iff, decide_eq_true_iff, hi]
    simp
  have He := veil e
  clear e hi hidx hx
  go_wp2
  go_ret
  refine ⟨?_, hb⟩
  rw [← He.out]
  rfl

/-- Why a request can't be; 0: it may be. -/
def ReqS.check (r : ReqS) : Int :=
  if r.client < 0 ∨ 1099511627776 < r.client ∨ r.seq < 0 ∨ 1099511627776 < r.seq ∨ r.cmds.length = 0 then 1
  else if 6 < r.cmds.length then 2 else if r.cmds.all CmdS.valid = false then 1 else if 8000 < r.bytes.length then 2 else 0
def ErrPost (w : World) (x : Int) (e : Ending) (w' : World) : Prop := e = .returned (.int .i64 x) ∧ Below w.heap.size w w'

set_option maxHeartbeats 1000000 in
set_option maxRecDepth 100000 in
theorem check_any (c q : Int) (x : Option Addr) (l : List CmdS) (cap : Nat) (w : World) (hx : CmdsAt w x l) (hl : l.length ≤ 1000000) :
    Calls Tryz.prog 8 #[reqV c q x l.length cap] w (ErrPost w (ReqS.check ⟨c, q, l⟩)) := by
  have hm := Lies.made w 24 [.int .i64 c, .int .i64 q, .slice x l.length cap]
  have ha := box_made w 24 [.int .i64 c, .int .i64 q, .slice x l.length cap]
  have c0 := hm.cell 0
  have c1 := hm.cell 1
  have c2 := hm.cell 2
  have hx1 := hx.below ha
  simp at c0 c1 c2
  by_cases h1 : c < 0
  · have e : ReqS.check ⟨c, q, l⟩ = 1 := by unfold ReqS.check; rw [if_pos]; exact .inl h1
    rw [e]
    clear e
    go_enter Tryz.func8, Tryz.ntmps8
    go_wp2
    go_ret
    exact ⟨rfl, ha⟩
  by_cases h2 : 1099511627776 < c
  · have e : ReqS.check ⟨c, q, l⟩ = 1 := by unfold ReqS.check; rw [if_pos]; exact .inr (.inl h2)
    rw [e]
    clear e
    go_enter Tryz.func8, Tryz.ntmps8
    go_wp2
    go_ret
    exact ⟨rfl, ha⟩
  by_cases h3 : q < 0
  · have e : ReqS.check ⟨c, q, l⟩ = 1 := by unfold ReqS.check; rw [if_pos]; exact .inr (.inr (.inl h3))
    rw [e]
    clear e
    go_enter Tryz.func8, Tryz.ntmps8
    go_wp2
    go_ret
    exact ⟨rfl, ha⟩
  by_cases h4 : 1099511627776 < q
  · have e : ReqS.check ⟨c, q, l⟩ = 1 := by unfold ReqS.check; rw [if_pos]; exact .inr (.inr (.inr (.inl h4)))
    rw [e]
    clear e
    go_enter Tryz.func8, Tryz.ntmps8
    go_wp2
    go_ret
    exact ⟨rfl, ha⟩
  by_cases h5 : ((l.length : Nat) : Int) = 0
  · have e : ReqS.check ⟨c, q, l⟩ = 1 := by unfold ReqS.check; rw [if_pos]; exact .inr (.inr (.inr (.inr (by show l.length = 0; omega))))
    rw [e]
    clear e
    go_enter Tryz.func8, Tryz.ntmps8
    go_wp2
    go_ret
    exact ⟨rfl, ha⟩
  by_cases h6 : (6 : Int) < ((l.length : Nat) : Int)
  · have e : ReqS.check ⟨c, q, l⟩ = 2 := by
      unfold ReqS.check
      rw [if_neg (by simp only; omega), if_pos (by simp only; omega)]
    rw [e]
    clear e
    go_enter Tryz.func8, Tryz.ntmps8
    go_wp2
    go_ret
    exact ⟨rfl, ha⟩
  have hcon := contains_cmds x l cap _ hx1 hl
  cases hall : l.all CmdS.valid
  · have e : ReqS.check ⟨c, q, l⟩ = 1 := by
      unfold ReqS.check
      rw [if_neg (by simp only; omega), if_neg (by simp only; omega), if_pos hall]
    rw [e]
    rw [hall] at hcon
    clear e hall
    go_enter Tryz.func8, Tryz.ntmps8
    go_wp2_with fail
    refine hcon.mono ?_
    rintro e w1 ⟨rfl, hb1⟩
    go_wp2
    go_ret
    exact ⟨rfl, ha.trans (hb1.mono ha.size)⟩
  · have e : ReqS.check ⟨c, q, l⟩ = if 8000 < (ReqS.bytes ⟨c, q, l⟩).length then 2 else 0 := by
      unfold ReqS.check
      rw [if_neg (by simp only; omega), if_neg (by simp only; omega), if_neg (by simp [hall])]
    rw [e]
    rw [hall] at hcon
    have hvs : ∀ c ∈ l, c.valid = true := fun c hc => List.all_eq_true.1 hall c hc
    obtain ⟨cn, rfl⟩ : ∃ cn : Nat, c = cn := ⟨c.toNat, by omega⟩
    obtain ⟨qn, rfl⟩ : ∃ qn : Nat, q = qn := ⟨q.toNat, by omega⟩
    have hlay : ∀ W, Below w.heap.size w W → Calls Tryz.prog 40 #[reqV cn qn x l.length cap] W (StrPost W (strS (ReqS.bytes ⟨cn, qn, l⟩)) 0) :=
      fun W hb => lay_ok cn qn x l cap W (by omega) (by omega) (hx.below hb) (by omega) hvs
    obtain ⟨bs, hbs⟩ : ∃ bs, bs = ReqS.bytes ⟨cn, qn, l⟩ := ⟨_, rfl⟩
    rw [← hbs] at hlay ⊢
    have Hlay := veil hlay
    have hz := strS_size bs
    clear e hall hvs hlay hbs
    by_cases h8 : (8000 : Int) < ((bs.length : Nat) : Int)
    · rw [if_pos (by omega)]
      go_enter Tryz.func8, Tryz.ntmps8
      go_wp2_with fail
      refine hcon.mono ?_
      rintro e w1 ⟨rfl, hb1⟩
      have hb2 := ha.trans (hb1.mono ha.size)
      have hm1 := hm.below hb1 hm.lt
      have d0 : w1.cell? ⟨w.heap.size, 0, none⟩ = some (.int .i64 cn) := hm1.cell 0
      have d1 : w1.cell? ⟨w.heap.size, 1, none⟩ = some (.int .i64 qn) := hm1.cell 1
      have d2 : w1.cell? ⟨w.heap.size, 2, none⟩ = some (.slice x l.length cap) := hm1.cell 2
      go_wp2_with fail
      refine (Hlay.out _ hb2).mono ?_
      rintro e w2 ⟨rfl, hb3⟩
      go_wp2
      go_ret
      exact ⟨rfl, hb2.trans (hb3.mono hb2.size)⟩
    · rw [if_neg (by omega)]
      go_enter Tryz.func8, Tryz.ntmps8
      go_wp2_with fail
      refine hcon.mono ?_
      rintro e w1 ⟨rfl, hb1⟩
      have hb2 := ha.trans (hb1.mono ha.size)
      have hm1 := hm.below hb1 hm.lt
      have d0 : w1.cell? ⟨w.heap.size, 0, none⟩ = some (.int .i64 cn) := hm1.cell 0
      have d1 : w1.cell? ⟨w.heap.size, 1, none⟩ = some (.int .i64 qn) := hm1.cell 1
      have d2 : w1.cell? ⟨w.heap.size, 2, none⟩ = some (.slice x l.length cap) := hm1.cell 2
      go_wp2_with fail
      refine (Hlay.out _ hb2).mono ?_
      rintro e w2 ⟨rfl, hb3⟩
      go_wp2
      go_ret
      exact ⟨rfl, hb2.trans (hb3.mono hb2.size)⟩
end Go.Proofs.YtjonmggkmalgaaaGreatDoor

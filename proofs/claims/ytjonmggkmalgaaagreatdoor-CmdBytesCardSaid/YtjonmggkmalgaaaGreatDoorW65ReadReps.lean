/-
  cmd.ReadReplies and the document's ReadReplies at whatever bytes: they tell the same. (Printed by gen_readreps.py.)
-/
import Derived.Test.YtjonmggkmalgaaaGreatDoorW62RefRead
import Derived.Test.YtjonmggkmalgaaaGreatDoorW64Reps
namespace Go.Proofs.YtjonmggkmalgaaaGreatDoor
open Go.RowKit Go.Lib
attribute [local go_sem ↓] Go.wp_at_zero Go.wp_at_succ

theorem infoRep : (Tryz.prog.info? 42).map (fun i => (i.zero, i.size, i.bytes)) = some (some (.agg #[.int .i64 0, .string ⟨#[]⟩]), 2, 24) := by kernel_rfl

/-- Replies as cells. -/
def repCells (l : List RepS) : List Value := l.flatMap RepS.cells
theorem repCells_append (a b : List RepS) : repCells (a ++ b) = repCells a ++ repCells b := by unfold repCells; rw [List.flatMap_append]
theorem rcells_get : ∀ (l : List RepS) (i : Nat) (h : i < l.length) (j : Nat), j < 2 → (repCells l)[i * 2 + j]? = (l[i].cells)[j]?
  | c :: l, 0, _, j, hj => by
    unfold repCells
    rw [List.flatMap_cons, Nat.zero_mul, Nat.zero_add, List.getElem?_append_left (by simpa using hj)]
    rfl
  | c :: l, i + 1, h, j, hj => by
    have := rcells_get l i (by simpa using h) j hj
    unfold repCells at this ⊢
    rw [List.flatMap_cons, List.getElem?_append_right (by simp; omega), show (i + 1) * 2 + j - c.cells.length = i * 2 + j by simp; omega, this]
    rfl

/-- A row of replies of one's own, behind base. -/
def RepsOwn (w : World) (base : Nat) (v : Value) (l : List RepS) : Prop := w.ownsRow base 42 2 v l.length (repCells l)
theorem RepsOwn.at_ {w : World} {base : Nat} {v : Value} {l : List RepS} (h : RepsOwn w base v l) : ∃ x cap, v = .slice x l.length cap ∧ RepsAt w x l ∧ l.length ≤ cap := by
  have h' := h
  obtain ⟨_, hh⟩ := h
  rcases hh with ⟨rfl, h0⟩ | ⟨g, cap, cur, rfl, hb, hg, hr⟩
  · obtain rfl : l = [] := List.eq_nil_of_length_eq_zero h0
    exact ⟨none, 0, rfl, fun i hi => absurd hi (Nat.not_lt_zero _), Nat.le_refl _⟩
  · refine ⟨_, cap, rfl, fun i hi => ⟨g, 0, rfl, ?_⟩, by obtain ⟨h1, _⟩ := hr; omega⟩
    have hc : ∀ j, j < 2 → ∀ u, (l[i].cells)[j]? = some u → w.cell? ⟨g, 0 + i * 2 + j, none⟩ = some u := by
      intro j hj u hu
      have := h'.cells (g := g) rfl (i * 2 + j) u (by rw [rcells_get l i hi j hj]; exact hu)
      rw [addr_none] at this
      rw [Nat.zero_add]
      exact this
    exact ⟨hc 0 (by decide) _ rfl, hc 1 (by decide) _ rfl⟩
theorem RepsOwn.nil (w : World) (base : Nat) : RepsOwn w base (.slice none 0 0) [] := ⟨rfl, .inl ⟨rfl, rfl⟩⟩
theorem RepsOwn.kept {S : Nat → Prop} {w w' : World} {base : Nat} {v : Value} {l : List RepS} (h : RepsOwn w base v l) (hk : Keeps S w w') (hn : ∀ g, v.ownBlock = some g → ¬ S g) : RepsOwn w' base v l := own_keeps h hk hn
theorem RepsOwn.below {w w' : World} {base : Nat} {v : Value} {l : List RepS} (h : RepsOwn w base v l) (hb : Below w.heap.size w w') : RepsOwn w' base v l :=
  own_keeps (S := fun _ => False) h (Keeps.below hb (fun j hj hj' => absurd hj (by omega))) (fun _ _ => id)
theorem RepsOwn.ne {w : World} {base b : Nat} {t : TypeId} {cs : List Value} {v : Value} {l : List RepS} (h : RepsOwn w base v l) (hl : Lies w b t cs) (ht : 42 ≠ t) : v.ownBlock ≠ some b := own_lies_ne h hl ht

def repG (s : GetS) : RepS × GetS := (⟨(smallG 2 s).1, strS (textG (smallG 2 s).2).1⟩, (textG (smallG 2 s).2).2)
def repsG : Nat → GetS → List RepS × GetS
  | 0, s => ([], s)
  | n + 1, s => ((repsG n s).1 ++ [(repG (repsG n s).2).1], (repG (repsG n s).2).2)
def readP (b : List UInt8) : List RepS × Int :=
  let n := smallG 1 (b, 0)
  let l := repsG n.1.toNat n.2
  if (endG l.2).2 ≠ 0 then ([], (endG l.2).2) else (l.1, 0)

theorem repG_length (s : GetS) : (repG s).2.1.length ≤ s.1.length := by
  have h1 := smallG_length 2 s
  have h2 := textG_length (smallG 2 s).2
  show (textG (smallG 2 s).2).2.1.length ≤ _
  omega
theorem repsG_length : ∀ (n : Nat) (s : GetS), (repsG n s).2.1.length ≤ s.1.length ∧ (repsG n s).1.length = n
  | 0, s => ⟨Nat.le_refl _, rfl⟩
  | n + 1, s => by
    obtain ⟨h1, h2⟩ := repsG_length n s
    have h3 := repG_length (repsG n s).2
    refine ⟨?_, ?_⟩
    · show (repG (repsG n s).2).2.1.length ≤ _
      omega
    · show ((repsG n s).1 ++ [_]).length = n + 1
      rw [List.length_append, h2]; rfl
theorem repG_err (s : GetS) (h : s.2 ≠ 0) : (repG s).2 = s := by
  show (textG (smallG 2 s).2).2 = s
  rw [smallG_err 2 s h, textG_err s h]
theorem repsG_err (s : GetS) (k : Nat) (h : (repsG k s).2.2 ≠ 0) : ∀ m, (repsG (k + m) s).2 = (repsG k s).2
  | 0 => rfl
  | m + 1 => by
    have ih := repsG_err s k h m
    show (repG (repsG (k + m) s).2).2 = _
    rw [ih]
    exact repG_err _ h

/-! What was read whole is laid again as it was. -/
theorem lowBytes_leVal : ∀ t : List UInt8, lowBytes (leVal t) t.length = t
  | [] => rfl
  | c :: t => by
    have ih := lowBytes_leVal t
    have hc : c.toNat < 256 := c.toNat_lt
    unfold lowBytes at ih ⊢
    rw [List.length_cons, List.range_succ_eq_map, List.map_cons, List.map_map]
    congr 1
    · unfold byteAt leVal
      apply UInt8.toNat_inj.1
      rw [UInt8.toNat_ofNat']
      omega
    · refine Eq.trans (List.map_congr_left fun j _ => ?_) ih
      show UInt8.ofNat ((c.toNat + 256 * leVal t) / 256 ^ (j + 1)) = UInt8.ofNat (leVal t / 256 ^ j)
      rw [Nat.pow_succ, Nat.mul_comm (256 ^ j) 256, ← Nat.div_div_eq_div_mul]
      congr 2
      omega
theorem rawG_ok {n : Nat} {s : GetS} (h : (rawG n s).2.2 = 0) : s.2 = 0 ∧ s.1 = (rawG n s).1 ++ (rawG n s).2.1 ∧ (rawG n s).1.length = n := by
  unfold rawG at h ⊢
  split at h
  · rename_i h0; exact absurd h h0
  · rename_i h0
    rw [if_neg h0]
    rw [if_neg (by omega)] at h ⊢
    split at h
    · cases h
    · rename_i h1
      rw [if_neg h1]
      refine ⟨by omega, ?_, ?_⟩
      · simp
      · simp; omega
theorem smallG_ok {n : Nat} {s : GetS} (h : (smallG n s).2.2 = 0) : s.2 = 0 ∧ s.1 = lowBytes (smallG n s).1.toNat n ++ (smallG n s).2.1 := by
  obtain ⟨h0, h1, h2⟩ := rawG_ok (n := n) (s := s) h
  refine ⟨h0, ?_⟩
  show s.1 = lowBytes ((leVal (rawG n s).1 : Nat) : Int).toNat n ++ (rawG n s).2.1
  rw [Int.toNat_natCast]
  have := lowBytes_leVal (rawG n s).1
  rw [h2] at this
  rw [this]
  exact h1
theorem textG_ok {s : GetS} (h : (textG s).2.2 = 0) : s.2 = 0 ∧ s.1 = textBytes (textG s).1 ++ (textG s).2.1 ∧ (textG s).1.length ≤ 65535 := by
  have hn : (smallG 2 s).1 = (((lowG 2 s).1 : Nat) : Int) := rfl
  have hl := lowG_lt2 s
  unfold textG at h ⊢
  rw [hn] at h ⊢
  obtain ⟨h0, h1, h2⟩ := rawG_ok h
  obtain ⟨h3, h4⟩ := smallG_ok (n := 2) (s := s) h0
  refine ⟨h3, ?_, by omega⟩
  rw [h4, hn, Int.toNat_natCast]
  unfold textBytes
  rw [h2, List.append_assoc, ← h1]
theorem repG_ok {s : GetS} (h : (repG s).2.2 = 0) : s.2 = 0 ∧ s.1 = (repG s).1.bytes ++ (repG s).2.1 := by
  obtain ⟨h0, h1, h2⟩ := textG_ok (s := (smallG 2 s).2) h
  obtain ⟨h3, h4⟩ := smallG_ok (n := 2) (s := s) h0
  refine ⟨h3, ?_⟩
  have hlt := lowG_lt2 s
  have hn : (smallG 2 s).1 = (((lowG 2 s).1 : Nat) : Int) := rfl
  have e1 : (repG s).1.num = (smallG 2 s).1.toNat := by
    show (if 0 ≤ (smallG 2 s).1 ∧ (smallG 2 s).1 ≤ 65535 then (smallG 2 s).1.toNat else 65535) = _
    rw [if_pos ⟨by omega, by omega⟩]
  have e2 : (repG s).1.text = (textG (smallG 2 s).2).1 := by
    show (strS (textG (smallG 2 s).2).1).data.toList.take 65535 = _
    rw [strS_list, List.take_of_length_le h2]
  unfold RepS.bytes
  rw [e1, e2, h4, h1, List.append_assoc]
  rfl
theorem repsG_ok (s : GetS) : ∀ n, (repsG n s).2.2 = 0 → s.2 = 0 ∧ s.1 = (repsG n s).1.flatMap RepS.bytes ++ (repsG n s).2.1
  | 0, h => ⟨h, rfl⟩
  | n + 1, h => by
    obtain ⟨h1, h2⟩ := repG_ok (s := (repsG n s).2) h
    obtain ⟨h3, h4⟩ := repsG_ok s n h1
    refine ⟨h3, ?_⟩
    show s.1 = ((repsG n s).1 ++ [(repG (repsG n s).2).1]).flatMap RepS.bytes ++ (repG (repsG n s).2).2.1
    rw [List.flatMap_append, List.flatMap_cons, List.flatMap_nil, List.append_nil, List.append_assoc, ← h2]
    exact h4
theorem relaid (b : List UInt8) (N : Nat) (s0 : GetS) (hN : (smallG 1 (b, 0)).1 = (N : Int)) (hs : s0 = (smallG 1 (b, 0)).2) (he : (endG (repsG N s0).2).2 = 0) : repsBytes (repsG N s0).1 = b := by
  have h1 : (repsG N s0).2.2 = 0 ∧ (repsG N s0).2.1 = [] := by
    unfold endG at he
    split at he
    · cases he
    · rename_i h
      refine ⟨he, ?_⟩
      unfold leftG at h
      rw [if_neg (by rw [he]; decide)] at h
      exact List.eq_nil_of_length_eq_zero (by omega)
  obtain ⟨h2, h3⟩ := repsG_ok s0 N h1.1
  rw [h1.2, List.append_nil] at h3
  obtain ⟨h4, h5⟩ := smallG_ok (n := 1) (s := (b, 0)) (by rw [← hs]; exact h2)
  have hb := (smallG_one (b, 0)).2
  have hl := (repsG_length N s0).2
  unfold repsBytes
  rw [List.take_of_length_le (by omega), hl, ← h3]
  rw [hN, ← hs, Int.toNat_natCast] at h5
  exact h5.symm

def ReadPPost (w : World) (l : List RepS) (err : Int) (e : Ending) (w' : World) : Prop :=
  ∃ v, e = .returned (.tuple #[v, .int .i64 err]) ∧ RepsOwn w' w.heap.size v l ∧ Below w.heap.size w w'

/-- What the loop of ReadReplies holds: the reader at g, the row of its own. -/
structure RpAt (w0 w : World) (g : Nat) (s : GetS) (v : Value) (l : List RepS) : Prop where
  get : GetAt w g s
  own : RepsOwn w w0.heap.size v l
  below : Below w0.heap.size w0 w
  newg : w0.heap.size ≤ g
section
variable {w0 w w' : World} {g : Nat} {s s' : GetS} {v : Value} {l : List RepS}
theorem RpAt.read (h : RpAt w0 w g s v l) (hg : GetAt w' g s') (hk : Keeps (fun k => k = g) w w') : RpAt w0 w' g s' v l := by
  have hn := h.newg
  have hz := h.below.size
  exact ⟨hg, h.own.kept hk (fun j hj e => h.own.ne h.get (by decide) (by rw [hj, e])), h.below.trans (hk.toBelow hz (fun j hj => by omega)), h.newg⟩
theorem RpAt.alloc (h : RpAt w0 w g s v l) (o : Obj) : RpAt w0 (w.alloc o) g s v l := by
  have hb : Below w.heap.size w (w.alloc o) := (Below.refl _ _).alloc (Nat.le_refl _) _
  exact ⟨Lies.alloc h.get o, h.own.below hb, h.below.alloc h.below.size o, h.newg⟩
theorem RpAt.set {b : Nat} {cs : List Value} (h : RpAt w0 w g s v l) (hb : Lies w b 42 cs) (hn : v.ownBlock ≠ some b) (hw : w0.heap.size ≤ b) (i : Nat) (u : Value) : RpAt w0 (w.setCell ⟨b, i, none⟩ u) g s v l := by
  have hk : Keeps (fun k => k = b) w (w.setCell ⟨b, i, none⟩ u) := Keeps.setCell (S := fun k => k = b) (p := ⟨b, i, none⟩) (Keeps.rfl' _ _) (.inr rfl) _
  exact ⟨Lies.far h.get (Lies.ne_of_type h.get hb (by decide)) u, h.own.kept hk (fun j hj e => hn (by rw [hj, e])), h.below.setCell hw u, h.newg⟩
theorem RpAt.grown {w1 : World} {g' cap : Nat} {d : RepS} (h : RpAt w0 w g s v l) (hg : w.grownBy w1 v.ownBlock)
    (ho : w1.ownsRow w0.heap.size 42 2 (.slice (some ⟨g', 0, none⟩) (l.length + 1) cap) (l.length + 1) (repCells l ++ d.cells)) :
    RpAt w0 w1 g s (.slice (some ⟨g', 0, none⟩) (l.length + 1) cap) (l ++ [d]) := by
  have hg1 := Lies.grown h.get hg (fun e => h.own.ne h.get (by decide) e.symm)
  have ho1 : RepsOwn w1 w0.heap.size (.slice (some ⟨g', 0, none⟩) (l.length + 1) cap) (l ++ [d]) := by
    unfold RepsOwn
    rw [repCells_append, List.length_append]
    simpa [repCells] using ho
  have hb1 := h.below.grown hg h.below.size (fun j hj => (own_lt h.own hj).1)
  exact ⟨hg1, ho1, hb1, h.newg⟩
end

set_option maxHeartbeats 4000000 in
set_option maxRecDepth 100000 in
theorem readreps_any (bl : List UInt8) (w : World) (hbl : bl.length ≤ 1000000) :
    Calls Tryz.prog 22 #[.string (strS bl)] w (ReadPPost w (readP bl).1 (readP bl).2) := by
  obtain ⟨i0, hi, hz0, hz1, hz2⟩ := info_parts infoRep
  have hz := strS_size bl
  have Hread := veil (show readP bl = if (endG (repsG (smallG 1 (bl, 0)).1.toNat (smallG 1 (bl, 0)).2).2).2 ≠ 0 then ([], (endG (repsG (smallG 1 (bl, 0)).1.toNat (smallG 1 (bl, 0)).2).2).2) else ((repsG (smallG 1 (bl, 0)).1.toNat (smallG 1 (bl, 0)).2).1, 0) from rfl)
  have hfrom := from_get (strS bl) w
  rw [strS_list] at hfrom
  go_enter Tryz.func22, Tryz.ntmps22
  go_wp2_with fail
  refine hfrom.mono ?_
  rintro e w1 ⟨rfl, hg1, hlt1, hb1⟩
  go_wp2_with fail
  refine (byte_get _ _ _ hg1 hbl).mono ?_
  rintro e w2 ⟨rfl, hg2, hk2⟩
  have hsz1 := hb1.size
  have hR2 : RpAt w w2 w.heap.size (smallG 1 (bl, 0)).2 (.slice none 0 0) [] := ⟨hg2, RepsOwn.nil _ _, hb1.trans (hk2.toBelow hsz1 (fun j hj => by omega)), Nat.le_refl _⟩
  obtain ⟨b0, b1⟩ := smallG_one (bl, 0)
  have hs0l := smallG_length 1 (bl, 0)
  obtain ⟨N, hN⟩ : ∃ N : Nat, (smallG 1 (bl, 0)).1 = (N : Int) := ⟨(smallG 1 (bl, 0)).1.toNat, by omega⟩
  obtain ⟨s0, hs0⟩ : ∃ s0, s0 = (smallG 1 (bl, 0)).2 := ⟨_, rfl⟩
  have Hrel := veil (fun h => relaid bl N s0 hN hs0 h)
  rw [← hs0] at hR2 hs0l
  rw [hN, Int.toNat_natCast, ← hs0] at Hread
  rw [hN] at b1
  rw [hN]
  simp only at hs0l
  clear hg1 hb1 hg2 hk2 hN hs0 b0
  have H5 := veil hR2
  have hgl := hR2.get.lt
  clear hR2
  go_wp2_with fail
  go_loopw [5, 12] (fun v0 i wr => ∃ (k : Nat) (v : Value), k ≤ N ∧ i = .int .i64 k ∧ v = v0 ∧ RpAt w wr w.heap.size (repsG k s0).2 v (repsG k s0).1) (fun _ i _ => N - (intOf i).toNat)
  case atStart => exact ⟨0, _, Nat.zero_le _, rfl, rfl, H5.out⟩
  case round =>
    obtain ⟨k, v, hkN, rfl, rfl, hR⟩ := hrel
    obtain ⟨l2, l1⟩ := repsG_length k s0
    by_cases hlt : k < N
    · have hnext : repsG (k + 1) s0 = ((repsG k s0).1 ++ [(repG (repsG k s0).2).1], (repG (repsG k s0).2).2) := rfl
      obtain ⟨l, hl⟩ : ∃ l, l = (repsG k s0).1 := ⟨_, rfl⟩
      obtain ⟨s, hs⟩ : ∃ s, s = (repsG k s0).2 := ⟨_, rfl⟩
      rw [← hl, ← hs] at hR hnext
      rw [← hl] at l1
      rw [← hs] at l2
      have Hnext := veil hnext
      clear hnext hl hs
      have i1 : (k : Int) < (N : Int) := by omega
      go_wp2_with fail
      refine (half_get _ _ _ hR.get (by omega)).mono ?_
      rintro e v1 ⟨rfl, hg1, hk1⟩
      have hR1 := (hR.read hg1 hk1).alloc (.cells #[.int .i64 (smallG 2 s).1, .string ⟨#[]⟩] 42)
      have hc1 := Lies.made v1 42 [.int .i64 (smallG 2 s).1, .string ⟨#[]⟩]
      have hown1 := (hR.read hg1 hk1).own
      have hbel1 := (hR.read hg1 hk1).below.size
      have hne1 : v.ownBlock ≠ some v1.heap.size := fun e => by have := (own_lt hown1 e).2; omega
      have t2 := smallG_length 2 s
      have hgv1 := (hR.read hg1 hk1).get.lt
      obtain ⟨x0, hx0⟩ : ∃ x0, x0 = (smallG 2 s).1 := ⟨_, rfl⟩
      obtain ⟨s1, hs1⟩ : ∃ s1, s1 = (smallG 2 s).2 := ⟨_, rfl⟩
      rw [← hx0] at hR1 hc1 ⊢
      rw [← hs1] at hR1 t2
      have Hs1 := veil (And.intro hx0 hs1)
      clear hR hg1 hk1 hown1 hx0 hs1
      go_wp2_with fail
      refine (text_get _ _ _ hR1.get (by omega)).mono ?_
      rintro e v2 ⟨rfl, hg2, hk2⟩
      have hRa := hR1.read hg2 hk2
      have hca := hc1.kept hk2 (by omega)
      have hlc := hca.lt
      have e1 := hca.cell 1
      have f1 := hca.frozen 1
      obtain ⟨x1, hx1⟩ : ∃ x, x = strS (textG s1).1 := ⟨_, rfl⟩
      obtain ⟨s2, hs2⟩ : ∃ s, s = (textG s1).2 := ⟨_, rfl⟩
      rw [← hx1]
      rw [← hs2] at hRa
      have hq := hRa.set hca hne1 (by omega) 1 (.string x1)
      have hp := hca.put 1 (.string x1)
      have hrep : repG s = (⟨x0, x1⟩, s2) := by
        obtain ⟨a0, b0⟩ := Hs1.out
        rw [hs2, hx1, b0, a0]
        rfl
      rw [hrep] at Hnext
      clear hR1 hc1 hg2 hk2 hRa hca hx1 hs2 hrep Hs1 t2
      have g0 := hp.cell 0
      have g1 := hp.cell 1
      have Hq := veil hq
      have hqs := hq.below.size
      clear hq hp
      simp at e1 g0 g1 hqs
      go_wp2_with (at_builtin; refine wpList_append_lies _ rfl _ _ _ rfl w.heap.size 42 i0 _ 2 24 Tryz.underlying39 hi hz0 hz1 hz2 rfl (by omega) _ _ _ rfl ((Hq.out.alloc (.cells #[.int .i64 x0, .string x1] 42)).own) ⟨v2.heap.size, 0, none⟩ 1 1 [.int .i64 x0, .string x1] rfl rfl (World.news_of_block (cs := #[.int .i64 x0, .string x1]) (t := 42) (fr := (0, 0)) (by simpa [World.setCell] using heap_alloc_new (v2.setCell ⟨v1.heap.size, 1, none⟩ (.string x1)) _)) (by simp [Value.oneCell']) (by omega) (by unfold maxLen; omega) (by omega) (by simp [World.setCell]; omega) (v2.heap.size + 1) (by simp [World.setCell]) ?_; intro g' cap w10 hown10 hgrow hat hglt; have hR10 := (Hq.out.alloc (.cells #[.int .i64 x0, .string x1] 42)).grown (d := ⟨x0, x1⟩) hgrow hown10)
      refine ⟨⟨k + 1, .slice (some ⟨g', 0, none⟩) (k + 1) cap, by omega, by go_num, rfl, ?_⟩, by simp [intOf]; omega⟩
      rw [Hnext.out]
      rw [l1] at hR10
      exact hR10
    · obtain rfl : k = N := by omega
      obtain ⟨l, hl⟩ : ∃ l, l = (repsG k s0).1 := ⟨_, rfl⟩
      obtain ⟨s, hs⟩ : ∃ s, s = (repsG k s0).2 := ⟨_, rfl⟩
      rw [← hl, ← hs] at hR Hread Hrel
      rw [← hl] at l1
      clear hl hs l2
      subst l1
      go_wp2_with fail
      refine (end_get _ _ _ hR.get).mono ?_
      rintro e w6 ⟨rfl, hg6, hk6⟩
      have hR6 := hR.read hg6 hk6
      clear hR hg6 hk6
      by_cases he : (endG s).2 = 0
      · have heb : ((endG s).2 != 0) = false := by rw [he]; rfl
        have Hr := veil (show readP bl = (l, 0) by rw [Hread.out, if_neg (by simpa using he)])
        have hb := Hrel.out he
        obtain ⟨xs, cap, rfl, hat, hcap⟩ := hR6.own.at_
        have hrep := replies_any xs l cap w6 hat hcap (by omega)
        rw [hb] at hrep
        have hsame : ((strS bl).toList != (strS bl).toList) = false := by simp
        clear Hread Hrel he hb hat
        go_wp2_with fail
        refine hrep.mono ?_
        rintro e w7 ⟨rfl, hb7⟩
        have hown7 := hR6.own.below hb7
        have hbw7 := hR6.below.trans (hb7.mono hR6.below.size)
        go_wp2
        go_ret2
        rw [Hr.out]
        exact ⟨_, rfl, hown7, hbw7⟩
      · have heb : ((endG s).2 != 0) = true := by simpa using he
        have Hr := veil (show readP bl = ([], (endG s).2) by rw [Hread.out, if_pos he])
        clear Hread Hrel he
        go_wp2
        go_ret2
        rw [Hr.out]
        exact ⟨_, rfl, RepsOwn.nil _ _, hR6.below⟩

/-- What the loop of ReadReplies holds: the reader at g, the row of its own. -/
structure RpRAt (w0 w : World) (g : Nat) (s : GetS) (v : Value) (l : List RepS) : Prop where
  get : RGetAt w g s
  own : RepsOwn w w0.heap.size v l
  below : Below w0.heap.size w0 w
  newg : w0.heap.size ≤ g
section
variable {w0 w w' : World} {g : Nat} {s s' : GetS} {v : Value} {l : List RepS}
theorem RpRAt.read (h : RpRAt w0 w g s v l) (hg : RGetAt w' g s') (hk : Keeps (fun k => k = g) w w') : RpRAt w0 w' g s' v l := by
  have hn := h.newg
  have hz := h.below.size
  exact ⟨hg, h.own.kept hk (fun j hj e => h.own.ne h.get (by decide) (by rw [hj, e])), h.below.trans (hk.toBelow hz (fun j hj => by omega)), h.newg⟩
theorem RpRAt.alloc (h : RpRAt w0 w g s v l) (o : Obj) : RpRAt w0 (w.alloc o) g s v l := by
  have hb : Below w.heap.size w (w.alloc o) := (Below.refl _ _).alloc (Nat.le_refl _) _
  exact ⟨Lies.alloc h.get o, h.own.below hb, h.below.alloc h.below.size o, h.newg⟩
theorem RpRAt.set {b : Nat} {cs : List Value} (h : RpRAt w0 w g s v l) (hb : Lies w b 42 cs) (hn : v.ownBlock ≠ some b) (hw : w0.heap.size ≤ b) (i : Nat) (u : Value) : RpRAt w0 (w.setCell ⟨b, i, none⟩ u) g s v l := by
  have hk : Keeps (fun k => k = b) w (w.setCell ⟨b, i, none⟩ u) := Keeps.setCell (S := fun k => k = b) (p := ⟨b, i, none⟩) (Keeps.rfl' _ _) (.inr rfl) _
  exact ⟨Lies.far h.get (Lies.ne_of_type h.get hb (by decide)) u, h.own.kept hk (fun j hj e => hn (by rw [hj, e])), h.below.setCell hw u, h.newg⟩
theorem RpRAt.grown {w1 : World} {g' cap : Nat} {d : RepS} (h : RpRAt w0 w g s v l) (hg : w.grownBy w1 v.ownBlock)
    (ho : w1.ownsRow w0.heap.size 42 2 (.slice (some ⟨g', 0, none⟩) (l.length + 1) cap) (l.length + 1) (repCells l ++ d.cells)) :
    RpRAt w0 w1 g s (.slice (some ⟨g', 0, none⟩) (l.length + 1) cap) (l ++ [d]) := by
  have hg1 := Lies.grown h.get hg (fun e => h.own.ne h.get (by decide) e.symm)
  have ho1 : RepsOwn w1 w0.heap.size (.slice (some ⟨g', 0, none⟩) (l.length + 1) cap) (l ++ [d]) := by
    unfold RepsOwn
    rw [repCells_append, List.length_append]
    simpa [repCells] using ho
  have hb1 := h.below.grown hg h.below.size (fun j hj => (own_lt h.own hj).1)
  exact ⟨hg1, ho1, hb1, h.newg⟩
end

set_option maxHeartbeats 4000000 in
set_option maxRecDepth 100000 in
theorem readreps_ref (bl : List UInt8) (w : World) (hbl : bl.length ≤ 1000000) :
    Calls Tryz.prog 23 #[.string (strS bl)] w (ReadPPost w (readP bl).1 (readP bl).2) := by
  obtain ⟨i0, hi, hz0, hz1, hz2⟩ := info_parts infoRep
  have hz := strS_size bl
  have Hread := veil (show readP bl = if (endG (repsG (smallG 1 (bl, 0)).1.toNat (smallG 1 (bl, 0)).2).2).2 ≠ 0 then ([], (endG (repsG (smallG 1 (bl, 0)).1.toNat (smallG 1 (bl, 0)).2).2).2) else ((repsG (smallG 1 (bl, 0)).1.toNat (smallG 1 (bl, 0)).2).1, 0) from rfl)
  have hg1 : RGetAt (w.alloc (.cells #[.string (strS bl), .int .i64 0] 97)) w.heap.size (bl, 0) := Lies.made w 97 [.string (strS bl), .int .i64 0]
  have hb1 := box_made w 97 [.string (strS bl), .int .i64 0]
  go_enter Tryz.func23, Tryz.ntmps23
  go_wp2_with fail
  refine (num1_rget _ _ _ hg1 hbl).mono ?_
  rintro e w2 ⟨rfl, hg2, hk2⟩
  have hsz1 := hb1.size
  have hR2 : RpRAt w w2 w.heap.size (smallG 1 (bl, 0)).2 (.slice none 0 0) [] := ⟨hg2, RepsOwn.nil _ _, hb1.trans (hk2.toBelow hsz1 (fun j hj => by omega)), Nat.le_refl _⟩
  obtain ⟨b0, b1⟩ := smallG_one (bl, 0)
  have hs0l := smallG_length 1 (bl, 0)
  obtain ⟨N, hN⟩ : ∃ N : Nat, (smallG 1 (bl, 0)).1 = (N : Int) := ⟨(smallG 1 (bl, 0)).1.toNat, by omega⟩
  obtain ⟨s0, hs0⟩ : ∃ s0, s0 = (smallG 1 (bl, 0)).2 := ⟨_, rfl⟩
  have Hrel := veil (fun h => relaid bl N s0 hN hs0 h)
  rw [← hs0] at hR2 hs0l
  rw [hN, Int.toNat_natCast, ← hs0] at Hread
  rw [hN] at b1
  rw [hN]
  simp only at hs0l
  clear hg1 hb1 hg2 hk2 hN hs0 b0
  have H5 := veil hR2
  have hgl := hR2.get.lt
  clear hR2
  go_wp2_with fail
  go_loopw [6, 7] (fun v0 i wr => ∃ (k : Nat) (v : Value), k ≤ N ∧ i = .int .i64 k ∧ v = v0 ∧ RpRAt w wr w.heap.size (repsG k s0).2 v (repsG k s0).1) (fun _ i _ => N - (intOf i).toNat)
  case atStart => exact ⟨0, _, Nat.zero_le _, rfl, rfl, H5.out⟩
  case round =>
    obtain ⟨k, v, hkN, rfl, rfl, hR⟩ := hrel
    obtain ⟨l2, l1⟩ := repsG_length k s0
    have t1 : wr.cell? ⟨w.heap.size, 1, none⟩ = some (.int .i64 (repsG k s0).2.2) := hR.get.cell 1
    have hcases : (k < N ∧ (repsG k s0).2.2 = 0) ∨ (k < N ∧ (repsG k s0).2.2 ≠ 0) ∨ ¬ k < N := by omega
    rcases hcases with ⟨hlt, hz1⟩ | ⟨hlt, hz1⟩ | hlt
    · have hzb : ((repsG k s0).2.2 == 0) = true := by rw [hz1]; rfl
      have hnext : repsG (k + 1) s0 = ((repsG k s0).1 ++ [(repG (repsG k s0).2).1], (repG (repsG k s0).2).2) := rfl
      obtain ⟨l, hl⟩ : ∃ l, l = (repsG k s0).1 := ⟨_, rfl⟩
      obtain ⟨s, hs⟩ : ∃ s, s = (repsG k s0).2 := ⟨_, rfl⟩
      rw [← hl, ← hs] at hR hnext
      rw [← hl] at l1
      rw [← hs] at l2 t1 hzb
      have Hnext := veil hnext
      clear hnext hl hs hz1
      have i1 : (k : Int) < (N : Int) := by omega
      go_wp2_with fail
      refine (num2_rget _ _ _ hR.get (by omega)).mono ?_
      rintro e v1 ⟨rfl, hg1, hk1⟩
      have hR1 := (hR.read hg1 hk1).alloc (.cells #[.int .i64 (smallG 2 s).1, .string ⟨#[]⟩] 42)
      have hc1 := Lies.made v1 42 [.int .i64 (smallG 2 s).1, .string ⟨#[]⟩]
      have hown1 := (hR.read hg1 hk1).own
      have hbel1 := (hR.read hg1 hk1).below.size
      have hne1 : v.ownBlock ≠ some v1.heap.size := fun e => by have := (own_lt hown1 e).2; omega
      have t2 := smallG_length 2 s
      have hgv1 := (hR.read hg1 hk1).get.lt
      obtain ⟨x0, hx0⟩ : ∃ x0, x0 = (smallG 2 s).1 := ⟨_, rfl⟩
      obtain ⟨s1, hs1⟩ : ∃ s1, s1 = (smallG 2 s).2 := ⟨_, rfl⟩
      rw [← hx0] at hR1 hc1 ⊢
      rw [← hs1] at hR1 t2
      have Hs1 := veil (And.intro hx0 hs1)
      clear hR hg1 hk1 hown1 hx0 hs1 t1
      go_wp2_with fail
      refine (text_rget _ _ _ hR1.get (by omega)).mono ?_
      rintro e v2 ⟨rfl, hg2, hk2⟩
      have hRa := hR1.read hg2 hk2
      have hca := hc1.kept hk2 (by omega)
      have hlc := hca.lt
      have e1 := hca.cell 1
      have f1 := hca.frozen 1
      obtain ⟨x1, hx1⟩ : ∃ x, x = strS (textG s1).1 := ⟨_, rfl⟩
      obtain ⟨s2, hs2⟩ : ∃ s, s = (textG s1).2 := ⟨_, rfl⟩
      rw [← hx1]
      rw [← hs2] at hRa
      have hq := hRa.set hca hne1 (by omega) 1 (.string x1)
      have hp := hca.put 1 (.string x1)
      have hrep : repG s = (⟨x0, x1⟩, s2) := by
        obtain ⟨a0, b0⟩ := Hs1.out
        rw [hs2, hx1, b0, a0]
        rfl
      rw [hrep] at Hnext
      clear hR1 hc1 hg2 hk2 hRa hca hx1 hs2 hrep Hs1 t2
      have g0 := hp.cell 0
      have g1 := hp.cell 1
      have Hq := veil hq
      have hqs := hq.below.size
      clear hq hp
      simp at e1 g0 g1 hqs
      go_wp2_with (at_builtin; refine wpList_append_lies _ rfl _ _ _ rfl w.heap.size 42 i0 _ 2 24 Tryz.underlying39 hi hz0 hz1 hz2 rfl (by omega) _ _ _ rfl ((Hq.out.alloc (.cells #[.int .i64 x0, .string x1] 42)).own) ⟨v2.heap.size, 0, none⟩ 1 1 [.int .i64 x0, .string x1] rfl rfl (World.news_of_block (cs := #[.int .i64 x0, .string x1]) (t := 42) (fr := (0, 0)) (by simpa [World.setCell] using heap_alloc_new (v2.setCell ⟨v1.heap.size, 1, none⟩ (.string x1)) _)) (by simp [Value.oneCell']) (by omega) (by unfold maxLen; omega) (by omega) (by simp [World.setCell]; omega) (v2.heap.size + 1) (by simp [World.setCell]) ?_; intro g' cap w10 hown10 hgrow hat hglt; have hR10 := (Hq.out.alloc (.cells #[.int .i64 x0, .string x1] 42)).grown (d := ⟨x0, x1⟩) hgrow hown10)
      refine ⟨⟨k + 1, .slice (some ⟨g', 0, none⟩) (k + 1) cap, by omega, by go_num, rfl, ?_⟩, by simp [intOf]; omega⟩
      rw [Hnext.out]
      rw [l1] at hR10
      exact hR10
    · have hst := repsG_err s0 k hz1 (N - k)
      rw [show k + (N - k) = N by omega] at hst
      have hek : (endG (repsG k s0).2).2 ≠ 0 := by unfold endG leftG; rw [if_pos hz1, if_neg (by decide)]; exact hz1
      have Hr := veil (show readP bl = ([], (endG (repsG k s0).2).2) by rw [Hread.out, hst, if_pos hek])
      have hzb : ((repsG k s0).2.2 == 0) = false := by simpa using hz1
      have i1 : (k : Int) < (N : Int) := by omega
      obtain ⟨l, hl⟩ : ∃ l, l = (repsG k s0).1 := ⟨_, rfl⟩
      obtain ⟨s, hs⟩ : ∃ s, s = (repsG k s0).2 := ⟨_, rfl⟩
      rw [← hl, ← hs] at hR
      rw [← hs] at t1 hzb Hr hek
      have heb : ((endG s).2 != 0) = true := by simpa using hek
      clear hl hs l2 l1 hst hek hz1 Hread Hrel
      go_wp2_with fail
      refine (end_rget _ _ _ hR.get).mono ?_
      rintro e w6 ⟨rfl, hg6, hk6⟩
      have hR6 := hR.read hg6 hk6
      clear hR hg6 hk6
      go_wp2
      go_ret2
      rw [Hr.out]
      exact ⟨_, rfl, RepsOwn.nil _ _, hR6.below⟩
    · obtain rfl : k = N := by omega
      obtain ⟨l, hl⟩ : ∃ l, l = (repsG k s0).1 := ⟨_, rfl⟩
      obtain ⟨s, hs⟩ : ∃ s, s = (repsG k s0).2 := ⟨_, rfl⟩
      rw [← hl, ← hs] at hR Hread Hrel
      rw [← hl] at l1
      rw [← hs] at t1
      clear hl hs l2
      subst l1
      go_wp2_with fail
      refine (end_rget _ _ _ hR.get).mono ?_
      rintro e w6 ⟨rfl, hg6, hk6⟩
      have hR6 := hR.read hg6 hk6
      clear hR hg6 hk6
      by_cases he : (endG s).2 = 0
      · have heb : ((endG s).2 != 0) = false := by rw [he]; rfl
        have Hr := veil (show readP bl = (l, 0) by rw [Hread.out, if_neg (by simpa using he)])
        clear Hread Hrel he
        go_wp2
        go_ret2
        rw [Hr.out]
        exact ⟨_, rfl, hR6.own, hR6.below⟩
      · have heb : ((endG s).2 != 0) = true := by simpa using he
        have Hr := veil (show readP bl = ([], (endG s).2) by rw [Hread.out, if_pos he])
        clear Hread Hrel he
        go_wp2
        go_ret2
        rw [Hr.out]
        exact ⟨_, rfl, RepsOwn.nil _ _, hR6.below⟩
end Go.Proofs.YtjonmggkmalgaaaGreatDoor

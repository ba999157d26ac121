/-
  Rows of one's own, many of a kind: what is read behind a slice, what is appended from whatever slice, families of rows that share no memory. No program's code in it.
-/
import Derived.Test.YtjonmggkmalgaaaGreatDoorW02Pack
import Derived.Deep.AppendSrc
import Derived.Maps.AppendAt
namespace Go.Proofs.YtjonmggkmalgaaaGreatDoor
open Go.RowKit

/-- The slice that begins at x holds these cells. -/
def RowAt (w : World) (x : Option Addr) (cells : List Value) : Prop := ∀ j u, cells[j]? = some u → ∃ b off, x = some ⟨b, off, none⟩ ∧ w.cell? ⟨b, off + j, none⟩ = some u
theorem RowAt.below {w w' : World} {x : Option Addr} {cs : List Value} (h : RowAt w x cs) (hb : Below w.heap.size w w') : RowAt w' x cs := by
  intro j u hj
  obtain ⟨b, off, hx, h0⟩ := h j u hj
  exact ⟨b, off, hx, (hb.cell (World.block_lt_of_cell? w _ h0)).trans h0⟩
theorem RowAt.kept {S : Nat → Prop} {w w' : World} {x : Option Addr} {cs : List Value} (h : RowAt w x cs) (hk : Keeps S w w') (hn : ∀ a, x = some a → ¬ S a.block) : RowAt w' x cs := by
  intro j u hj
  obtain ⟨b, off, hx, h0⟩ := h j u hj
  exact ⟨b, off, hx, (hk.cell (World.block_lt_of_cell? w _ h0) (show ¬ S b from hn _ hx)).trans h0⟩
theorem RowAt.nil (w : World) (x : Option Addr) : RowAt w x [] := fun j u h => by cases h
theorem RowAt.none_nil {w : World} {cs : List Value} (h : RowAt w none cs) : cs = [] := by
  cases cs with
  | nil => rfl
  | cons u l => obtain ⟨b, off, hx, _⟩ := h 0 u rfl; cases hx

theorem add_plain0 (g j : Nat) : (⟨g, 0, none⟩ : Addr).add j = ⟨g, j, none⟩ := by unfold Addr.add; split <;> simp_all
theorem add_plain1 (b off j : Nat) : (⟨b, off, none⟩ : Addr).add j = ⟨b, off + j, none⟩ := by unfold Addr.add; split <;> simp_all

/-- What owns a row is a slice. -/
theorem own_slice {w : World} {base : Nat} {e : TypeId} {size : Nat} {v : Value} {n : Nat} {xs : List Value} (h : w.ownsRow base e size v n xs) :
    ∃ x cap, v = .slice x n cap ∧ RowAt w x xs ∧ n ≤ cap := by
  have h' := h
  obtain ⟨hl, hh⟩ := h
  rcases hh with ⟨rfl, rfl⟩ | ⟨g, cap, cur, rfl, hb, hg, h1, _⟩
  · have : xs = [] := List.eq_nil_of_length_eq_zero (by simpa using hl)
    subst this
    exact ⟨none, 0, rfl, RowAt.nil _ _, Nat.le_refl _⟩
  · refine ⟨_, cap, rfl, fun j u hj => ⟨g, 0, rfl, ?_⟩, h1⟩
    have := h'.cells (g := g) rfl j u hj
    rw [add_plain0] at this
    rw [Nat.zero_add]
    exact this

section
variable {P : Program}

theorem run_append_nilsrc (w : World) (t ty : TypeId) (base : Nat) (e : TypeId) (i : TypeInfo) (size : Nat) (ht : P.underlying t = some (.slice e)) (hi : P.info? e = some i)
    (v : Value) (n : Nat) (xs : List Value) (hown : w.ownsRow base e size v n xs) (c : Nat) :
    (Builtin.append_ #[t, t] ty #[v, .slice none 0 c]).run P w = .ok v w := by
  rcases hown.2 with ⟨rfl, rfl⟩ | ⟨g, cap, cur, rfl, _, _, h1, _⟩
  · simp [Builtin.append_, run_underlying ht, sizeOf, typeInfo, hi, Builtin.lenOf, Builtin.firstCells]
  · simp [Builtin.append_, run_underlying ht, sizeOf, typeInfo, hi, Builtin.lenOf, Builtin.firstCells, loadCells, h1, storeCells]

theorem run_append_any (w : World) (t ty : TypeId) (base : Nat) (e : TypeId) (i : TypeInfo) (z : Value) (size bytes : Nat) (ht : P.underlying t = some (.slice e)) (hi : P.info? e = some i) (hz : i.zero = some z)
    (hsize : i.size = size) (hby : i.bytes = bytes) (hzs : z.cells.size = size) (hsz : 0 < size)
    (v : Value) (n : Nat) (xs : List Value) (hown : w.ownsRow base e size v n xs)
    (y : Option Addr) (m c : Nat) (news : List Value) (hl : news.length = m * size) (hnews : RowAt w y news) (h1 : ∀ u ∈ news, u.oneCell' = true)
    (h63 : n + m ≤ maxLen) (hbytes : (n + m) * bytes ≤ 140737488355328) (hbase : base ≤ w.heap.size) :
    ∃ x cap w', (Builtin.append_ #[t, t] ty #[v, .slice y m c]).run P w = .ok (.slice x (n + m) cap) w' ∧
      w'.ownsRow base e size (.slice x (n + m) cap) (n + m) (xs ++ news) ∧ w.grownBy w' v.ownBlock ∧ ((Value.slice x (n + m) cap).ownBlock = v.ownBlock ∨ ((Value.slice x (n + m) cap).ownBlock = some w.heap.size ∧ w.grownBy w' none)) := by
  cases y with
  | none =>
    have hn : news = [] := hnews.none_nil
    subst hn
    obtain rfl : m = 0 := by
      rcases Nat.eq_zero_or_pos m with h | h
      · exact h
      · have := Nat.mul_pos h hsz
        simp at hl
        omega
    obtain ⟨x, cap, rfl, _, _⟩ := own_slice hown
    refine ⟨x, cap, w, run_append_nilsrc w t ty base e i size ht hi _ n xs hown c, by simpa using hown, ⟨rfl, rfl, rfl, Nat.le_refl _, fun _ _ _ => rfl⟩, .inl rfl⟩
  | some ad =>
    have hcell : ∀ j u, news[j]? = some u → w.cell? (ad.add j) = some u := by
      intro j u hj
      obtain ⟨b, off, hx, h0⟩ := hnews j u hj
      injection hx with hx
      subst hx
      rw [add_plain1]
      exact h0
    obtain ⟨v', w', hr, h2, h3, _, h5⟩ := run_append_own_at (P := P) w base t ty e i z size bytes ht hi hz hsize hby hzs hsz v n xs hown ad m c news hl hcell h1 h63 hbytes hbase
    obtain ⟨x, cap, rfl, _, _⟩ := own_slice h2
    refine ⟨x, cap, w', hr, h2, h3, ?_⟩
    rcases hown.2 with ⟨rfl, rfl⟩ | ⟨g, cp, cur, rfl, hbg, hg, hnc, hcm, hcs, htake⟩
    · rcases h5 with h5 | h5
      · exact .inl h5
      · exact .inr ⟨h5, h3⟩
    · by_cases hroom : n + m ≤ cp
      · rcases h5 with h5 | h5
        · exact .inl h5
        · exfalso
          have hfit : n * i.size + news.length ≤ cur.size := by rw [hl, hcs, hsize, ← Nat.add_mul]; exact Nat.mul_le_mul_right _ hroom
          have hr2 := run_append_room (P := P) w t ty e i ht hi g n cp cur hg ad m c news (by rw [hsize]; exact hl) hcell h1 hroom hfit
          rw [hr] at hr2
          injection hr2 with hr2 _
          injection hr2 with hr2 _ _
          subst hr2
          simp [Value.ownBlock] at h5
          subst h5
          rw [Array.getElem?_eq_none (Nat.le_refl _)] at hg
          cases hg
      · have holds : ∀ j u, xs[j]? = some u → w.cell? ((⟨g, 0, none⟩ : Addr).add j) = some u := hown.cells (g := g) rfl
        have hr2 := run_append_grow (P := P) w t ty e i z ht hi hz ⟨g, 0, none⟩ n cp xs (by rw [hsize]; exact hown.1) holds ad m c news (by rw [hsize]; exact hl) hcell (by omega) (by simp only [maxLen] at h63; omega) (growslice_fits (by omega) (by rw [hby]; exact hbytes))
        rw [hr] at hr2
        injection hr2 with hr2 hw2
        subst hw2
        injection hr2 with hr2 _ _
        subst hr2
        exact .inr ⟨rfl, ⟨rfl, rfl, rfl, by simp, fun k hk _ => heap_alloc_old w.drew _ hk⟩⟩

theorem wp_append_any (w : World) {o : Oper} {a : Act} {K : Act → World → Prop} {Q : Exit → Act → World → Prop} (s x : Operand) (t : TypeId)
    (ho : o.op = .call { callee := .builtin .append, args := #[s, x], argTypes := #[t, t] })
    (base : Nat) (e : TypeId) (i : TypeInfo) (z : Value) (size bytes : Nat) (ht : P.underlying t = some (.slice e)) (hi : P.info? e = some i) (hz : i.zero = some z)
    (hsize : i.size = size) (hby : i.bytes = bytes) (hzs : z.cells.size = size) (hsz : 0 < size)
    (v : Value) (n : Nat) (xs : List Value) (hs : a.eval s = v) (hown : w.ownsRow base e size v n xs)
    (y : Option Addr) (m c : Nat) (news : List Value) (hx : a.eval x = .slice y m c) (hl : news.length = m * size) (hnews : RowAt w y news) (h1 : ∀ u ∈ news, u.oneCell' = true)
    (h63 : n + m ≤ maxLen) (hbytes : (n + m) * bytes ≤ 140737488355328) (hbase : base ≤ w.heap.size)
    (h : ∀ x cap w', w'.ownsRow base e size (.slice x (n + m) cap) (n + m) (xs ++ news) → w.grownBy w' v.ownBlock → ((Value.slice x (n + m) cap).ownBlock = v.ownBlock ∨ ((Value.slice x (n + m) cap).ownBlock = some w.heap.size ∧ w.grownBy w' none)) → K (a.put o.dst (.slice x (n + m) cap)) w') : o.wp P a w K Q := by
  obtain ⟨x', cap, w', hr, h2, h3, h4⟩ := run_append_any (P := P) w t o.type base e i z size bytes ht hi hz hsize hby hzs hsz v n xs hown y m c news hl hnews h1 h63 hbytes hbase
  unfold Oper.wp execOp
  simp only [ho, resolve, invoke, builtin, Sem.run_bind, Sem.run_pure, Result.andThen_ok, List.map_toArray, List.map_cons, List.map_nil, hs, hx, hr]
  exact h x' cap w' h2 h3 h4

theorem wpList_append_any {w : World} {ops : Array Oper} {rest : List Oper} {o : Oper} {a : Act} {Q : Exit → Act → World → Prop} (hgd : o.guard = none) (s x : Operand) (t : TypeId)
    (ho : o.op = .call { callee := .builtin .append, args := #[s, x], argTypes := #[t, t] })
    (base : Nat) (e : TypeId) (i : TypeInfo) (z : Value) (size bytes : Nat) (ht : P.underlying t = some (.slice e)) (hi : P.info? e = some i) (hz : i.zero = some z)
    (hsize : i.size = size) (hby : i.bytes = bytes) (hzs : z.cells.size = size) (hsz : 0 < size)
    (v : Value) (n : Nat) (xs : List Value) (hs : a.eval s = v) (hown : w.ownsRow base e size v n xs)
    (y : Option Addr) (m c : Nat) (news : List Value) (hx : a.eval x = .slice y m c) (hl : news.length = m * size) (hnews : RowAt w y news) (h1 : ∀ u ∈ news, u.oneCell' = true)
    (h63 : n + m ≤ maxLen) (hbytes : (n + m) * bytes ≤ 140737488355328) (hbase : base ≤ w.heap.size)
    (h : ∀ x cap w', w'.ownsRow base e size (.slice x (n + m) cap) (n + m) (xs ++ news) → w.grownBy w' v.ownBlock → ((Value.slice x (n + m) cap).ownBlock = v.ownBlock ∨ ((Value.slice x (n + m) cap).ownBlock = some w.heap.size ∧ w.grownBy w' none)) → wpList P ops Q rest (a.put o.dst (.slice x (n + m) cap)) w') : wpList P ops Q (o :: rest) a w :=
  wpList_plain hgd fun _ hK => wp_append_any w s x t ho base e i z size bytes ht hi hz hsize hby hzs hsz v n xs hs hown y m c news hx hl hnews h1 h63 hbytes hbase fun x cap w' h2 h3 h4 => hK _ _ (h x cap w' h2 h3 h4)

theorem step_append_any {w : World} {ops : Array Oper} {o : Oper} {a : Act} {K : Act → World → Prop} {Q : Exit → Act → World → Prop} {E : Prop} (hgd : o.guard = none) (s x : Operand) (t : TypeId)
    (ho : o.op = .call { callee := .builtin .append, args := #[s, x], argTypes := #[t, t] })
    (base : Nat) (e : TypeId) (i : TypeInfo) (z : Value) (size bytes : Nat) (ht : P.underlying t = some (.slice e)) (hi : P.info? e = some i) (hz : i.zero = some z)
    (hsize : i.size = size) (hby : i.bytes = bytes) (hzs : z.cells.size = size) (hsz : 0 < size)
    (v : Value) (n : Nat) (xs : List Value) (hs : a.eval s = v) (hown : w.ownsRow base e size v n xs)
    (y : Option Addr) (m c : Nat) (news : List Value) (hx : a.eval x = .slice y m c) (hl : news.length = m * size) (hnews : RowAt w y news) (h1 : ∀ u ∈ news, u.oneCell' = true)
    (h63 : n + m ≤ maxLen) (hbytes : (n + m) * bytes ≤ 140737488355328) (hbase : base ≤ w.heap.size)
    (h : ∀ x cap w', w'.ownsRow base e size (.slice x (n + m) cap) (n + m) (xs ++ news) → w.grownBy w' v.ownBlock → ((Value.slice x (n + m) cap).ownBlock = v.ownBlock ∨ ((Value.slice x (n + m) cap).ownBlock = some w.heap.size ∧ w.grownBy w' none)) → K (a.put o.dst (.slice x (n + m) cap)) w') :
    if Region.wanted o (yielded ops a.tmps) = true then Oper.wp P o a w K Q else E := by
  have hw : Region.wanted o (yielded ops a.tmps) = true := by simp [Region.wanted, hgd]
  rw [if_pos hw]
  exact wp_append_any w s x t ho base e i z size bytes ht hi hz hsize hby hzs hsz v n xs hs hown y m c news hx hl hnews h1 h63 hbytes hbase h
end

/-- A row of one's own of things that are some cells each. -/
def OwnG {α : Type} (t : TypeId) (sz : Nat) (cell : α → List Value) (w : World) (base : Nat) (v : Value) (l : List α) : Prop := w.ownsRow base t sz v l.length (l.flatMap cell)
/-- Many such rows, no two in one block. -/
structure FamG {α : Type} (t : TypeId) (sz : Nat) (cell : α → List Value) (w : World) (base : Nat) (vs : List Value) (cs : List (List α)) : Prop where
  len : vs.length = cs.length
  own : ∀ i (h : i < vs.length) (h' : i < cs.length), OwnG t sz cell w base vs[i] cs[i]
  apart : ∀ i j (hi : i < vs.length) (hj : j < vs.length) g, vs[i].ownBlock = some g → vs[j].ownBlock = some g → i = j

section
variable {α : Type} {t : TypeId} {sz : Nat} {cell : α → List Value} {w w' : World} {base : Nat} {v : Value} {l : List α} {vs : List Value} {cs : List (List α)} {S : Nat → Prop}
theorem OwnG.lt (h : OwnG t sz cell w base v l) {g : Nat} (hv : v.ownBlock = some g) : base ≤ g ∧ g < w.heap.size := own_lt h hv
theorem OwnG.kept (h : OwnG t sz cell w base v l) (hk : Keeps S w w') (hn : ∀ g, v.ownBlock = some g → ¬ S g) : OwnG t sz cell w' base v l := own_keeps h hk hn
theorem OwnG.below (h : OwnG t sz cell w base v l) (hb : Below w.heap.size w w') : OwnG t sz cell w' base v l :=
  h.kept (S := fun _ => False) (Keeps.below hb (fun j hj hj' => absurd hj (by omega))) (fun _ _ => id)
theorem OwnG.typed (h : OwnG t sz cell w base v l) {g : Nat} (hv : v.ownBlock = some g) : ∃ cur, w.heap[g]? = some (.cells cur t (0, 0)) := by
  rcases h.2 with ⟨rfl, _⟩ | ⟨g', cap, cur, rfl, _, hg, _⟩
  · simp [Value.ownBlock] at hv
  · have : g' = g := by simpa [Value.ownBlock] using hv
    subst this
    exact ⟨cur, hg⟩
theorem FamG.kept (h : FamG t sz cell w base vs cs) (hk : Keeps S w w') (hn : ∀ g, S g → ∀ cur, w.heap[g]? ≠ some (.cells cur t (0, 0))) : FamG t sz cell w' base vs cs :=
  ⟨h.len, fun i h1 h2 => (h.own i h1 h2).kept hk (fun g hg hs => by obtain ⟨cur, hc⟩ := (h.own i h1 h2).typed hg; exact hn g hs cur hc), h.apart⟩
theorem FamG.below (h : FamG t sz cell w base vs cs) (hb : Below w.heap.size w w') : FamG t sz cell w' base vs cs :=
  ⟨h.len, fun i h1 h2 => (h.own i h1 h2).below hb, h.apart⟩
theorem FamG.nil (w : World) (base : Nat) : FamG t sz cell w base [] ([] : List (List α)) := ⟨rfl, fun _ h => absurd h (Nat.not_lt_zero _), fun _ _ h => absurd h (Nat.not_lt_zero _)⟩
/-- One more, in a block of its own. -/
theorem FamG.snoc (h : FamG t sz cell w base vs cs) (hv : OwnG t sz cell w base v l) (hf : ∀ i (hi : i < vs.length) g, vs[i].ownBlock = some g → v.ownBlock ≠ some g) : FamG t sz cell w base (vs ++ [v]) (cs ++ [l]) := by
  refine ⟨by rw [List.length_append, List.length_append, h.len]; rfl, ?_, ?_⟩
  · intro i h1 h2
    rw [List.getElem_append, List.getElem_append]
    have hl := h.len
    by_cases hi : i < vs.length
    · rw [dif_pos hi, dif_pos (by omega)]
      exact h.own i hi (by omega)
    · rw [dif_neg hi, dif_neg (by omega)]
      simpa using hv
  · intro i j hi hj g
    rw [List.getElem_append, List.getElem_append]
    rw [List.length_append, List.length_singleton] at hi hj
    by_cases h1 : i < vs.length
    · by_cases h2 : j < vs.length
      · rw [dif_pos h1, dif_pos h2]
        exact h.apart i j h1 h2 g
      · rw [dif_pos h1, dif_neg h2]
        intro e1 e2
        simp at e2
        exact absurd e2 (hf i h1 g e1)
    · by_cases h2 : j < vs.length
      · rw [dif_neg h1, dif_pos h2]
        intro e1 e2
        simp at e1
        exact absurd e1 (hf j h2 g e2)
      · intros
        omega
/-- One of them has turned, in its own block. -/
theorem FamG.turn {k : Nat} {l' : List α} (h : FamG t sz cell w base vs cs) (hk : k < vs.length) (hkeep : Keeps (fun g => vs[k].ownBlock = some g) w w') (ho : OwnG t sz cell w' base vs[k] l') : FamG t sz cell w' base vs (cs.set k l') := by
  refine ⟨by rw [List.length_set]; exact h.len, ?_, h.apart⟩
  intro i h1 h2
  by_cases hi : i = k
  · subst hi
    rw [List.getElem_set_self]
    exact ho
  · rw [List.getElem_set_ne (by omega)]
    exact (h.own i h1 (by rw [List.length_set] at h2; exact h2)).kept hkeep (fun g hg hs => hi (h.apart i k h1 hk g hg hs))
theorem FamG.mono {base' : Nat} (h : FamG t sz cell w base vs cs) (hb : base' ≤ base) : FamG t sz cell w base' vs cs := by
  refine ⟨h.len, fun i h1 h2 => ?_, h.apart⟩
  obtain ⟨hl, hh⟩ := h.own i h1 h2
  refine ⟨hl, ?_⟩
  rcases hh with hh | ⟨g, cap, cur, e1, e2, e3⟩
  · exact .inl hh
  · exact .inr ⟨g, cap, cur, e1, by omega, e3⟩
end

/-- A cell of such a row is set. -/
theorem own_put {w : World} {base : Nat} {e : TypeId} {size g n cap : Nat} {xs : List Value} (h : w.ownsRow base e size (.slice (some ⟨g, 0, none⟩) n cap) n xs) (j : Nat) (u : Value) :
    (w.setCell ⟨g, j, none⟩ u).ownsRow base e size (.slice (some ⟨g, 0, none⟩) n cap) n (xs.set j u) := by
  obtain ⟨hl, hh⟩ := h
  refine ⟨by rw [List.length_set]; exact hl, ?_⟩
  rcases hh with ⟨hv, _⟩ | ⟨g', cap', cur, hv, hb, hg, h1, h2, h3, h4⟩
  · cases hv
  · injection hv with e1 e2 e3
    injection e1 with e1
    injection e1 with e1
    subst e1 e3
    refine .inr ⟨g, cap, cur.setIfInBounds j u, rfl, hb, ?_, h1, h2, by rw [Array.size_setIfInBounds]; exact h3, ?_⟩
    · simp [World.setCell, Array.getElem?_modify, hg]
    · rw [Array.toList_setIfInBounds, List.take_set, h4]

/-- Blocks of element type t behind block b. -/
def UT (t : TypeId) (b : Nat) (w : World) (k : Nat) : Prop := b < k ∧ ∃ cs, w.heap[k]? = some (.cells cs t (0, 0))
theorem UT.back {t : TypeId} {b k : Nat} {w w1 : World} (h : Keeps (UT t b w) w w1) (hk : k < w.heap.size) (hu : UT t b w1 k) : UT t b w k := by
  by_cases hn : UT t b w k
  · exact hn
  · obtain ⟨h1, cs, hc⟩ := hu
    exact ⟨h1, cs, by rw [← h.block k hk hn]; exact hc⟩
theorem UT.trans {t : TypeId} {b : Nat} {w w1 w2 : World} (h : Keeps (UT t b w) w w1) (h' : Keeps (UT t b w1) w1 w2) : Keeps (UT t b w) w w2 :=
  Keeps.trans h h' (fun _ hk hu => UT.back h hk hu)
theorem UT.lies {t t' : TypeId} {b k : Nat} {w w1 : World} {cs : List Value} (h : Keeps (UT t b w) w w1) (hl : Lies w k t' cs) (ht : t' ≠ t) : Lies w1 k t' cs :=
  hl.kept h (fun ⟨_, cs', hc⟩ => by
    unfold Lies at hl
    rw [hl] at hc
    injection hc with hc
    injection hc with _ hc
    exact ht hc)
theorem UT.own {t t' : TypeId} {b base sz n : Nat} {v : Value} {xs : List Value} {w w1 : World} (h : Keeps (UT t b w) w w1) (hl : w.ownsRow base t' sz v n xs) (ht : t' ≠ t) : w1.ownsRow base t' sz v n xs :=
  own_keeps hl h (fun g hg ⟨_, cs', hc⟩ => by
    rcases hl.2 with ⟨rfl, _⟩ | ⟨g', cap, cur, rfl, _, hh, _⟩
    · simp [Value.ownBlock] at hg
    · have : g' = g := by simpa [Value.ownBlock] using hg
      subst this
      rw [hh] at hc
      injection hc with hc
      injection hc with _ hc
      exact ht hc)
theorem UT.fam {α : Type} {t t' : TypeId} {sz b base : Nat} {cell : α → List Value} {w w1 : World} {vs : List Value} {cs : List (List α)} (h : Keeps (UT t b w) w w1) (hl : FamG t' sz cell w base vs cs) (ht : t' ≠ t) : FamG t' sz cell w1 base vs cs :=
  hl.kept h (fun g ⟨_, cs', hc⟩ cur hcur => by
    rw [hcur] at hc
    injection hc with hc
    injection hc with _ hc
    exact ht hc)
theorem UT.below {t : TypeId} {b B : Nat} {w w1 : World} (h : Keeps (UT t b w) w w1) (hB : B ≤ w.heap.size) (hb : B ≤ b + 1) : Below B w w1 := Keeps.toBelow h hB (fun k hk hu => by have := hu.1; omega)
theorem UT.of_below {t : TypeId} {b : Nat} {w w1 : World} (h : Below w.heap.size w w1) : Keeps (UT t b w) w w1 := Keeps.below h (fun k hk hk' => absurd hk (by omega))

/-- A field of the book: a row of slices, no two of them in one block, all of them below block B. -/
def FieldG {α : Type} (t ts : TypeId) (sz : Nat) (cell : α → List Value) (w : World) (kb B : Nat) (fv : Value) (cs : List (List α)) : Prop :=
  ∃ vs, w.ownsRow (kb + 1) ts 1 fv vs.length vs ∧ FamG t sz cell w (kb + 1) vs cs ∧ ∀ i (h : i < vs.length) g, vs[i].ownBlock = some g → g < B
section
variable {α : Type} {t ts t' : TypeId} {sz : Nat} {cell : α → List Value} {w w' : World} {kb B B' : Nat} {fv : Value} {cs : List (List α)}
theorem FieldG.below (h : FieldG t ts sz cell w kb B fv cs) (hb : Below w.heap.size w w') : FieldG t ts sz cell w' kb B fv cs := by
  obtain ⟨vs, h1, h2, h3⟩ := h
  exact ⟨vs, own_keeps (S := fun _ => False) h1 (Keeps.below hb (fun j hj hj' => absurd hj (by omega))) (fun _ _ => id), h2.below hb, h3⟩
theorem FieldG.ut (h : FieldG t ts sz cell w kb B fv cs) (hk : Keeps (UT t' kb w) w w') (h1 : t ≠ t') (h2 : ts ≠ t') : FieldG t ts sz cell w' kb B fv cs := by
  obtain ⟨vs, e1, e2, e3⟩ := h
  exact ⟨vs, UT.own hk e1 h2, UT.fam hk e2 h1, e3⟩
theorem FieldG.mono (h : FieldG t ts sz cell w kb B fv cs) (hB : B ≤ B') : FieldG t ts sz cell w kb B' fv cs := by
  obtain ⟨vs, e1, e2, e3⟩ := h
  exact ⟨vs, e1, e2, fun i hi g hg => Nat.lt_of_lt_of_le (e3 i hi g hg) hB⟩
theorem FieldG.nil (w : World) (kb B : Nat) : FieldG t ts sz cell w kb B (.slice none 0 0) ([] : List (List α)) :=
  ⟨[], ⟨rfl, .inl ⟨rfl, rfl⟩⟩, FamG.nil _ _, fun _ h => absurd h (Nat.not_lt_zero _)⟩
/-- What a row of slices holds, told by slices. -/
theorem slice_one {vs : List Value} (h : ∀ u ∈ vs, ∃ x n c, u = Value.slice x n c) : ∀ u ∈ vs, u.oneCell' = true := by
  intro u hu
  obtain ⟨x, n, c, rfl⟩ := h u hu
  rfl
end

/-- A slice v0 that read as A has been appended to, again and again: v reads as L now, which begins with A; v0 reads as A still. -/
structure GrowAt {α : Type} (t : TypeId) (sz : Nat) (cell : α → List Value) (w1 w : World) (base : Nat) (v0 v : Value) (A L : List α) : Prop where
  own : OwnG t sz cell w base v L
  read : ∃ x c, v0 = .slice x A.length c ∧ RowAt w x (A.flatMap cell)
  pre : ∃ M, L = A ++ M
  place : v.ownBlock = v0.ownBlock ∨ ∀ g, v.ownBlock = some g → w1.heap.size ≤ g
  keep : Keeps (fun g => v0.ownBlock = some g) w1 w
  form : (v0 = .slice none 0 0 ∧ A = []) ∨ ∃ g c, v0 = .slice (some ⟨g, 0, none⟩) A.length c ∧ g < w1.heap.size
section
variable {α : Type} {t : TypeId} {sz : Nat} {cell : α → List Value} {w1 w w' : World} {base : Nat} {v0 v : Value} {A L : List α}
theorem GrowAt.start (h : OwnG t sz cell w base v A) : GrowAt t sz cell w w base v v A A := by
  obtain ⟨x, c, hv, hr, _⟩ := own_slice h
  refine ⟨h, ⟨x, c, hv, hr⟩, ⟨[], by simp⟩, .inl rfl, Keeps.rfl' _ _, ?_⟩
  rcases h.2 with ⟨h1, h2⟩ | ⟨g, cap, cur, h1, _, hg, _⟩
  · exact .inl ⟨h1, List.eq_nil_of_length_eq_zero h2⟩
  · refine .inr ⟨g, cap, h1, ?_⟩
    rcases Nat.lt_or_ge g w.heap.size with hlt | hge
    · exact hlt
    · rw [Array.getElem?_eq_none hge] at hg; cases hg
theorem GrowAt.below (h : GrowAt t sz cell w1 w base v0 v A L) (hb : Below w.heap.size w w') : GrowAt t sz cell w1 w' base v0 v A L := by
  obtain ⟨x, c, hv, hr⟩ := h.read
  exact ⟨h.own.below hb, ⟨x, c, hv, hr.below hb⟩, h.pre, h.place, h.keep.trans (Keeps.below (S := fun g => v0.ownBlock = some g) hb (fun k hk hk' => absurd hk (by omega))) (fun _ _ h => h), h.form⟩
theorem GrowAt.step {x' : Option Addr} {n' cap : Nat} {M : List α} (h : GrowAt t sz cell w1 w base v0 v A L) (ho : w'.ownsRow base t sz (.slice x' n' cap) n' (L.flatMap cell ++ M.flatMap cell)) (hn : n' = (L ++ M).length)
    (hg : w.grownBy w' v.ownBlock) (hor : (Value.slice x' n' cap).ownBlock = v.ownBlock ∨ ((Value.slice x' n' cap).ownBlock = some w.heap.size ∧ w.grownBy w' none)) : GrowAt t sz cell w1 w' base v0 (.slice x' n' cap) A (L ++ M) := by
  subst hn
  obtain ⟨x, c, hv, hr⟩ := h.read
  obtain ⟨P, hP⟩ := h.pre
  have hsz := h.keep.size
  have ho' : OwnG t sz cell w' base (.slice x' (L ++ M).length cap) (L ++ M) := by unfold OwnG; rw [List.flatMap_append]; exact ho
  have same : ∀ {row : Option Nat}, w.grownBy w' row → (∀ a, x = some a → row ≠ some a.block) → RowAt w' x (A.flatMap cell) := by
    intro row hgr hne j u hj
    obtain ⟨b, off, hx, h0⟩ := hr j u hj
    have hlt := World.block_lt_of_cell? w _ h0
    exact ⟨b, off, hx, (World.cell?_of_block (hgr.block b hlt (fun e => hne _ hx e.symm))).trans h0⟩
  refine ⟨ho', ⟨x, c, hv, ?_⟩, ⟨P ++ M, by rw [hP, List.append_assoc]⟩, ?_, ?_, h.form⟩
  · rcases hor with hs | ⟨_, hnone⟩
    · rcases h.place with hp | hp
      · rcases h.form with ⟨h1, h2⟩ | ⟨g, c0, h1, h2⟩
        · subst h2; exact RowAt.nil _ _
        · rw [hp, h1] at hs
          rw [h1] at hv
          injection hv with hx _ _
          subst hx
          have hx' : x' = some ⟨g, 0, none⟩ := by
            rcases ho.2 with ⟨e, _⟩ | ⟨g', cap', cur, e, _⟩
            · rw [e] at hs; simp [Value.ownBlock] at hs
            · rw [e] at hs
              injection e with e1 _ _
              rw [e1]
              have : g' = g := by simpa [Value.ownBlock] using hs
              rw [this]
          obtain ⟨x2, c2, e2, hrow, _⟩ := own_slice ho
          injection e2 with e2 _ _
          subst e2
          rw [hx'] at hrow
          intro j u hj
          refine hrow j u ?_
          rw [hP, List.flatMap_append, List.append_assoc, List.getElem?_append_left]
          · exact hj
          · rcases Nat.lt_or_ge j (A.flatMap cell).length with h3 | h3
            · exact h3
            · rw [List.getElem?_eq_none h3] at hj; cases hj
      · refine same hg (fun a hx e => ?_)
        have := hp _ e
        rcases h.form with ⟨h1, h2⟩ | ⟨g, c0, h1, h2⟩
        · rw [h1] at hv; injection hv with hx2 _ _; rw [hx] at hx2; cases hx2
        · rw [h1] at hv; injection hv with hx2 _ _; rw [hx] at hx2; injection hx2 with hx2; subst hx2; simp only at this; omega
    · exact same hnone (fun _ _ e => by cases e)
  · rcases hor with hs | ⟨hs, _⟩
    · rcases h.place with hp | hp
      · exact .inl (hs.trans hp)
      · exact .inr (fun g hg => hp g (by rw [← hs]; exact hg))
    · right
      intro g hg
      rw [hs] at hg
      injection hg with hg
      omega
  · refine h.keep.grown hg (fun k hk e => ?_)
    rcases h.place with hp | hp
    · rw [hp] at e; exact e
    · have := hp k e; omega
end

theorem types_ne {w : World} {t t' : TypeId} {g : Nat} {c c' : Array Value} (h : w.heap[g]? = some (.cells c t (0, 0))) (h' : w.heap[g]? = some (.cells c' t' (0, 0))) (hne : t ≠ t') : False := by
  rw [h] at h'
  injection h' with h'
  injection h' with _ h'
  exact hne h'
theorem own_typed {w : World} {base : Nat} {e : TypeId} {size n : Nat} {v : Value} {xs : List Value} (h : w.ownsRow base e size v n xs) {g : Nat} (hv : v.ownBlock = some g) : ∃ cur, w.heap[g]? = some (.cells cur e (0, 0)) := by
  rcases h.2 with ⟨rfl, _⟩ | ⟨g', cap, cur, rfl, _, hg, _⟩
  · simp [Value.ownBlock] at hv
  · have : g' = g := by simpa [Value.ownBlock] using hv
    subst this
    exact ⟨cur, hg⟩

end Go.Proofs.YtjonmggkmalgaaaGreatDoor

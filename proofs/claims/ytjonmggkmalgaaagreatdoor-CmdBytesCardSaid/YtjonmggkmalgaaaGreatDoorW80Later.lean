/-
  The rounds of CmdBytes: what stays while the book keeps lists; the book's two kinds together.
-/
import Derived.Test.YtjonmggkmalgaaaGreatDoorW24Alive
import Derived.Test.YtjonmggkmalgaaaGreatDoorW63RefEntry
import Derived.Test.YtjonmggkmalgaaaGreatDoorW65ReadReps
import Derived.Test.YtjonmggkmalgaaaGreatDoorW77Lent2
namespace Go.Proofs.YtjonmggkmalgaaaGreatDoor
open Go.RowKit Go.Lib

/-- What may turn while the book at kb keeps lists: itself, its rows of slices. -/
def LS (kb : Nat) (w : World) (k : Nat) : Prop := k = kb ∨ UT 22 kb w k ∨ UT 39 kb w k
def Later (kb : Nat) (w w' : World) : Prop := Keeps (LS kb w) w w'
theorem Later.of_below {kb : Nat} {w w' : World} (h : Below w.heap.size w w') : Later kb w w' := Keeps.below h (fun k hk hk' => absurd hk (by omega))
theorem Later.refl (kb : Nat) (w : World) : Later kb w w := Keeps.rfl' _ _
theorem Later.trans {kb : Nat} {w w1 w2 : World} (h : Later kb w w1) (h' : Later kb w1 w2) : Later kb w w2 :=
  Keeps.trans h h' (fun k hk hu => by
    by_cases hn : LS kb w k
    · exact hn
    · have e := h.block k hk hn
      rcases hu with hu | ⟨h1, cs, hc⟩ | ⟨h1, cs, hc⟩
      · exact .inl hu
      · exact .inr (.inl ⟨h1, cs, by rw [← e]; exact hc⟩)
      · exact .inr (.inr ⟨h1, cs, by rw [← e]; exact hc⟩))
theorem Later.of_cmds {kb : Nat} {w w' : World} (h : Keeps (KSCmds kb w) w w') : Later kb w w' := h.more (fun _ _ hk => hk.imp id .inl)
theorem Later.of_reps {kb : Nat} {w w' : World} (h : Keeps (KSReplies kb w) w w') : Later kb w w' := h.more (fun _ _ hk => hk.imp id .inr)
theorem LS.typed {kb : Nat} {w : World} {b : Nat} {t : TypeId} {cur : Array Value} (h : LS kb w b) (hb : b ≠ kb) (hc : w.heap[b]? = some (.cells cur t (0, 0))) : t = 22 ∨ t = 39 := by
  rcases h with h | ⟨_, cs, h⟩ | ⟨_, cs, h⟩
  · exact absurd h hb
  · rw [hc] at h
    injection h with h
    injection h with _ h
    exact .inl h
  · rw [hc] at h
    injection h with h
    injection h with _ h
    exact .inr h
theorem Lies.later {kb b : Nat} {t : TypeId} {cs : List Value} {w w' : World} (hl : Lies w b t cs) (h : Later kb w w') (hb : b ≠ kb) (h1 : t ≠ 22) (h2 : t ≠ 39) : Lies w' b t cs :=
  hl.kept h (fun hs => by
    rcases hs.typed hb hl with e | e
    · exact h1 e
    · exact h2 e)
theorem OwnG.later {α : Type} {t : TypeId} {sz base kb : Nat} {cell : α → List Value} {v : Value} {l : List α} {w w' : World} (ho : OwnG t sz cell w base v l) (h : Later kb w w') (hb : kb + 1 ≤ base) (h1 : t ≠ 22) (h2 : t ≠ 39) : OwnG t sz cell w' base v l :=
  ho.kept h (fun g hg hs => by
    obtain ⟨cur, hc⟩ := ho.typed hg
    have := (ho.lt hg).1
    rcases hs.typed (by omega) hc with e | e
    · exact h1 e
    · exact h2 e)
theorem Later.low {kb B : Nat} {w w' : World} (h : Later kb w w') (hB : B ≤ kb) (hk : kb < w.heap.size) : Below B w w' :=
  Keeps.toBelow h (by omega) (fun j hj hs => by
    rcases hs with hs | ⟨hs, _⟩ | ⟨hs, _⟩ <;> omega)

section
variable {α : Type} {t ts t' : TypeId} {sz : Nat} {cell : α → List Value} {w w' : World} {kb B : Nat} {fv : Value} {cs : List (List α)}
theorem FieldG.ks (h : FieldG t ts sz cell w kb B fv cs) (hk : Keeps (fun k => k = kb ∨ UT t' kb w k) w w') (h1 : t ≠ t') (h2 : ts ≠ t') : FieldG t ts sz cell w' kb B fv cs := by
  obtain ⟨vs, e1, e2, e3⟩ := h
  have ty : ∀ {b : Nat} {u : TypeId} {cur : Array Value}, (b = kb ∨ UT t' kb w b) → b ≠ kb → w.heap[b]? = some (.cells cur u (0, 0)) → u = t' := by
    intro b u cur hs hb hc
    rcases hs with hs | ⟨_, cs, hs⟩
    · exact absurd hs hb
    · rw [hc] at hs
      injection hs with hs
      injection hs with _ hs
  refine ⟨vs, own_keeps e1 hk (fun g hg hs => ?_), ⟨e2.len, fun i hi hi' => (e2.own i hi hi').kept hk (fun g hg hs => ?_), e2.apart⟩, e3⟩
  · obtain ⟨cur, hc⟩ := own_typed e1 hg
    have := (own_lt e1 hg).1
    exact h2 (ty hs (by omega) hc)
  · obtain ⟨cur, hc⟩ := (e2.own i hi hi').typed hg
    have := ((e2.own i hi hi').lt hg).1
    exact h1 (ty hs (by omega) hc)
end

/-- The book while it keeps: commands below block BC, replies below block BR. -/
structure BookS (w : World) (kb BR BC : Nat) (f10 f11 f12 f13 : Value) (rs : List (List RepS)) (cs : List (List CmdS)) : Prop where
  lies : Lies w kb 54 [.slice none 0 0, .slice none 0 0, .slice none 0 0, .slice none 0 0, .slice none 0 0, .slice none 0 0, .slice none 0 0, .slice none 0 0, .slice none 0 0, .slice none 0 0, f10, f11, f12, f13, .slice none 0 0, .slice none 0 0, .slice none 0 0, .slice none 0 0]
  r : FieldG 42 39 2 RepS.cells w kb BR f10 rs
  rw' : FieldG 42 39 2 RepS.cells w kb w.heap.size f11 rs
  c : FieldG 68 22 5 CmdS.cells w kb BC f12 cs
  cw : FieldG 68 22 5 CmdS.cells w kb w.heap.size f13 cs
  dr : ∀ g, f10.ownBlock = some g → f11.ownBlock ≠ some g
  dc : ∀ g, f12.ownBlock = some g → f13.ownBlock ≠ some g
theorem BookS.below {w w' : World} {kb BR BC : Nat} {f10 f11 f12 f13 : Value} {rs : List (List RepS)} {cs : List (List CmdS)} (h : BookS w kb BR BC f10 f11 f12 f13 rs cs) (hb : Below w.heap.size w w') : BookS w' kb BR BC f10 f11 f12 f13 rs cs :=
  ⟨h.lies.below hb h.lies.lt, h.r.below hb, (h.rw'.below hb).mono hb.size, h.c.below hb, (h.cw.below hb).mono hb.size, h.dr, h.dc⟩
theorem BookS.mono {w : World} {kb BR BC BR' BC' : Nat} {f10 f11 f12 f13 : Value} {rs : List (List RepS)} {cs : List (List CmdS)} (h : BookS w kb BR BC f10 f11 f12 f13 rs cs) (h1 : BR ≤ BR') (h2 : BC ≤ BC') : BookS w kb BR' BC' f10 f11 f12 f13 rs cs :=
  ⟨h.lies, h.r.mono h1, h.rw', h.c.mono h2, h.cw, h.dr, h.dc⟩
theorem BookS.at_ {w : World} {kb BR BC : Nat} {f10 f11 f12 f13 : Value} {rs : List (List RepS)} {cs : List (List CmdS)} (h : BookS w kb BR BC f10 f11 f12 f13 rs cs) : BookAt w kb BR w.heap.size BC w.heap.size f10 f11 f12 f13 rs cs := ⟨h.lies, h.r, h.rw', h.c, h.cw⟩
def KeptC (w : World) (kb BR B1 : Nat) (f10 f11 : Value) (rs : List (List RepS)) (cs : List (List CmdS)) (e : Ending) (w' : World) : Prop :=
  e = .returned (.tuple #[]) ∧ ∃ f12 f13, BookS w' kb BR B1 f10 f11 f12 f13 rs cs ∧ Later kb w w'
def KeptR (w : World) (kb B1 BC : Nat) (f12 f13 : Value) (rs : List (List RepS)) (cs : List (List CmdS)) (e : Ending) (w' : World) : Prop :=
  e = .returned (.tuple #[]) ∧ ∃ f10 f11, BookS w' kb B1 BC f10 f11 f12 f13 rs cs ∧ Later kb w w'

theorem keepC {w : World} {kb BR BC B1 : Nat} {f10 f11 f12 f13 : Value} {rs : List (List RepS)} {cs : List (List CmdS)} {x : Option Addr} {cap : Nat} {l : List CmdS} (h : BookS w kb BR BC f10 f11 f12 f13 rs cs) (hv : OwnCmds w BC (.slice x l.length cap) l) (hkB : kb + 1 ≤ BC) (hB : ∀ g, (Value.slice x l.length cap).ownBlock = some g → g < B1) (hBB : BC ≤ B1) (hn : cs.length < 250) (hl : l.length ≤ 100000) :
    Calls Tryz.prog 24 #[.pointer (some ⟨kb, 0, none⟩), .slice x l.length cap] w (KeptC w kb BR B1 f10 f11 rs (cs ++ [l])) := by
  refine (kept_Cmds kb BC B1 _ _ _ _ _ _ _ _ _ _ _ _ _ _ _ _ _ _ x cap l cs w h.lies h.c h.cw h.dc hv hkB hB hBB hn hl).mono ?_
  rintro e w' ⟨fv, wv, rfl, hL, h1, h2, h3, hk⟩
  exact ⟨rfl, fv, wv, ⟨hL, h.r.ks hk (by decide) (by decide), (h.rw'.ks hk (by decide) (by decide)).mono hk.size, h1, h2, h.dr, h3⟩, Later.of_cmds hk⟩
theorem keepR {w : World} {kb BR BC B1 : Nat} {f10 f11 f12 f13 : Value} {rs : List (List RepS)} {cs : List (List CmdS)} {x : Option Addr} {cap : Nat} {l : List RepS} (h : BookS w kb BR BC f10 f11 f12 f13 rs cs) (hv : OwnReplies w BR (.slice x l.length cap) l) (hkB : kb + 1 ≤ BR) (hB : ∀ g, (Value.slice x l.length cap).ownBlock = some g → g < B1) (hBB : BR ≤ B1) (hn : rs.length < 250) (hl : l.length ≤ 100000) :
    Calls Tryz.prog 25 #[.pointer (some ⟨kb, 0, none⟩), .slice x l.length cap] w (KeptR w kb B1 BC f12 f13 (rs ++ [l]) cs) := by
  refine (kept_Replies kb BR B1 _ _ _ _ _ _ _ _ _ _ _ _ _ _ _ _ _ _ x cap l rs w h.lies h.r h.rw' h.dr hv hkB hB hBB hn hl).mono ?_
  rintro e w' ⟨fv, wv, rfl, hL, h1, h2, h3, hk⟩
  exact ⟨rfl, fv, wv, ⟨hL, h1, h2, h.c.ks hk (by decide) (by decide), (h.cw.ks hk (by decide) (by decide)).mono hk.size, h3, h.dc⟩, Later.of_reps hk⟩
theorem BookS.none {w : World} {kb : Nat} (h : Lies w kb 54 [.slice none 0 0, .slice none 0 0, .slice none 0 0, .slice none 0 0, .slice none 0 0, .slice none 0 0, .slice none 0 0, .slice none 0 0, .slice none 0 0, .slice none 0 0, .slice none 0 0, .slice none 0 0, .slice none 0 0, .slice none 0 0, .slice none 0 0, .slice none 0 0, .slice none 0 0, .slice none 0 0]) (B : Nat) : BookS w kb B B (.slice none 0 0) (.slice none 0 0) (.slice none 0 0) (.slice none 0 0) [] [] :=
  ⟨h, FieldG.nil _ _ _, FieldG.nil _ _ _, FieldG.nil _ _ _, FieldG.nil _ _ _, fun g e => by simp [Value.ownBlock] at e, fun g e => by simp [Value.ownBlock] at e⟩

theorem small1 (s : GetS) : (smallG 1 s).1.toNat ≤ 255 := by
  have h1 := leVal_lt (rawG (1 : Nat) s).1
  have h2 := (rawG_length 1 s).1
  have h3 : (256 : Nat) ^ (rawG (1 : Nat) s).1.length ≤ 256 ^ 1 := Nat.pow_le_pow_right (by decide) h2
  show (((leVal (rawG (1 : Nat) s).1 : Nat) : Int)).toNat ≤ 255
  omega
theorem cmdsG_count (n : Nat) (s : GetS) : (cmdsG n s).1.length = n := by
  induction n with
  | zero => rfl
  | succ n ih => show ((cmdsG n s).1 ++ [_]).length = _; rw [List.length_append, ih]; rfl
theorem repsG_count (n : Nat) (s : GetS) : (repsG n s).1.length = n := by
  induction n with
  | zero => rfl
  | succ n ih => show ((repsG n s).1 ++ [_]).length = _; rw [List.length_append, ih]; rfl
theorem readR_few (b : List UInt8) : (readR b).1.cmds.length ≤ 255 := by
  unfold readR
  simp only
  split
  · exact Nat.zero_le _
  · split
    · exact Nat.zero_le _
    · show (cmdsG _ _).1.length ≤ 255
      rw [cmdsG_count]
      exact small1 _
theorem readE_few (b : List UInt8) : (readE b).1.req.cmds.length ≤ 255 := by
  unfold readE
  simp only
  split
  · exact Nat.zero_le _
  · split
    · exact Nat.zero_le _
    · split
      · exact Nat.zero_le _
      · exact readR_few _
theorem readP_few (b : List UInt8) : (readP b).1.length ≤ 255 := by
  unfold readP
  simp only
  split
  · exact Nat.zero_le _
  · rw [repsG_count]
    exact small1 _


/-- What stays: the request in its box, the commands and the replies that were handed in, the globals. -/
structure Stay (w W : World) (c q : Int) (x : Option Addr) (l : List CmdS) (k : Nat) (y : Option Addr) (rs : List RepS) : Prop where
  o : Glob w ∧ CmdsAt w x l ∧ RepsAt w y rs
  hb : Below w.heap.size w W
  r : Lies W w.heap.size 24 [.int .i64 c, .int .i64 q, .slice x l.length k]
  x : CmdsAt W x l
  y : RepsAt W y rs
  g : Glob W
theorem Stay.below {w W W' : World} {c q : Int} {x : Option Addr} {l : List CmdS} {k : Nat} {y : Option Addr} {rs : List RepS} (h : Stay w W c q x l k y rs) (hb : Below W.heap.size W W') : Stay w W' c q x l k y rs :=
  ⟨h.o, h.hb.trans (hb.mono h.hb.size), h.r.below hb h.r.lt, h.x.below hb, h.y.below hb, h.g.below hb⟩
theorem Stay.made (w : World) (c q : Int) (x : Option Addr) (l : List CmdS) (k : Nat) (y : Option Addr) (rs : List RepS) (hg : Glob w) (hx : CmdsAt w x l) (hy : RepsAt w y rs) : Stay w (w.alloc (.cells #[.int .i64 c, .int .i64 q, .slice x l.length k] 24)) c q x l k y rs := by
  have ha := box_made w 24 [.int .i64 c, .int .i64 q, .slice x l.length k]
  exact ⟨⟨hg, hx, hy⟩, ha, Lies.made w 24 [.int .i64 c, .int .i64 q, .slice x l.length k], hx.below ha, hy.below ha, hg.below ha⟩
theorem RowAt.of_lies {w : World} {g : Nat} {t : TypeId} {cs : List Value} (h : Lies w g t cs) : RowAt w (some ⟨g, 0, none⟩) cs := by
  intro j u hj
  refine ⟨g, 0, rfl, ?_⟩
  rw [Nat.zero_add, h.cell j]
  exact hj

theorem three_made (wr : World) (t1 t2 t3 : TypeId) (A B C : List Value) :
    Lies (((wr.alloc (.cells A.toArray t1)).alloc (.cells B.toArray t2)).alloc (.cells C.toArray t3)) wr.heap.size t1 A ∧
    Lies (((wr.alloc (.cells A.toArray t1)).alloc (.cells B.toArray t2)).alloc (.cells C.toArray t3)) (wr.heap.size + 1) t2 B ∧
    Lies (((wr.alloc (.cells A.toArray t1)).alloc (.cells B.toArray t2)).alloc (.cells C.toArray t3)) (wr.heap.size + 1 + 1) t3 C ∧
    Below wr.heap.size wr (((wr.alloc (.cells A.toArray t1)).alloc (.cells B.toArray t2)).alloc (.cells C.toArray t3)) := by
  have h1 : (wr.alloc (.cells A.toArray t1)).heap.size = wr.heap.size + 1 := by simp
  have h2 : ((wr.alloc (.cells A.toArray t1)).alloc (.cells B.toArray t2)).heap.size = wr.heap.size + 1 + 1 := by simp
  refine ⟨((Lies.made wr t1 A).alloc _).alloc _, ?_, ?_, (((Below.refl _ _).alloc (Nat.le_refl _) _).alloc (by omega) _).alloc (by omega) _⟩
  · have := (Lies.made (wr.alloc (.cells A.toArray t1)) t2 B).alloc (.cells C.toArray t3)
    rw [h1] at this
    exact this
  · have := Lies.made ((wr.alloc (.cells A.toArray t1)).alloc (.cells B.toArray t2)) t3 C
    rw [h2] at this
    exact this

def nils : List Value := [.slice none 0 0, .slice none 0 0, .slice none 0 0, .slice none 0 0, .slice none 0 0, .slice none 0 0, .slice none 0 0, .slice none 0 0, .slice none 0 0, .slice none 0 0, .slice none 0 0, .slice none 0 0, .slice none 0 0, .slice none 0 0, .slice none 0 0, .slice none 0 0, .slice none 0 0, .slice none 0 0]
/-- What the first half holds: what stays, the entry and the book in their boxes, the lent list. -/
structure Half (w W : World) (i t c q : Int) (x : Option Addr) (l : List CmdS) (k : Nat) (y : Option Addr) (rs : List RepS) (n0 h : Nat) (xs : Option Addr) (cc : Nat) : Prop where
  st : Stay w W c q x l k y rs
  e : Lies W n0 31 (entCells i t c q (.slice x l.length k))
  kb : Lies W (n0 + 1) 54 nils
  m : RowAt W (some ⟨h, 0, none⟩) (entCells i t c q (.slice xs l.length cc) ++ entCells (-77) 0 0 0 (.slice none 0 0))
  xs : CmdsAt W xs l
theorem Half.below {w W W' : World} {i t c q : Int} {x : Option Addr} {l : List CmdS} {k : Nat} {y : Option Addr} {rs : List RepS} {n0 h : Nat} {xs : Option Addr} {cc : Nat} (H : Half w W i t c q x l k y rs n0 h xs cc) (hb : Below W.heap.size W W') : Half w W' i t c q x l k y rs n0 h xs cc :=
  ⟨H.st.below hb, H.e.below hb H.e.lt, H.kb.below hb H.kb.lt, H.m.below hb, H.xs.below hb⟩

theorem Stay.later {w W W' : World} {c q : Int} {x : Option Addr} {l : List CmdS} {k : Nat} {y : Option Addr} {rs : List RepS} {kb : Nat} (h : Stay w W c q x l k y rs) (hL : Later kb W W') (h1 : w.heap.size < kb) (h2 : kb < W.heap.size) : Stay w W' c q x l k y rs := by
  have hb : Below w.heap.size w W' := h.hb.trans (hL.low (by omega) h2)
  exact ⟨h.o, hb, h.r.later hL (by omega) (by decide) (by decide), h.o.2.1.below hb, h.o.2.2.below hb, h.o.1.below hb⟩

/-- Commands that were read, in a box, in a row of their own. -/
structure ValC (kb : Nat) (W : World) (b B : Nat) (t : TypeId) (cells : List Value) (v : Value) (l : List CmdS) : Prop where
  box : Lies W b t cells
  own : OwnCmds W B v l
  hb : kb < b
  hB : kb + 1 ≤ B
  h1 : t ≠ 22
  h2 : t ≠ 39
theorem ValC.below {kb : Nat} {W W' : World} {b B : Nat} {t : TypeId} {cells : List Value} {v : Value} {l : List CmdS} (h : ValC kb W b B t cells v l) (hb : Below W.heap.size W W') : ValC kb W' b B t cells v l :=
  ⟨h.box.below hb h.box.lt, h.own.below hb, h.hb, h.hB, h.h1, h.h2⟩
theorem ValC.later {kb : Nat} {W W' : World} {b B : Nat} {t : TypeId} {cells : List Value} {v : Value} {l : List CmdS} (h : ValC kb W b B t cells v l) (hL : Later kb W W') : ValC kb W' b B t cells v l :=
  ⟨h.box.later hL (by have := h.hb; omega) h.h1 h.h2, h.own.later hL h.hB (by decide) (by decide), h.hb, h.hB, h.h1, h.h2⟩
theorem ValC.at_ {kb : Nat} {W : World} {b B : Nat} {t : TypeId} {cells : List Value} {x : Option Addr} {n cap : Nat} {l : List CmdS} (h : ValC kb W b B t cells (.slice x n cap) l) : CmdsAt W x l := by
  obtain ⟨_, _, e, ha, _⟩ := OwnCmds.at_ h.own
  injection e with e _ _
  subst e
  exact ha
structure ValR (kb : Nat) (W : World) (B : Nat) (v : Value) (l : List RepS) : Prop where
  own : OwnReplies W B v l
  hB : kb + 1 ≤ B
theorem ValR.below {kb : Nat} {W W' : World} {B : Nat} {v : Value} {l : List RepS} (h : ValR kb W B v l) (hb : Below W.heap.size W W') : ValR kb W' B v l := ⟨h.own.below hb, h.hB⟩
theorem ValR.later {kb : Nat} {W W' : World} {B : Nat} {v : Value} {l : List RepS} (h : ValR kb W B v l) (hL : Later kb W W') : ValR kb W' B v l := ⟨h.own.later hL h.hB (by decide) (by decide), h.hB⟩
theorem ValR.at_ {kb : Nat} {W : World} {B : Nat} {x : Option Addr} {n cap : Nat} {l : List RepS} (h : ValR kb W B (.slice x n cap) l) : RepsAt W x l := by
  obtain ⟨_, _, e, ha, _⟩ := OwnReplies.at_ h.own
  injection e with e _ _
  subst e
  exact ha

theorem strS_bytes (b : ByteArray) : strS b.data.toList = b := by apply bytes_ext; simp
theorem reads_req (b : ByteArray) (h : b.size ≤ 1000000) : ∃ (rc rq : Int) (rl : List CmdS) (ea : Int), (∀ W, Calls Tryz.prog 11 #[.string b] W (ReadPost W ⟨rc, rq, rl⟩ ea)) ∧ (∀ W, Calls Tryz.prog 20 #[.string b] W (ReadPost W ⟨rc, rq, rl⟩ ea)) ∧ rl.length ≤ 255 := by
  have hl : b.data.toList.length ≤ 1000000 := by rw [Array.length_toList]; exact h
  refine ⟨(readR b.data.toList).1.client, (readR b.data.toList).1.seq, (readR b.data.toList).1.cmds, (readR b.data.toList).2, fun W => ?_, fun W => ?_, readR_few _⟩
  · have := read_any b.data.toList W hl
    rw [strS_bytes] at this
    exact this
  · have := read_ref b.data.toList W hl
    rw [strS_bytes] at this
    exact this
theorem reads_ent (b : ByteArray) (h : b.size ≤ 1000000) : ∃ (ei et ec eq : Int) (el : List CmdS) (ee : Int), (∀ W, Calls Tryz.prog 9 #[.string b] W (ReadEPost W ⟨ei, et, ec, eq, el⟩ ee)) ∧ (∀ W, Calls Tryz.prog 21 #[.string b] W (ReadEPost W ⟨ei, et, ec, eq, el⟩ ee)) ∧ el.length ≤ 255 := by
  have hl : b.data.toList.length ≤ 1000000 := by rw [Array.length_toList]; exact h
  refine ⟨(readE b.data.toList).1.index, (readE b.data.toList).1.term, (readE b.data.toList).1.req.client, (readE b.data.toList).1.req.seq, (readE b.data.toList).1.req.cmds, (readE b.data.toList).2, fun W => ?_, fun W => ?_, readE_few _⟩
  · have := readentry_any b.data.toList W hl
    rw [strS_bytes] at this
    exact this
  · have := readentry_ref b.data.toList W hl
    rw [strS_bytes] at this
    exact this
theorem reads_reps (b : ByteArray) (h : b.size ≤ 1000000) : ∃ (pl : List RepS) (pe : Int), (∀ W, Calls Tryz.prog 22 #[.string b] W (ReadPPost W pl pe)) ∧ (∀ W, Calls Tryz.prog 23 #[.string b] W (ReadPPost W pl pe)) ∧ pl.length ≤ 255 := by
  have hl : b.data.toList.length ≤ 1000000 := by rw [Array.length_toList]; exact h
  refine ⟨(readP b.data.toList).1, (readP b.data.toList).2, fun W => ?_, fun W => ?_, readP_few _⟩
  · have := readreps_any b.data.toList W hl
    rw [strS_bytes] at this
    exact this
  · have := readreps_ref b.data.toList W hl
    rw [strS_bytes] at this
    exact this
end Go.Proofs.YtjonmggkmalgaaaGreatDoor

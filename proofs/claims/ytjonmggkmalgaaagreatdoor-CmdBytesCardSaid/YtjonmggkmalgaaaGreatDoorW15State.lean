/-
  cmd.State: what Do comes to at Make, Drop, Next.
-/
import Derived.Test.YtjonmggkmalgaaaGreatDoorW14State
namespace Go.Proofs.YtjonmggkmalgaaaGreatDoor
open Go.RowKit Go.Maps Go.WideMaps Go.WideElems

theorem lies_ne_map {w : World} {b m n : Nat} {t : TypeId} {cs : List Value} {R : Value → Option (Dat × List MemPlace)} {D : Dat} (h : Lies w b t cs) (h' : w.ownsMap Tryz.prog 9 R m n D) : b ≠ m := by
  rintro rfl
  obtain ⟨es, clock, hh, _⟩ := h'
  unfold Lies at h
  rw [hh] at h; cases h

/-- The state's own block. -/
abbrev StAt (w : World) (st r : Nat) : Prop := Lies w st 125 [.pointer (some ⟨r, 0, none⟩)]

theorem st_ne_box {w : World} {st r b bv bi n : Nat} {q : Int} {V I : Dat} (hS : StAt w st r) (hB : BoxAt w b bv bi q n V I) : st ≠ b ∧ st ≠ bv ∧ st ≠ bi :=
  ⟨hS.ne_of_type hB.lies (by decide), lies_ne_map hS hB.vals, lies_ne_map hS hB.ins⟩

theorem keep_but {w W w' : World} {st x : Nat} (hk : Keeps (fun k => k = x) W w') (h1 : st ≠ x) (h2 : x < w.heap.size) : ∀ B t cs, (B = st ∨ w.heap.size ≤ B) → Lies W B t cs → Lies w' B t cs := by
  intro B t cs hB hl
  exact hl.kept hk (by rcases hB with rfl | hB <;> omega)
theorem keep_all {W w' : World} (hb : Below W.heap.size W w') (P : Nat → Prop) : ∀ B t cs, P B → Lies W B t cs → Lies w' B t cs := fun _ _ _ _ hl => hl.below hb hl.lt

section
variable (st r rv ri n : Nat) (q : Int) (V I : Dat) (s : ByteArray) (w : World)

theorem st_make (hk : keyOk s = true) (hs : s.size ≤ 1000000) (hp : Plainname s) (hB : BoxAt w r rv ri q n V I) (hn : n ≤ 1000000) (hI : Maps.has I (keyL s) = false) (hV : Maps.has V (keyL s) = false) (hm : HasMax w) (hS : StAt w st r) :
    Calls Tryz.prog 31 #[.pointer (some ⟨st, 0, none⟩), cmdV 5 ⟨#[]⟩ s ⟨#[]⟩ ⟨#[]⟩] w fun e w' => e = .returned (replyV 0 ⟨#[]⟩) ∧ MakePost r rv ri n q V I s w (.returned (.int .i64 0)) w' ∧ StAt w' st r := by
  obtain ⟨e1, e2, e3⟩ := st_ne_box hS hB
  obtain ⟨l1, l2, l3⟩ := hB.lts
  refine (stdo st r 5 ⟨#[]⟩ s ⟨#[]⟩ ⟨#[]⟩ 0 ⟨#[]⟩ (fun W w' => MakePost r rv ri n q V I s W (.returned (.int .i64 0)) w') w hS (fun W hb => ?_)).mono ?_
  · refine (do_make r rv ri n q V I s W (hm.below hb) hk hs hp (hB.below hb) hn hI hV).mono ?_
    rintro e w' ⟨rfl, hpost⟩
    have hk2 := hpost.2.choose_spec.choose_spec.choose_spec.2.2.2.2.2
    exact ⟨rfl, hpost, keep_but hk2 e3 l3⟩
  · rintro e w' ⟨rfl, W, w1, B, hb, h1, h2, hT, rfl⟩
    have hfin := hT.stored hb hB h1 h2 (.int .i64 0) (.string ⟨#[]⟩)
    exact ⟨rfl, hfin, hS.kept hfin.2.choose_spec.choose_spec.choose_spec.2.2.2.2.2 e3⟩

theorem st_dup (c : Nat) (hk : keyOk s = true) (hs : s.size ≤ 1000000) (hp : Plainname s) (hB : BoxAt w r rv ri q n V I) (hI : Maps.has I (keyL s) = true) (hat : I.atKey (keyL s) .nil = .lit (.int .u64 c)) (hm : HasMax w) (hS : StAt w st r) :
    Calls Tryz.prog 31 #[.pointer (some ⟨st, 0, none⟩), cmdV 5 ⟨#[]⟩ s ⟨#[]⟩ ⟨#[]⟩] w fun e w' => e = .returned (replyV 9 ⟨#[]⟩) ∧ Below w.heap.size w w' := by
  refine (stdo st r 5 ⟨#[]⟩ s ⟨#[]⟩ ⟨#[]⟩ 9 ⟨#[]⟩ (fun W w' => Below W.heap.size W w') w hS (fun W hb => ?_)).mono ?_
  · refine (do_dup r rv ri n c q V I s W (hm.below hb) hk hs hp (hB.below hb) hI hat).mono ?_
    rintro e w' ⟨rfl, hb'⟩
    exact ⟨rfl, hb', keep_all hb' _⟩
  · rintro e w' ⟨rfl, W, w1, B, hb, h1, h2, hT, rfl⟩
    exact ⟨rfl, below_stored (hb.trans (hT.mono hb.size)) h1 _ _⟩

theorem st_drop (c : Nat) (hk : keyOk s = true) (hs : s.size ≤ 1000000) (hp : Plainname s) (hB : BoxAt w r rv ri q n V I) (hV : Maps.has V (keyL s) = false) (hI : Maps.has I (keyL s) = true) (hat : I.atKey (keyL s) .nil = .lit (.int .u64 c)) (hm : HasMax w) (hS : StAt w st r) :
    Calls Tryz.prog 31 #[.pointer (some ⟨st, 0, none⟩), cmdV 6 ⟨#[]⟩ s ⟨#[]⟩ ⟨#[]⟩] w fun e w' => e = .returned (replyV 0 ⟨#[]⟩) ∧ DropPost r rv ri n q V (I.del (keyL s)) w (.returned (.int .i64 0)) w' ∧ StAt w' st r := by
  obtain ⟨e1, e2, e3⟩ := st_ne_box hS hB
  obtain ⟨l1, l2, l3⟩ := hB.lts
  refine (stdo st r 6 ⟨#[]⟩ s ⟨#[]⟩ ⟨#[]⟩ 0 ⟨#[]⟩ (fun W w' => DropPost r rv ri n q V (I.del (keyL s)) W (.returned (.int .i64 0)) w') w hS (fun W hb => ?_)).mono ?_
  · refine (do_drop r rv ri n c q V I s W (hm.below hb) hk hs hp (hB.below hb) hV hI hat).mono ?_
    rintro e w' ⟨rfl, hpost⟩
    exact ⟨rfl, hpost, keep_but hpost.2.2 e3 l3⟩
  · rintro e w' ⟨rfl, W, w1, B, hb, h1, h2, hT, rfl⟩
    have hfin := DropPost.stored hT hb hB h1 (.int .i64 0) (.string ⟨#[]⟩)
    exact ⟨rfl, hfin, hS.kept hfin.2.2 e3⟩

theorem st_next (c bv bi : Nat) (p : ByteArray) (hg0 : Glob w) (hok : namesOk p = true) (hnames : pathNames p = [p]) (hne : p.toList.isEmpty = false) (hps : p.size ≤ 32) (hL : Leads w r p c) (hB : BoxAt w c bv bi q n V I) (ha : 0 ≠ c) (hb' : 1 ≠ c) (h0 : 0 ≤ q) (h1 : q ≤ 1000000) (hS : StAt w st r) :
    Calls Tryz.prog 31 #[.pointer (some ⟨st, 0, none⟩), cmdV 7 p ⟨#[]⟩ ⟨#[]⟩ ⟨#[]⟩] w fun e w' => e = .returned (replyV 0 (digS (q + 1))) ∧ NextPost c bv bi n q V I w (.returned (.tuple #[.int .i64 (q + 1), .int .i64 0])) w' ∧ StAt w' st r := by
  obtain ⟨e1, e2, e3⟩ := st_ne_box hS hB
  obtain ⟨l1, l2, l3⟩ := hB.lts
  refine (stdo st r 7 p ⟨#[]⟩ ⟨#[]⟩ ⟨#[]⟩ 0 (digS (q + 1)) (fun W w' => NextPost c bv bi n q V I W (.returned (.tuple #[.int .i64 (q + 1), .int .i64 0])) w') w hS (fun W hb => ?_)).mono ?_
  · refine (do_next r c bv bi n q V I p W (hg0.below hb) hok hnames hne hps (hL.below hb) (hB.below hb) ha hb' h0 h1).mono ?_
    rintro e w' ⟨rfl, hpost⟩
    exact ⟨rfl, hpost, keep_but hpost.2.2 e1 l1⟩
  · rintro e w' ⟨rfl, W, w1, B, hb, h1, h2, hT, rfl⟩
    have hfin := NextPost.stored hT hb hB h1 (.int .i64 0) (.string (digS (q + 1)))
    exact ⟨rfl, hfin, hS.kept hfin.2.2 e1⟩

theorem st_next_none (p : ByteArray) (hok : namesOk p = true) (hnames : pathNames p = [p]) (hne : p.toList.isEmpty = false) (hps : p.size ≤ 32) (hL : Leadsnot w r p) (hm : HasMax w) (hS : StAt w st r) :
    Calls Tryz.prog 31 #[.pointer (some ⟨st, 0, none⟩), cmdV 7 p ⟨#[]⟩ ⟨#[]⟩ ⟨#[]⟩] w fun e w' => e = .returned (replyV 8 ⟨#[]⟩) ∧ Below w.heap.size w w' := by
  refine (stdo st r 7 p ⟨#[]⟩ ⟨#[]⟩ ⟨#[]⟩ 8 ⟨#[]⟩ (fun W w' => Below W.heap.size W w') w hS (fun W hb => ?_)).mono ?_
  · refine (do_next_none r p W (hm.below hb) hok hnames hne hps (hL.below hb)).mono ?_
    rintro e w' ⟨rfl, hb'⟩
    exact ⟨rfl, hb', keep_all hb' _⟩
  · rintro e w' ⟨rfl, W, w1, B, hb, h1, h2, hT, rfl⟩
    exact ⟨rfl, below_stored (hb.trans (hT.mono hb.size)) h1 _ _⟩

theorem st_next_root (hS : StAt w st r) :
    Calls Tryz.prog 31 #[.pointer (some ⟨st, 0, none⟩), cmdV 7 ⟨#[]⟩ ⟨#[]⟩ ⟨#[]⟩ ⟨#[]⟩] w fun e w' => e = .returned (replyV 1 ⟨#[]⟩) ∧ Below w.heap.size w w' := by
  refine (stdo st r 7 ⟨#[]⟩ ⟨#[]⟩ ⟨#[]⟩ ⟨#[]⟩ 1 ⟨#[]⟩ (fun W w' => Below W.heap.size W w') w hS (fun W hb => ?_)).mono ?_
  · refine (do_next_root r W).mono ?_
    rintro e w' ⟨rfl, hb'⟩
    exact ⟨rfl, hb', keep_all hb' _⟩
  · rintro e w' ⟨rfl, W, w1, B, hb, h1, h2, hT, rfl⟩
    exact ⟨rfl, below_stored (hb.trans (hT.mono hb.size)) h1 _ _⟩
end
end Go.Proofs.YtjonmggkmalgaaaGreatDoor

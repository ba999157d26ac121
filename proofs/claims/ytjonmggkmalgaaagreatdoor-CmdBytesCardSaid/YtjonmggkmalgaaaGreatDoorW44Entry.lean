/-
  A request's and an entry's bytes, or why they can't be: cmd.Lay, cmd.Entry.
-/
import Derived.Test.YtjonmggkmalgaaaGreatDoorW43Check
namespace Go.Proofs.YtjonmggkmalgaaaGreatDoor
open Go.RowKit Go.Lib

theorem check_zero {r : ReqS} (h : r.check = 0) : 0 ≤ r.client ∧ r.client ≤ 1099511627776 ∧ 0 ≤ r.seq ∧ r.seq ≤ 1099511627776 ∧ 1 ≤ r.cmds.length ∧ r.cmds.length ≤ 6 ∧ (∀ c ∈ r.cmds, c.valid = true) ∧ r.bytes.length ≤ 8000 := by
  unfold ReqS.check at h
  split at h
  · cases h
  · split at h
    · cases h
    · split at h
      · cases h
      · split at h
        · cases h
        · rename_i h1 h2 h3 h4
          refine ⟨by omega, by omega, by omega, by omega, by omega, by omega, ?_, by omega⟩
          exact List.all_eq_true.1 (by simpa using h3)

def ReqS.laid (r : ReqS) : ByteArray := if r.check = 0 then strS r.bytes else ⟨#[]⟩

set_option maxRecDepth 100000 in
theorem lay_any (c q : Int) (x : Option Addr) (l : List CmdS) (cap : Nat) (w : World) (hx : CmdsAt w x l) (hl : l.length ≤ 1000000) :
    Calls Tryz.prog 15 #[reqV c q x l.length cap] w (StrPost w (ReqS.laid ⟨c, q, l⟩) (ReqS.check ⟨c, q, l⟩)) := by
  have hm := Lies.made w 24 [.int .i64 c, .int .i64 q, .slice x l.length cap]
  have ha := box_made w 24 [.int .i64 c, .int .i64 q, .slice x l.length cap]
  have c0 := hm.cell 0
  have c1 := hm.cell 1
  have c2 := hm.cell 2
  have hcheck := check_any c q x l cap _ (hx.below ha) hl
  have Hx := veil hx
  simp at c0 c1 c2
  obtain ⟨k, hk⟩ : ∃ k, k = ReqS.check ⟨c, q, l⟩ := ⟨_, rfl⟩
  unfold ReqS.laid
  rw [← hk] at hcheck ⊢
  by_cases h0 : k = 0
  · obtain ⟨p1, p2, p3, p4, p5, p6, p7, p8⟩ := check_zero (r := ⟨c, q, l⟩) (by rw [← hk]; exact h0)
    simp only at p1 p2 p3 p4 p5 p6 p7
    obtain ⟨cn, rfl⟩ : ∃ cn : Nat, c = cn := ⟨c.toNat, by omega⟩
    obtain ⟨qn, rfl⟩ : ∃ qn : Nat, q = qn := ⟨q.toNat, by omega⟩
    have Hlay := veil (fun W (hb : Below w.heap.size w W) => lay_ok cn qn x l cap W (by omega) (by omega) (Hx.out.below hb) (by omega) p7)
    rw [if_pos h0]
    subst h0
    clear hk hx p7 p8
    go_enter Tryz.func15, Tryz.ntmps15
    go_wp2_with fail
    refine hcheck.mono ?_
    rintro e w1 ⟨rfl, hb1⟩
    have hb2 := ha.trans (hb1.mono ha.size)
    have hm1 := hm.below hb1 hm.lt
    have d0 : w1.cell? ⟨w.heap.size, 0, none⟩ = some (.int .i64 cn) := hm1.cell 0
    have d1 : w1.cell? ⟨w.heap.size, 1, none⟩ = some (.int .i64 qn) := hm1.cell 1
    have d2 : w1.cell? ⟨w.heap.size, 2, none⟩ = some (.slice x l.length cap) := hm1.cell 2
    go_wp2_with fail
    refine (Hlay.out _ hb2).mono ?_
    rintro e w2 ⟨rfl, hb3⟩
    go_wp2
    go_ret2
    exact ⟨rfl, hb2.trans (hb3.mono hb2.size)⟩
  · rw [if_neg h0]
    have hk0 : (k != 0) = true := by simpa using h0
    clear hk hx
    go_enter Tryz.func15, Tryz.ntmps15
    go_wp2_with fail
    refine hcheck.mono ?_
    rintro e w1 ⟨rfl, hb1⟩
    have hb2 := ha.trans (hb1.mono ha.size)
    go_wp2
    go_ret2
    exact ⟨rfl, hb2⟩

structure EntS where
  index : Int
  term : Int
  req : ReqS
def EntS.check (e : EntS) : Int := if e.index < 0 ∨ 2147483647 < e.index ∨ e.term < 0 ∨ 2147483647 < e.term then 1 else e.req.check
def EntS.bytes (e : EntS) : List UInt8 := lowBytes e.index.toNat 4 ++ lowBytes e.term.toNat 4 ++ e.req.bytes
def EntS.laid (e : EntS) : ByteArray := if e.check = 0 then strS e.bytes else ⟨#[]⟩
abbrev entV (i t client seq : Int) (x : Option Addr) (n cap : Nat) : Value := .agg #[.int .i64 i, .int .i64 t, .int .i64 client, .int .i64 seq, .slice x n cap]

set_option maxHeartbeats 1000000 in
set_option maxRecDepth 100000 in
theorem entry_any (i t c q : Int) (x : Option Addr) (l : List CmdS) (cap : Nat) (w : World) (hx : CmdsAt w x l) (hl : l.length ≤ 1000000) :
    Calls Tryz.prog 7 #[entV i t c q x l.length cap] w (StrPost w (EntS.laid ⟨i, t, c, q, l⟩) (EntS.check ⟨i, t, c, q, l⟩)) := by
  have hm := Lies.made w 31 [.int .i64 i, .int .i64 t, .int .i64 c, .int .i64 q, .slice x l.length cap]
  have ha := box_made w 31 [.int .i64 i, .int .i64 t, .int .i64 c, .int .i64 q, .slice x l.length cap]
  have c0 := hm.cell 0
  have c1 := hm.cell 1
  have c2 := hm.cell 2
  have c3 := hm.cell 3
  have c4 := hm.cell 4
  have hlay := lay_any c q x l cap _ (hx.below ha) hl
  simp at c0 c1 c2 c3 c4
  by_cases h1 : i < 0
  · have e : EntS.check ⟨i, t, c, q, l⟩ = 1 := by unfold EntS.check; rw [if_pos]; exact .inl h1
    unfold EntS.laid
    rw [e, if_neg (by decide)]
    clear e
    go_enter Tryz.func7, Tryz.ntmps7
    go_wp2
    go_ret2
    exact ⟨rfl, ha⟩
  by_cases h2 : 2147483647 < i
  · have e : EntS.check ⟨i, t, c, q, l⟩ = 1 := by unfold EntS.check; rw [if_pos]; exact .inr (.inl h2)
    unfold EntS.laid
    rw [e, if_neg (by decide)]
    clear e
    go_enter Tryz.func7, Tryz.ntmps7
    go_wp2
    go_ret2
    exact ⟨rfl, ha⟩
  by_cases h3 : t < 0
  · have e : EntS.check ⟨i, t, c, q, l⟩ = 1 := by unfold EntS.check; rw [if_pos]; exact .inr (.inr (.inl h3))
    unfold EntS.laid
    rw [e, if_neg (by decide)]
    clear e
    go_enter Tryz.func7, Tryz.ntmps7
    go_wp2
    go_ret2
    exact ⟨rfl, ha⟩
  by_cases h4 : 2147483647 < t
  · have e : EntS.check ⟨i, t, c, q, l⟩ = 1 := by unfold EntS.check; rw [if_pos]; exact .inr (.inr (.inr h4))
    unfold EntS.laid
    rw [e, if_neg (by decide)]
    clear e
    go_enter Tryz.func7, Tryz.ntmps7
    go_wp2
    go_ret2
    exact ⟨rfl, ha⟩
  have e0 : EntS.check ⟨i, t, c, q, l⟩ = ReqS.check ⟨c, q, l⟩ := by
    unfold EntS.check
    rw [if_neg (by simp only; omega)]
  unfold EntS.laid
  rw [e0]
  by_cases hk : ReqS.check ⟨c, q, l⟩ = 0
  · have hsz := (check_zero hk).2.2.2.2.2.2.2
    have hls : ReqS.laid ⟨c, q, l⟩ = strS (ReqS.bytes ⟨c, q, l⟩) := by unfold ReqS.laid; rw [if_pos hk]
    rw [hls, hk] at hlay
    rw [if_pos hk, hk]
    have Hbs : Hid (EntS.bytes ⟨i, t, c, q, l⟩ = lowBytes i.toNat 4 ++ lowBytes t.toNat 4 ++ ReqS.bytes ⟨c, q, l⟩) := veil rfl
    obtain ⟨bs, hbs⟩ : ∃ bs, bs = ReqS.bytes ⟨c, q, l⟩ := ⟨_, rfl⟩
    rw [← hbs] at hlay Hbs hsz
    clear hls hk hbs e0
    rw [Hbs.out]
    clear Hbs
    have hz := strS_size bs
    have hl' := strS_list bs
    obtain ⟨im, rfl⟩ : ∃ im : Nat, i = im := ⟨i.toNat, by omega⟩
    obtain ⟨tm, rfl⟩ : ∃ tm : Nat, t = tm := ⟨t.toNat, by omega⟩
    go_enter Tryz.func7, Tryz.ntmps7
    go_wp2_with fail
    refine hlay.mono ?_
    rintro e w1 ⟨rfl, hb1⟩
    have hb2 := ha.trans (hb1.mono ha.size)
    have hm1 := hm.below hb1 hm.lt
    have hsz1 := hb2.size
    have hm2 := hm1.alloc (.cells #[.slice none 0 0, .int .i64 0] 78)
    have hp2 := put_new w1
    have hb3 := hb2.alloc hsz1 (.cells #[.slice none 0 0, .int .i64 0] 78)
    have hmlt := hm1.lt
    go_wp2_with fail
    go_region_held3 (fun w' => w'.cell? ⟨w.heap.size, 0, none⟩ = some (.int .i64 im) ∧ w'.cell? ⟨w.heap.size, 1, none⟩ = some (.int .i64 tm))
      (first
        | exact ⟨hm6.cell 0, hm6.cell 1⟩
        | exact ⟨hm5.cell 0, hm5.cell 1⟩
        | exact ⟨hm4.cell 0, hm4.cell 1⟩
        | exact ⟨hm3.cell 0, hm3.cell 1⟩
        | exact ⟨hm2.cell 0, hm2.cell 1⟩
        | exact ⟨hm1.cell 0, hm1.cell 1⟩)
      (first
        | (go_at_call 36; refine (end_ok _ _ _ hp5).mono ?_; rintro e w6 ⟨rfl, rfl⟩)
        | (go_at_call 35; refine (raw_ok _ _ (strS bs) _ hp4 (by omega) (by simp [lowBytes_length])).mono ?_; rintro e w5 ⟨rfl, hp5, hs5⟩; have hm5 := hs5.lies hm4 (by omega) (by decide))
        | (go_at_call 34; refine (word_ok _ _ tm _ hp3 (by omega) (by simp [lowBytes_length])).mono ?_; rintro e w4 ⟨rfl, hp4, hs4⟩; have hm4 := hs4.lies hm3 (by omega) (by decide))
        | (go_at_call 34; refine (word_ok _ _ im _ hp2.drew (by omega) (by simp)).mono ?_; rintro e w3 ⟨rfl, hp3, hs3⟩; have hm3 := hs3.lies hm2.drew (by omega) (by decide)))
    have hsp := (hs3.trans hs4).trans hs5
    have hb6 : Below w.heap.size w w5 := hb3.drew.trans ((hsp.below (by show w1.heap.size ≤ (w1.alloc _).heap.size; simp)).mono hsz1)
    have Heq : Hid (strS (lowBytes (im : Int).toNat 4 ++ lowBytes (tm : Int).toNat 4 ++ bs) = ⟨(lowBytes im 4 ++ (lowBytes tm 4 ++ bs)).toArray⟩) := veil (by simp)
    clear hm hm1 hm2 hm3 hm4 hm5 hp2 hp3 hp4 hp5 hs3 hs4 hs5 hsp
    go_wp2
    go_ret2
    rw [Heq.out]
    exact ⟨rfl, hb6⟩
  · rw [if_neg hk]
    have hls : ReqS.laid ⟨c, q, l⟩ = ⟨#[]⟩ := by unfold ReqS.laid; rw [if_neg hk]
    rw [hls] at hlay
    obtain ⟨k, hkk⟩ : ∃ k, k = ReqS.check ⟨c, q, l⟩ := ⟨_, rfl⟩
    rw [← hkk] at hk hlay ⊢
    have hk0 : (k != 0) = true := by simpa using hk
    clear hls hkk e0
    go_enter Tryz.func7, Tryz.ntmps7
    go_wp2_with fail
    refine hlay.mono ?_
    rintro e w1 ⟨rfl, hb1⟩
    go_wp2
    go_ret2
    exact ⟨rfl, ha.trans (hb1.mono ha.size)⟩
end Go.Proofs.YtjonmggkmalgaaaGreatDoor

/-
  Two requests held against each other: slices.Equal, cmd.Same, the document's SameReq.
-/
import Derived.Test.YtjonmggkmalgaaaGreatDoorW47ReadEntry
import Derived.BigQuiet
namespace Go.Proofs.YtjonmggkmalgaaaGreatDoor
open Go.RowKit Go.Lib

theorem cmds_differ (a0 b0 : Int) (a1 a2 a3 a4 b1 b2 b3 b4 : ByteArray) :
    (CmdS.mk a0 a1 a2 a3 a4 = CmdS.mk b0 b1 b2 b3 b4) ∨ ((CmdS.mk a0 a1 a2 a3 a4 ≠ CmdS.mk b0 b1 b2 b3 b4) ∧
    (¬ a0 = b0 ∨ (a0 = b0 ∧ ¬ a1.toList = b1.toList) ∨ (a0 = b0 ∧ a1.toList = b1.toList ∧ ¬ a2.toList = b2.toList) ∨ (a0 = b0 ∧ a1.toList = b1.toList ∧ a2.toList = b2.toList ∧ ¬ a3.toList = b3.toList) ∨ (a0 = b0 ∧ a1.toList = b1.toList ∧ a2.toList = b2.toList ∧ a3.toList = b3.toList ∧ ¬ a4.toList = b4.toList))) := by
  have key : ∀ a b : ByteArray, a.toList = b.toList → a = b := fun a b h => bytes_ext (by rw [← ByteArray.toList_eq, ← ByteArray.toList_eq]; exact h)
  by_cases h : CmdS.mk a0 a1 a2 a3 a4 = CmdS.mk b0 b1 b2 b3 b4
  · exact .inl h
  · refine .inr ⟨h, ?_⟩
    by_cases h0 : a0 = b0
    · by_cases h1 : a1.toList = b1.toList
      · by_cases h2 : a2.toList = b2.toList
        · by_cases h3 : a3.toList = b3.toList
          · refine .inr (.inr (.inr (.inr ⟨h0, h1, h2, h3, fun h4 => h ?_⟩)))
            rw [h0, key _ _ h1, key _ _ h2, key _ _ h3, key _ _ h4]
          · exact .inr (.inr (.inr (.inl ⟨h0, h1, h2, h3⟩)))
        · exact .inr (.inr (.inl ⟨h0, h1, h2⟩))
      · exact .inr (.inl ⟨h0, h1⟩)
    · exact .inl h0

def SamePost (w : World) (P : Prop) (e : Ending) (w' : World) : Prop := ∃ b : Bool, e = .returned (.bool b) ∧ (b = true ↔ P) ∧ Below w.heap.size w w'

theorem take_eq {l m : List CmdS} {k : Nat} (h1 : k < l.length) (h2 : k < m.length) (h : l.take k = m.take k) (he : l[k] = m[k]) : l.take (k + 1) = m.take (k + 1) := by
  rw [List.take_add_one, List.take_add_one, List.getElem?_eq_getElem h1, List.getElem?_eq_getElem h2, h, he]

set_option maxHeartbeats 1000000 in
set_option maxRecDepth 100000 in
theorem equal_cmds (x y : Option Addr) (l m : List CmdS) (c d : Nat) (w : World) (hx : CmdsAt w x l) (hy : CmdsAt w y m) (hl : l.length ≤ 1000000) :
    Calls Tryz.prog 50 #[.slice x l.length c, .slice y m.length d] w (SamePost w (l = m)) := by
  by_cases hlen : l.length = m.length
  · have HX := veil hx
    have HY := veil hy
    have HL := veil hlen
    have hlb : (((l.length : Nat) : Int) != ((m.length : Nat) : Int)) = false := by rw [bne_eq_false_iff_eq]; omega
    clear hx hy hlen
    go_enter Tryz.func50, Tryz.ntmps50
    go_wp2_with fail
    go_loopw [13] (fun i wr => ∃ k : Nat, k ≤ l.length ∧ i = .int .i64 k ∧ l.take k = m.take k ∧ Below w.heap.size w wr) (fun i _ => l.length - (intOf i).toNat)
    case atStart => exact ⟨0, Nat.zero_le _, rfl, rfl, Below.refl _ _⟩
    case round =>
      obtain ⟨k, hk, rfl, ht, hb⟩ := hrel
      have HT := veil ht
      clear ht
      by_cases hlt : k < l.length
      · have hlt2 : k < m.length := by have := HL.out; omega
        obtain ⟨bb, off, rfl, k0, k1, k2, k3, k4⟩ := (HX.out.below hb) k hlt
        obtain ⟨cc, off2, rfl, j0, j1, j2, j3, j4⟩ := (HY.out.below hb) k hlt2
        have i0 : (0 : Int) ≤ (k : Int) := by omega
        have i1 : (k : Int) < (l.length : Int) := by omega
        have i2 : (k : Int) < (m.length : Int) := by omega
        have HEQ : Hid (l[k] = m[k] → l.take (k + 1) = m.take (k + 1)) := veil (fun he => take_eq hlt hlt2 HT.out he)
        have HNE : Hid (l[k] ≠ m[k] → l ≠ m) := veil (fun hne he => hne (by subst he; rfl))
        obtain ⟨p, hp⟩ : ∃ p, p = l[k] := ⟨_, rfl⟩
        obtain ⟨q, hq⟩ : ∃ q, q = m[k] := ⟨_, rfl⟩
        rw [← hp] at k0 k1 k2 k3 k4 HEQ HNE
        rw [← hq] at j0 j1 j2 j3 j4 HEQ HNE
        clear hp hq
        obtain ⟨a0, a1, a2, a3, a4⟩ := p
        obtain ⟨b0, b1, b2, b3, b4⟩ := q
        simp only at k0 k1 k2 k3 k4 j0 j1 j2 j3 j4
        rcases cmds_differ a0 b0 a1 a2 a3 a4 b1 b2 b3 b4 with he | ⟨hne, hd⟩
        · have HE := veil (HEQ.out he)
          injection he with q0 q1 q2 q3 q4
          subst q0 q1 q2 q3 q4
          go_wp2_with fail
          go_region
          all_goals (
            go_wp2
            go_roundw
            case rel => exact ⟨k + 1, by omega, by go_num, HE.out, hb.drew⟩
            case measure => simp [intOf]; omega)
        · have HN := veil (HNE.out hne)
          clear hne HEQ HNE
          rcases hd with d0 | ⟨d0, d1⟩ | ⟨d0, d1, d2⟩ | ⟨d0, d1, d2, d3⟩ | ⟨d0, d1, d2, d3, d4⟩
          all_goals (
            go_wp2_with fail
            go_region
            all_goals (
              go_wp2
              go_ret
              exact ⟨false, rfl, ⟨fun h => (by cases h), fun h => absurd h HN.out⟩, hb.drew⟩))
      · obtain rfl : k = l.length := by omega
        have HE := veil (show l = m by
          have h1 := HT.out
          have h2 := HL.out
          rw [List.take_length, h2, List.take_length] at h1
          exact h1)
        go_wp2
        go_ret
        exact ⟨true, rfl, ⟨fun _ => HE.out, fun _ => rfl⟩, hb⟩
  · have hlb : (((l.length : Nat) : Int) != ((m.length : Nat) : Int)) = true := by rw [bne_iff_ne]; omega
    have HN := veil hlen
    clear hlen hx hy
    go_enter Tryz.func50, Tryz.ntmps50
    go_wp2
    go_ret
    exact ⟨false, rfl, ⟨fun h => (by cases h), fun h => absurd (congrArg List.length h) HN.out⟩, Below.refl _ _⟩

theorem req_ext {c q c' q' : Int} {l m : List CmdS} : ReqS.mk c q l = ReqS.mk c' q' m ↔ c = c' ∧ q = q' ∧ l = m := by
  constructor
  · intro h; injection h with h1 h2 h3; exact ⟨h1, h2, h3⟩
  · rintro ⟨rfl, rfl, rfl⟩; rfl

set_option maxHeartbeats 1000000 in
set_option maxRecDepth 100000 in
theorem same_any (c q c' q' : Int) (x y : Option Addr) (l m : List CmdS) (k k' : Nat) (w : World) (hx : CmdsAt w x l) (hy : CmdsAt w y m) (hl : l.length ≤ 1000000) :
    Calls Tryz.prog 12 #[reqV c q x l.length k, reqV c' q' y m.length k'] w (SamePost w (ReqS.mk c q l = ReqS.mk c' q' m)) := by
  have hm1 := Lies.made w 24 [.int .i64 c, .int .i64 q, .slice x l.length k]
  have ha1 := box_made w 24 [.int .i64 c, .int .i64 q, .slice x l.length k]
  have hm2 := hm1.alloc (.cells #[.int .i64 c', .int .i64 q', .slice y m.length k'] 24)
  have hm3 := Lies.made (w.alloc (.cells #[.int .i64 c, .int .i64 q, .slice x l.length k] 24)) 24 [.int .i64 c', .int .i64 q', .slice y m.length k']
  have ha2 := ha1.alloc (by simp) (.cells #[.int .i64 c', .int .i64 q', .slice y m.length k'] 24)
  have heq := equal_cmds x y l m k k' _ (hx.below ha2) (hy.below ha2) hl
  rw [req_ext]
  by_cases h1 : c = c'
  · by_cases h2 : q = q'
    · subst h1
      subst h2
      clear hm1 hm2 hm3 hx hy
      go_enter Tryz.func12, Tryz.ntmps12
      go_wp2_with fail
      refine heq.mono ?_
      rintro e w1 ⟨b, rfl, hb, hb1⟩
      have Hb := veil hb
      clear hb
      go_wp2
      go_ret
      exact ⟨b, rfl, by rw [Hb.out]; simp, ha2.trans (hb1.mono ha2.size)⟩
    · subst h1
      have hne := veil h2
      clear hm1 hm2 hm3 hx hy heq
      go_enter Tryz.func12, Tryz.ntmps12
      go_wp2
      go_ret
      exact ⟨false, rfl, ⟨fun h => (by cases h), fun h => absurd h.2.1 hne.out⟩, ha2⟩
  · have hne := veil h1
    clear hm1 hm2 hm3 hx hy heq
    go_enter Tryz.func12, Tryz.ntmps12
    go_wp2
    go_ret
    exact ⟨false, rfl, ⟨fun h => (by cases h), fun h => absurd h.1 hne.out⟩, ha2⟩

set_option maxHeartbeats 1000000 in
set_option maxRecDepth 100000 in
theorem samereq_any (c q c' q' : Int) (x y : Option Addr) (l m : List CmdS) (k0 k0' : Nat) (w : World) (hx : CmdsAt w x l) (hy : CmdsAt w y m) (hl : l.length ≤ 1000000) :
    Calls Tryz.prog 10 #[reqV c q x l.length k0, reqV c' q' y m.length k0'] w (SamePost w (ReqS.mk c q l = ReqS.mk c' q' m)) := by
  have hm1 := Lies.made w 24 [.int .i64 c, .int .i64 q, .slice x l.length k0]
  have ha1 := box_made w 24 [.int .i64 c, .int .i64 q, .slice x l.length k0]
  have hm2 := hm1.alloc (.cells #[.int .i64 c', .int .i64 q', .slice y m.length k0'] 24)
  have hm3 := Lies.made (w.alloc (.cells #[.int .i64 c, .int .i64 q, .slice x l.length k0] 24)) 24 [.int .i64 c', .int .i64 q', .slice y m.length k0']
  have ha2 := ha1.alloc (by simp) (.cells #[.int .i64 c', .int .i64 q', .slice y m.length k0'] 24)
  rw [req_ext]
  by_cases h1 : c = c'
  · by_cases h2 : q = q'
    · by_cases h3 : l.length = m.length
      · subst h1
        subst h2
        have HX := veil hx
        have HY := veil hy
        have HL := veil h3
        have hlb : (((l.length : Nat) : Int) != ((m.length : Nat) : Int)) = false := by rw [bne_eq_false_iff_eq]; omega
        have hz2 := ha2.size
        have H2 := veil (And.intro hm2 (And.intro hm3 ha2))
        have hsz : ((w.alloc (.cells #[.int .i64 c, .int .i64 q, .slice x l.length k0] 24)).alloc (.cells #[.int .i64 c, .int .i64 q, .slice y m.length k0'] 24)).heap.size = w.heap.size + 2 := by simp
        clear hx hy h3 hm1 hm2 hm3 ha1 ha2
        go_enter Tryz.func10, Tryz.ntmps10
        go_wp2_with fail
        go_loopw [5] (fun i wr => ∃ k : Nat, k ≤ l.length ∧ i = .int .i64 k ∧ l.take k = m.take k ∧ Below (w.heap.size + 2) ((w.alloc (.cells #[.int .i64 c, .int .i64 q, .slice x l.length k0] 24)).alloc (.cells #[.int .i64 c, .int .i64 q, .slice y m.length k0'] 24)) wr) (fun i _ => l.length - (intOf i).toNat)
        case atStart => exact ⟨0, Nat.zero_le _, rfl, rfl, Below.refl _ _⟩
        case round =>
          obtain ⟨k, hk, rfl, ht, hb⟩ := hrel
          have HT := veil ht
          have hbw : Below w.heap.size w wr := H2.out.2.2.trans (hb.mono (by omega))
          have hr2 := H2.out.1.below hb (by omega)
          have hr3 := H2.out.2.1.below hb (by simp)
          have s2 := hr2.cell 2
          have s3 := hr3.cell 2
          clear ht hr2 hr3
          simp at s2 s3
          by_cases hlt : k < l.length
          · have hlt2 : k < m.length := by have := HL.out; omega
            obtain ⟨bb, off, rfl, k0, k1, k2, k3, k4⟩ := (HX.out.below hbw) k hlt
            obtain ⟨cc, off2, rfl, j0, j1, j2, j3, j4⟩ := (HY.out.below hbw) k hlt2
            have i0 : (0 : Int) ≤ (k : Int) := by omega
            have i1 : (k : Int) < (l.length : Int) := by omega
            have i2 : (k : Int) < (m.length : Int) := by omega
            have HEQ : Hid (l[k] = m[k] → l.take (k + 1) = m.take (k + 1)) := veil (fun he => take_eq hlt hlt2 HT.out he)
            have HNE : Hid (l[k] ≠ m[k] → l ≠ m) := veil (fun hne he => hne (by subst he; rfl))
            obtain ⟨p, hp⟩ : ∃ p, p = l[k] := ⟨_, rfl⟩
            obtain ⟨r, hr⟩ : ∃ r, r = m[k] := ⟨_, rfl⟩
            rw [← hp] at k0 k1 k2 k3 k4 HEQ HNE
            rw [← hr] at j0 j1 j2 j3 j4 HEQ HNE
            clear hp hr
            obtain ⟨a0, a1, a2, a3, a4⟩ := p
            obtain ⟨b0, b1, b2, b3, b4⟩ := r
            simp only at k0 k1 k2 k3 k4 j0 j1 j2 j3 j4
            rcases cmds_differ a0 b0 a1 a2 a3 a4 b1 b2 b3 b4 with he | ⟨hne, hd⟩
            · have HE := veil (HEQ.out he)
              injection he with q0 q1 q2 q3 q4
              subst q0 q1 q2 q3 q4
              go_wp2_with fail
              go_region
              all_goals (
                go_wp2
                go_roundw
                case rel => exact ⟨k + 1, by omega, by go_num, HE.out, hb.drew⟩
                case measure => simp [intOf]; omega)
            · have HN := veil (HNE.out hne)
              clear hne HEQ HNE
              rcases hd with d0 | ⟨d0, d1⟩ | ⟨d0, d1, d2⟩ | ⟨d0, d1, d2, d3⟩ | ⟨d0, d1, d2, d3, d4⟩
              all_goals (
                go_wp2_with fail
                go_region
                all_goals (
                  go_wp2
                  go_ret
                  exact ⟨false, rfl, ⟨fun h => (by cases h), fun h => absurd h.2.2 HN.out⟩, hbw.drew⟩))
          · obtain rfl : k = l.length := by omega
            have HE := veil (show l = m by
              have h1 := HT.out
              have h2 := HL.out
              rw [List.take_length, h2, List.take_length] at h1
              exact h1)
            go_wp2
            go_ret
            exact ⟨true, rfl, ⟨fun _ => ⟨trivial, trivial, HE.out⟩, fun _ => rfl⟩, hbw⟩
      · have hlb : (((l.length : Nat) : Int) != ((m.length : Nat) : Int)) = true := by rw [bne_iff_ne]; omega
        subst h1
        subst h2
        have HN := veil h3
        clear h3 hm1 hm2 hm3 hx hy
        go_enter Tryz.func10, Tryz.ntmps10
        go_wp2
        go_ret
        exact ⟨false, rfl, ⟨fun h => (by cases h), fun h => absurd (congrArg List.length h.2.2) HN.out⟩, ha2⟩
    · subst h1
      have hnb : (q != q') = true := by simpa using h2
      have hne := veil h2
      clear h2 hm1 hm2 hm3 hx hy
      go_enter Tryz.func10, Tryz.ntmps10
      go_wp2
      go_ret
      exact ⟨false, rfl, ⟨fun h => (by cases h), fun h => absurd h.2.1 hne.out⟩, ha2⟩
  · have hnb : (c != c') = true := by simpa using h1
    have hne := veil h1
    clear h1 hm1 hm2 hm3 hx hy
    go_enter Tryz.func10, Tryz.ntmps10
    go_wp2
    go_ret
    exact ⟨false, rfl, ⟨fun h => (by cases h), fun h => absurd h.1 hne.out⟩, ha2⟩
end Go.Proofs.YtjonmggkmalgaaaGreatDoor

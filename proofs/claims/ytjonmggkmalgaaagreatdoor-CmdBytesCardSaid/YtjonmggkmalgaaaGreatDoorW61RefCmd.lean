/-
  The document's answer to whether a request may be, and its bytes: rootstockref19.Valid, Check, Lay, Entry: the same as cmd's.
-/
import Derived.Test.YtjonmggkmalgaaaGreatDoorW44Entry
import Derived.Test.YtjonmggkmalgaaaGreatDoorW60Ref1
namespace Go.Proofs.YtjonmggkmalgaaaGreatDoor
open Go.RowKit Go.Lib

set_option maxRecDepth 100000 in
theorem valid_ref (c : CmdS) (w : World) : Calls Tryz.prog 54 #[c.value] w (BoolPost w c.valid) := by
  obtain ⟨kind, path, key, val, old⟩ := c
  have hm := Lies.made w 68 [.int .i64 kind, .string path, .string key, .string val, .string old]
  have c0 := hm.cell 0
  have c1 := hm.cell 1
  have c2 := hm.cell 2
  have c3 := hm.cell 3
  have c4 := hm.cell 4
  have hb := box_made w 68 [.int .i64 kind, .string path, .string key, .string val, .string old]
  simp at c0 c1 c2 c3 c4
  have key : CmdS.valid ⟨kind, path, key, val, old⟩ = true ∨ (CmdS.valid ⟨kind, path, key, val, old⟩ = false ∧ (kind < 1 ∨ (¬ kind < 1 ∧ 9 < kind) ∨ (¬ kind < 1 ∧ ¬ 9 < kind ∧ (140 : Int) < path.size) ∨ (¬ kind < 1 ∧ ¬ 9 < kind ∧ ¬ (140 : Int) < path.size ∧ (3000 : Int) < key.size) ∨ (¬ kind < 1 ∧ ¬ 9 < kind ∧ ¬ (140 : Int) < path.size ∧ ¬ (3000 : Int) < key.size ∧ (3000 : Int) < val.size) ∨ (¬ kind < 1 ∧ ¬ 9 < kind ∧ ¬ (140 : Int) < path.size ∧ ¬ (3000 : Int) < key.size ∧ ¬ (3000 : Int) < val.size ∧ (3000 : Int) < old.size))) := by
    unfold CmdS.valid
    simp
    omega
  rcases key with hv | ⟨hv, hk⟩
  · have hv' := hv
    unfold CmdS.valid at hv'
    simp at hv'
    obtain ⟨⟨⟨⟨⟨h1, h2⟩, h3⟩, h4⟩, h5⟩, h6⟩ := hv'
    have g3 : (path.size : Int) ≤ 140 := by omega
    have g4 : (key.size : Int) ≤ 3000 := by omega
    have g5 : (val.size : Int) ≤ 3000 := by omega
    have g6 : (old.size : Int) ≤ 3000 := by omega
    rw [hv]
    clear hv h3 h4 h5 h6
    go_enter Tryz.func54, Tryz.ntmps54
    go_wp2
    go_ret
    exact ⟨rfl, hb⟩
  · rw [hv]
    clear hv
    rcases hk with h1 | ⟨h1, h2⟩ | ⟨h1, h2, h3⟩ | ⟨h1, h2, h3, h4⟩ | ⟨h1, h2, h3, h4, h5⟩ | ⟨h1, h2, h3, h4, h5, h6⟩
    all_goals (
      go_enter Tryz.func54, Tryz.ntmps54
      go_wp2
      go_ret
      first | exact ⟨rfl, hb⟩ | exact ⟨ret_bool (by simpa using h6), hb⟩)

theorem valid_sizes {c : CmdS} (h : c.valid = true) : 1 ≤ c.kind ∧ c.kind ≤ 9 ∧ c.path.size ≤ 140 ∧ c.key.size ≤ 3000 ∧ c.val.size ≤ 3000 ∧ c.old.size ≤ 3000 := by
  unfold CmdS.valid at h
  simp at h
  omega
theorem cbytes_length (c : CmdS) : c.bytes.length = 9 + c.path.size + c.key.size + c.val.size + c.old.size := by
  unfold CmdS.bytes
  simp only [List.length_append, textBytes_length, lowBytes_length, Array.length_toList]
  have e1 : c.path.data.size = c.path.size := rfl
  have e2 : c.key.data.size = c.key.size := rfl
  have e3 : c.val.data.size = c.val.size := rfl
  have e4 : c.old.data.size = c.old.size := rfl
  omega

set_option maxHeartbeats 1000000 in
set_option maxRecDepth 100000 in
theorem check_ref (c q : Int) (x : Option Addr) (l : List CmdS) (cap : Nat) (w : World) (hx : CmdsAt w x l) :
    Calls Tryz.prog 18 #[reqV c q x l.length cap] w (ErrPost w (ReqS.check ⟨c, q, l⟩)) := by
  have hm := Lies.made w 24 [.int .i64 c, .int .i64 q, .slice x l.length cap]
  have ha := box_made w 24 [.int .i64 c, .int .i64 q, .slice x l.length cap]
  have c0 := hm.cell 0
  have c1 := hm.cell 1
  have c2 := hm.cell 2
  have hx1 := hx.below ha
  simp at c0 c1 c2
  have hcase : (ReqS.check ⟨c, q, l⟩ = 1 ∧ (c < 0 ∨ (¬ c < 0 ∧ 1099511627776 < c) ∨ (¬ c < 0 ∧ ¬ 1099511627776 < c ∧ q < 0) ∨ (¬ c < 0 ∧ ¬ 1099511627776 < c ∧ ¬ q < 0 ∧ 1099511627776 < q) ∨ (¬ c < 0 ∧ ¬ 1099511627776 < c ∧ ¬ q < 0 ∧ ¬ 1099511627776 < q ∧ ((l.length : Nat) : Int) = 0))) ∨
      (ReqS.check ⟨c, q, l⟩ = 2 ∧ ¬ c < 0 ∧ ¬ 1099511627776 < c ∧ ¬ q < 0 ∧ ¬ 1099511627776 < q ∧ ¬ ((l.length : Nat) : Int) = 0 ∧ (6 : Int) < ((l.length : Nat) : Int)) ∨
      (ReqS.check ⟨c, q, l⟩ = (if l.all CmdS.valid = false then 1 else if 8000 < (ReqS.bytes ⟨c, q, l⟩).length then 2 else 0) ∧ ¬ c < 0 ∧ ¬ 1099511627776 < c ∧ ¬ q < 0 ∧ ¬ 1099511627776 < q ∧ ¬ ((l.length : Nat) : Int) = 0 ∧ ¬ (6 : Int) < ((l.length : Nat) : Int)) := by
    unfold ReqS.check
    simp only
    by_cases h1 : c < 0 ∨ 1099511627776 < c ∨ q < 0 ∨ 1099511627776 < q ∨ l.length = 0
    · rw [if_pos h1]; left; refine ⟨rfl, by omega⟩
    · rw [if_neg h1]
      right
      by_cases h2 : 6 < l.length
      · rw [if_pos h2]; left; refine ⟨rfl, by omega⟩
      · rw [if_neg h2]; right; refine ⟨rfl, by omega⟩
  rcases hcase with ⟨hr, hk⟩ | ⟨hr, h1, h2, h3, h4, h5, h6⟩ | ⟨hr, h1, h2, h3, h4, h5, h6⟩
  · rw [hr]
    clear hr hx hx1
    rcases hk with h1 | ⟨h1, h2⟩ | ⟨h1, h2, h3⟩ | ⟨h1, h2, h3, h4⟩ | ⟨h1, h2, h3, h4, h5⟩
    all_goals (
      go_enter Tryz.func18, Tryz.ntmps18
      go_wp2
      go_ret
      exact ⟨rfl, ha⟩)
  · rw [hr]
    clear hr hx hx1
    go_enter Tryz.func18, Tryz.ntmps18
    go_wp2
    go_ret
    exact ⟨rfl, ha⟩
  · have HX := veil hx1
    have HR := veil hr
    have Hm := veil (And.intro hm ha)
    have hsz := ha.size
    clear hr hx hx1 hm ha
    go_enter Tryz.func18, Tryz.ntmps18
    go_wp2_with fail
    go_loopw [3, 4] (fun n i wr => ∃ k : Nat, k ≤ l.length ∧ i = .int .i64 k ∧ (∀ c ∈ l.take k, c.valid = true) ∧ n = .int .i64 ((17 + ((l.take k).flatMap CmdS.bytes).length : Nat) : Int) ∧ Below (w.heap.size + 1) (w.alloc (.cells #[.int .i64 c, .int .i64 q, .slice x l.length cap] 24)) wr) (fun _ i _ => l.length - (intOf i).toNat)
    case atStart => exact ⟨0, Nat.zero_le _, rfl, by simp, by simp, Below.refl _ _⟩
    case round =>
      obtain ⟨k, hk, rfl, hv, rfl, hb⟩ := hrel
      have hfs := flat_size (l.take k) hv
      have htl : (l.take k).length = k := by rw [List.length_take]; omega
      have HV := veil hv
      have d2 : wr.cell? ⟨w.heap.size, 2, none⟩ = some (.slice x l.length cap) := by
        have := (Hm.out.1.below hb (by omega)).cell 2
        simpa using this
      have hszr := hb.size
      rw [htl] at hfs
      simp at hszr
      clear hv htl
      by_cases hlt : k < l.length
      · obtain ⟨bb, off, rfl, k0, k1, k2, k3, k4⟩ := (HX.out.below (hb.mono (by simp))) k hlt
        have i0 : (0 : Int) ≤ (k : Int) := by omega
        have i1 : (k : Int) < (l.length : Int) := by omega
        have htake : l.take (k + 1) = l.take k ++ [l[k]] := by rw [List.take_add_one, List.getElem?_eq_getElem hlt]; rfl
        have hvs : (l[k]).valid = true → (l[k]).path.size ≤ 140 ∧ (l[k]).key.size ≤ 3000 ∧ (l[k]).val.size ≤ 3000 ∧ (l[k]).old.size ≤ 3000 := fun h => (valid_sizes h).2.2
        have hcl := cbytes_length l[k]
        have HIN : Hid ((l[k]).valid = false → l.all CmdS.valid = false) := veil (fun h => by rw [List.all_eq_false]; exact ⟨l[k], List.getElem_mem hlt, by rw [h]; decide⟩)
        obtain ⟨N, hN⟩ : ∃ N, N = ((l.take k).flatMap CmdS.bytes).length := ⟨_, rfl⟩
        have Hnext : Hid (((l.take (k + 1)).flatMap CmdS.bytes).length = N + (9 + (l[k]).path.size + (l[k]).key.size + (l[k]).val.size + (l[k]).old.size)) := veil (by rw [htake, List.flatMap_append, List.flatMap_cons, List.flatMap_nil, List.append_nil, List.length_append, hN, hcl])
        have Htake := veil htake
        rw [← hN] at hfs ⊢
        clear hN htake hcl
        obtain ⟨d, hd⟩ : ∃ d, d = l[k] := ⟨_, rfl⟩
        rw [← hd] at k0 k1 k2 k3 k4 hvs HIN Hnext Htake
        have hval := valid_ref d (wr.alloc (.cells #[.int .i64 d.kind, .string d.path, .string d.key, .string d.val, .string d.old] 68))
        have ha2 := box_made wr 68 [.int .i64 d.kind, .string d.path, .string d.key, .string d.val, .string d.old]
        have hm2 := Lies.made wr 68 [.int .i64 d.kind, .string d.path, .string d.key, .string d.val, .string d.old]
        clear hd
        obtain ⟨kind, path, key, val, old⟩ := d
        simp only at k0 k1 k2 k3 k4 hvs Hnext hm2
        have e1 := hm2.cell 1
        have e2 := hm2.cell 2
        have e3 := hm2.cell 3
        have e4 := hm2.cell 4
        simp at e1 e2 e3 e4
        cases hvk : CmdS.valid ⟨kind, path, key, val, old⟩
        · rw [hvk] at hval
          have HF := veil (HIN.out hvk)
          clear hvk hvs
          go_wp2_with fail
          refine hval.mono ?_
          rintro e w1 ⟨rfl, hb1⟩
          have hbw := (hb.trans (ha2.mono (by omega))).trans (hb1.mono (by simp; omega))
          go_wp2
          go_ret
          exact ⟨ret_int (show (1 : Int) = _ by rw [HR.out, if_pos HF.out]), Hm.out.2.trans (hbw.mono (by omega))⟩
        · rw [hvk] at hval
          have hs := hvs hvk
          have HF := veil hvk
          obtain ⟨z1, z2, z3, z4⟩ := hs
          clear hvk hvs
          go_wp2_with fail
          refine hval.mono ?_
          rintro e w1 ⟨rfl, hb1⟩
          have hbw := (hb.trans (ha2.mono (by omega))).trans (hb1.mono (by simp; omega))
          have hm3 := hm2.below hb1 hm2.lt
          have r1 := hm3.cell 1
          have r2 := hm3.cell 2
          have r3 := hm3.cell 3
          have r4 := hm3.cell 4
          simp at r1 r2 r3 r4
          clear e1 e2 e3 e4
          go_wp2
          go_roundw
          case rel =>
            refine ⟨k + 1, by omega, by go_num, ?_, ?_, hbw⟩
            · rw [Htake.out]
              intro c hc
              rcases List.mem_append.1 hc with hc | hc
              · exact HV.out c hc
              · rw [List.mem_singleton.1 hc]; exact HF.out
            · rw [Hnext.out]
              congr 1
              omega
          case measure => simp [intOf]; omega
      · obtain rfl : k = l.length := by omega
        rw [List.take_length] at HV hfs ⊢
        have hall : l.all CmdS.valid = true := List.all_eq_true.2 HV.out
        have hbl : (ReqS.bytes ⟨c, q, l⟩).length = 17 + (l.flatMap CmdS.bytes).length := by unfold ReqS.bytes; rw [List.length_append, head_length]
        have HR2 : Hid (ReqS.check ⟨c, q, l⟩ = if 8000 < 17 + (l.flatMap CmdS.bytes).length then 2 else 0) := veil (by rw [HR.out, if_neg (by rw [hall]; decide), hbl])
        clear hall hbl
        obtain ⟨N, hN⟩ : ∃ N, N = (l.flatMap CmdS.bytes).length := ⟨_, rfl⟩
        rw [← hN] at HR2 hfs ⊢
        clear hN
        have hbw := Hm.out.2.trans (hb.mono (by omega))
        by_cases h8 : (8000 : Int) < ((17 + N : Nat) : Int)
        · go_wp2
          go_ret
          exact ⟨ret_int (show (2 : Int) = _ by rw [HR2.out, if_pos (by omega)]), hbw⟩
        · go_wp2
          go_ret
          exact ⟨ret_int (show (0 : Int) = _ by rw [HR2.out, if_neg (by omega)]), hbw⟩

theorem low8 (v : Nat) (w : World) (hv : v < 18446744073709551616) : Calls Tryz.prog 52 #[.int .u64 v, .int .i64 8] w (NamePost w (strS (lowBytes v 8))) := low_ref v 8 w hv (by decide)
theorem low4 (v : Nat) (w : World) (hv : v < 18446744073709551616) : Calls Tryz.prog 52 #[.int .u64 v, .int .i64 4] w (NamePost w (strS (lowBytes v 4))) := low_ref v 4 w hv (by decide)
theorem low2 (v : Nat) (w : World) (hv : v < 18446744073709551616) : Calls Tryz.prog 52 #[.int .u64 v, .int .i64 2] w (NamePost w (strS (lowBytes v 2))) := low_ref v 2 w hv (by decide)
theorem low1 (v : Nat) (w : World) (hv : v < 18446744073709551616) : Calls Tryz.prog 52 #[.int .u64 v, .int .i64 1] w (NamePost w (strS (lowBytes v 1))) := low_ref v 1 w hv (by decide)
theorem strS_append (a b : List UInt8) : strS a ++ strS b = strS (a ++ b) := by
  apply bytes_ext
  rw [ByteArray.data_append]
  simp

set_option maxHeartbeats 1000000 in
set_option maxRecDepth 100000 in
theorem lay_ref (c q : Int) (x : Option Addr) (l : List CmdS) (cap : Nat) (w : World) (hx : CmdsAt w x l) :
    Calls Tryz.prog 16 #[reqV c q x l.length cap] w (StrPost w (ReqS.laid ⟨c, q, l⟩) (ReqS.check ⟨c, q, l⟩)) := by
  have hm := Lies.made w 24 [.int .i64 c, .int .i64 q, .slice x l.length cap]
  have ha := box_made w 24 [.int .i64 c, .int .i64 q, .slice x l.length cap]
  have c0 := hm.cell 0
  have c1 := hm.cell 1
  have c2 := hm.cell 2
  have hcheck := check_ref c q x l cap _ (hx.below ha)
  have Hx := veil hx
  simp at c0 c1 c2
  obtain ⟨k, hk⟩ : ∃ k, k = ReqS.check ⟨c, q, l⟩ := ⟨_, rfl⟩
  unfold ReqS.laid
  rw [← hk] at hcheck ⊢
  by_cases h0 : k = 0
  · obtain ⟨p1, p2, p3, p4, p5, p6, p7, p8⟩ := check_zero (r := ⟨c, q, l⟩) (by rw [← hk]; exact h0)
    simp only at p1 p2 p3 p4 p5 p6 p7
    obtain ⟨cn, rfl⟩ : ∃ cn : Nat, c = cn := ⟨c.toNat, by omega⟩
    obtain ⟨qn, rfl⟩ : ∃ qn : Nat, q = qn := ⟨q.toNat, by omega⟩
    rw [if_pos h0]
    subst h0
    have HV := veil p7
    have hw1 : IntKind.u64.wrap (cn : Int) = (cn : Int) := by rw [IntKind.wrap_u64]; omega
    have hw2 : IntKind.u64.wrap (qn : Int) = (qn : Int) := by rw [IntKind.wrap_u64]; omega
    have hw3 : IntKind.u64.wrap (l.length : Int) = (l.length : Int) := by rw [IntKind.wrap_u64]; omega
    have z1 : ¬ 9223372036854775807 < (lowBytes cn 8).length + (lowBytes qn 8).length := by simp only [lowBytes_length]; omega
    have z2 : ¬ 9223372036854775807 < (lowBytes cn 8).length + (lowBytes qn 8).length + (lowBytes l.length 1).length := by simp only [lowBytes_length]; omega
    clear hk hx p7 p8
    go_enter Tryz.func16, Tryz.ntmps16
    go_wp2_with fail
    refine hcheck.mono ?_
    rintro e w1 ⟨rfl, hb1⟩
    have hb2 := ha.trans (hb1.mono ha.size)
    have hm1 := hm.below hb1 hm.lt
    have hl1 := hm1.lt
    have hs1 := hb2.size
    clear c0 c1 c2 ha hcheck hm hb1
    go_wp2_with fail
    go_region_held3 (fun w' => w'.cell? ⟨w.heap.size, 0, none⟩ = some (.int .i64 cn) ∧ w'.cell? ⟨w.heap.size, 1, none⟩ = some (.int .i64 qn) ∧ w'.cell? ⟨w.heap.size, 2, none⟩ = some (.slice x l.length cap))
      (first
        | exact ⟨(hm1.below hbx hl1).cell 0, (hm1.below hbx hl1).cell 1, (hm1.below hbx hl1).cell 2⟩
        | exact ⟨hm1.cell 0, hm1.cell 1, hm1.cell 2⟩)
      (first
        | (go_at_call 52; ((with_reducible refine (low8 _ _ (by omega)).mono ?_)); rintro e w2 ⟨rfl, hb3⟩; have hbx : Below w1.heap.size w1 w2 := Below.trans (by first | exact hbx | exact (Below.refl _ _).drew) (hb3.mono (by first | exact hbx.size | exact Nat.le_refl _)))
        | (go_at_call 52; ((with_reducible refine (low1 _ _ (by omega)).mono ?_)); rintro e w2 ⟨rfl, hb3⟩; have hbx : Below w1.heap.size w1 w2 := Below.trans (by first | exact hbx | exact (Below.refl _ _).drew) (hb3.mono (by first | exact hbx.size | exact Nat.le_refl _))))
    have hm2 := hm1.below hbx hl1
    have hl2 := hm2.lt
    have hbw := hb2.trans (hbx.mono hs1)
    have hHD : strS (lowBytes cn 8) ++ strS (lowBytes qn 8) ++ strS (lowBytes l.length 1) = strS (ReqS.head ⟨cn, qn, l⟩) := by rw [strS_append, strS_append]; rfl
    rw [hHD]
    have hhd := head_length ⟨cn, qn, l⟩
    obtain ⟨HD, hH⟩ : ∃ HD, HD = ReqS.head ⟨cn, qn, l⟩ := ⟨_, rfl⟩
    have Hend : Hid (ReqS.bytes ⟨cn, qn, l⟩ = HD ++ l.flatMap CmdS.bytes) := veil (by rw [hH]; rfl)
    rw [← hH] at hhd ⊢
    clear hHD hH z1 z2 hm1 hl1 hb2 hbx
    go_wp2_with fail
    go_loopw [5, 6] (fun s i wr => ∃ k : Nat, k ≤ l.length ∧ i = .int .i64 k ∧ s = .string (strS (HD ++ (l.take k).flatMap CmdS.bytes)) ∧ Below w2.heap.size w2 wr) (fun _ i _ => l.length - (intOf i).toNat)
    case atStart => exact ⟨0, Nat.zero_le _, rfl, by simp, Below.refl _ _⟩
    case round =>
      obtain ⟨k, hk, rfl, rfl, hbr⟩ := hrel
      have d2 := (hm2.below hbr hl2).cell 2
      have hszr := hbr.size
      simp at d2
      by_cases hlt : k < l.length
      · obtain ⟨bb, off, rfl, k0, k1, k2, k3, k4⟩ := (Hx.out.below (hbw.trans (hbr.mono hbw.size))) k hlt
        have hval := HV.out l[k] (List.getElem_mem hlt)
        have hflat := flat_size (l.take k) (fun c hc => HV.out c (List.mem_of_mem_take hc))
        have htk : (l.take k).length ≤ 6 := by rw [List.length_take]; omega
        have htake : l.take (k + 1) = l.take k ++ [l[k]] := by rw [List.take_add_one, List.getElem?_eq_getElem hlt]; rfl
        have Hres : Hid (HD ++ (l.take (k + 1)).flatMap CmdS.bytes = HD ++ (l.take k).flatMap CmdS.bytes ++ lowBytes (l[k]).kind.toNat 1 ++ textBytes (l[k]).path.data.toList ++ textBytes (l[k]).key.data.toList ++ textBytes (l[k]).val.data.toList ++ textBytes (l[k]).old.data.toList) := by
          refine veil ?_
          rw [htake, List.flatMap_append, List.flatMap_cons, List.flatMap_nil, List.append_nil]
          unfold CmdS.bytes
          simp only [List.append_assoc]
        obtain ⟨pre, hpre⟩ : ∃ pre, pre = HD ++ (l.take k).flatMap CmdS.bytes := ⟨_, rfl⟩
        have hprel : pre.length ≤ 60000 := by rw [hpre, List.length_append]; omega
        rw [← hpre] at Hres ⊢
        clear hpre hflat htake htk
        obtain ⟨d, hd⟩ : ∃ d, d = l[k] := ⟨_, rfl⟩
        rw [← hd] at k0 k1 k2 k3 k4 hval Hres
        clear hd
        obtain ⟨kind, path, key, val, old⟩ := d
        obtain ⟨v1, v2, v3, v4, v5, v6⟩ := valid_sizes hval
        simp only at k0 k1 k2 k3 k4 Hres v1 v2 v3 v4 v5 v6
        obtain ⟨kn, rfl⟩ : ∃ kn : Nat, kind = kn := ⟨kind.toNat, by omega⟩
        have i0 : (0 : Int) ≤ (k : Int) := by omega
        have i1 : (k : Int) < (l.length : Int) := by omega
        have hw4 : IntKind.u64.wrap (kn : Int) = (kn : Int) := by rw [IntKind.wrap_u64]; omega
        have e1 : path.data.toList.length = path.size := Array.length_toList
        have e2 : key.data.toList.length = key.size := Array.length_toList
        have e3 : val.data.toList.length = val.size := Array.length_toList
        have e4 : old.data.toList.length = old.size := Array.length_toList
        have z1 : ¬ 9223372036854775807 < pre.length + (lowBytes kn 1).length := by simp only [lowBytes_length]; omega
        have z2 : ¬ 9223372036854775807 < pre.length + (lowBytes kn 1).length + (textBytes path.data.toList).length := by simp only [lowBytes_length, textBytes_length]; omega
        have z3 : ¬ 9223372036854775807 < pre.length + (lowBytes kn 1).length + (textBytes path.data.toList).length + (textBytes key.data.toList).length := by simp only [lowBytes_length, textBytes_length]; omega
        have z4 : ¬ 9223372036854775807 < pre.length + (lowBytes kn 1).length + (textBytes path.data.toList).length + (textBytes key.data.toList).length + (textBytes val.data.toList).length := by simp only [lowBytes_length, textBytes_length]; omega
        have z5 : ¬ 9223372036854775807 < pre.length + (lowBytes kn 1).length + (textBytes path.data.toList).length + (textBytes key.data.toList).length + (textBytes val.data.toList).length + (textBytes old.data.toList).length := by simp only [lowBytes_length, textBytes_length]; omega
        have hcm := Lies.made wr 68 [.int .i64 kn, .string path, .string key, .string val, .string old]
        have hba := box_made wr 68 [.int .i64 kn, .string path, .string key, .string val, .string old]
        obtain ⟨W, hW⟩ : ∃ W, W = wr.alloc (.cells #[.int .i64 kn, .string path, .string key, .string val, .string old] 68) := ⟨_, rfl⟩
        rw [← hW] at hcm hba
        have hlc := hcm.lt
        clear e1 e2 e3 e4 hval
        go_wp2_with fail
        rw [← hW]
        clear hW
        go_region_held3 (fun w' => w'.cell? ⟨wr.heap.size, 0, none⟩ = some (.int .i64 kn) ∧ w'.cell? ⟨wr.heap.size, 1, none⟩ = some (.string path) ∧ w'.cell? ⟨wr.heap.size, 2, none⟩ = some (.string key) ∧ w'.cell? ⟨wr.heap.size, 3, none⟩ = some (.string val) ∧ w'.cell? ⟨wr.heap.size, 4, none⟩ = some (.string old))
          (first
            | exact ⟨(hcm.below hbx hlc).cell 0, (hcm.below hbx hlc).cell 1, (hcm.below hbx hlc).cell 2, (hcm.below hbx hlc).cell 3, (hcm.below hbx hlc).cell 4⟩
            | exact ⟨hcm.cell 0, hcm.cell 1, hcm.cell 2, hcm.cell 3, hcm.cell 4⟩)
          (first
            | (go_at_call 52; ((with_reducible refine (low1 _ _ (by omega)).mono ?_)); rintro e w2 ⟨rfl, hb3⟩; have hbx : Below W.heap.size W w2 := Below.trans (by first | exact hbx | exact (Below.refl _ _).drew) (hb3.mono (by first | exact hbx.size | exact Nat.le_refl _)))
            | (go_at_call 53; ((with_reducible refine (text_ref19 _ _ (by omega)).mono ?_)); rintro e w2 ⟨rfl, hb3⟩; have hbx : Below W.heap.size W w2 := Below.trans (by first | exact hbx | exact (Below.refl _ _).drew) (hb3.mono (by first | exact hbx.size | exact Nat.le_refl _))))
        all_goals (
          have hbr2 := (hbr.trans (hba.mono hszr)).trans (hbx.mono (by have := hba.size; omega))
          have hfin : strS pre ++ strS (lowBytes kn 1) ++ strS (textBytes path.data.toList) ++ strS (textBytes key.data.toList) ++ strS (textBytes val.data.toList) ++ strS (textBytes old.data.toList) = strS (pre ++ lowBytes kn 1 ++ textBytes path.data.toList ++ textBytes key.data.toList ++ textBytes val.data.toList ++ textBytes old.data.toList) := by simp only [strS_append]
          rw [hfin]
          clear hfin
          go_wp2
          go_roundw
          case rel =>
            refine ⟨k + 1, by omega, by go_num, ?_, hbr2⟩
            rw [Hres.out]
            rfl
          case measure => simp [intOf]; omega)
      · obtain rfl : k = l.length := by omega
        rw [List.take_length]
        have hbz := hbw.trans (hbr.mono hbw.size)
        go_wp2
        go_ret2
        rw [Hend.out]
        exact ⟨rfl, hbz⟩
  · rw [if_neg h0]
    have hk0 : (k != 0) = true := by simpa using h0
    clear hk hx
    go_enter Tryz.func16, Tryz.ntmps16
    go_wp2_with fail
    refine hcheck.mono ?_
    rintro e w1 ⟨rfl, hb1⟩
    have hb2 := ha.trans (hb1.mono ha.size)
    go_wp2
    go_ret2
    exact ⟨rfl, hb2⟩

theorem check_inv {i t c q : Int} {l : List CmdS} (h : EntS.check ⟨i, t, c, q, l⟩ = 0) : 0 ≤ i ∧ i ≤ 2147483647 ∧ 0 ≤ t ∧ t ≤ 2147483647 ∧ ReqS.check ⟨c, q, l⟩ = 0 := by
  unfold EntS.check at h
  split at h
  · cases h
  · rename_i h1
    simp only at h1
    exact ⟨by omega, by omega, by omega, by omega, h⟩

set_option maxHeartbeats 1000000 in
set_option maxRecDepth 100000 in
theorem entry_ref (i t c q : Int) (x : Option Addr) (l : List CmdS) (cap : Nat) (w : World) (hx : CmdsAt w x l) :
    Calls Tryz.prog 17 #[entV i t c q x l.length cap] w (StrPost w (EntS.laid ⟨i, t, c, q, l⟩) (EntS.check ⟨i, t, c, q, l⟩)) := by
  have hm := Lies.made w 31 [.int .i64 i, .int .i64 t, .int .i64 c, .int .i64 q, .slice x l.length cap]
  have ha := box_made w 31 [.int .i64 i, .int .i64 t, .int .i64 c, .int .i64 q, .slice x l.length cap]
  have c0 := hm.cell 0
  have c1 := hm.cell 1
  have c2 := hm.cell 2
  have c3 := hm.cell 3
  have c4 := hm.cell 4
  have hlay := lay_ref c q x l cap _ (hx.below ha)
  simp at c0 c1 c2 c3 c4
  clear hx
  have hcase : (EntS.check ⟨i, t, c, q, l⟩ = 1 ∧ (i < 0 ∨ (¬ i < 0 ∧ 2147483648 ≤ i) ∨ (¬ i < 0 ∧ ¬ 2147483648 ≤ i ∧ t < 0) ∨ (¬ i < 0 ∧ ¬ 2147483648 ≤ i ∧ ¬ t < 0 ∧ 2147483648 ≤ t))) ∨ (EntS.check ⟨i, t, c, q, l⟩ = ReqS.check ⟨c, q, l⟩ ∧ ¬ i < 0 ∧ ¬ 2147483648 ≤ i ∧ ¬ t < 0 ∧ ¬ 2147483648 ≤ t) := by
    unfold EntS.check
    simp only
    by_cases h1 : i < 0 ∨ 2147483647 < i ∨ t < 0 ∨ 2147483647 < t
    · rw [if_pos h1]; left; refine ⟨rfl, by omega⟩
    · rw [if_neg h1]; right; refine ⟨rfl, by omega⟩
  unfold EntS.laid
  rcases hcase with ⟨hr, hk⟩ | ⟨hr, h1, h2, h3, h4⟩
  · rw [hr, if_neg (by decide)]
    clear hr hlay
    rcases hk with h1 | ⟨h1, h2⟩ | ⟨h1, h2, h3⟩ | ⟨h1, h2, h3, h4⟩
    all_goals (
      go_enter Tryz.func17, Tryz.ntmps17
      go_wp2
      go_ret2
      exact ⟨rfl, ha⟩)
  · rw [hr]
    obtain ⟨k, hk⟩ : ∃ k, k = ReqS.check ⟨c, q, l⟩ := ⟨_, rfl⟩
    have hbb : EntS.bytes ⟨i, t, c, q, l⟩ = lowBytes i.toNat 4 ++ lowBytes t.toNat 4 ++ ReqS.bytes ⟨c, q, l⟩ := rfl
    have Hlaid : Hid (ReqS.laid ⟨c, q, l⟩ = if k = 0 then strS (ReqS.bytes ⟨c, q, l⟩) else ⟨#[]⟩) := veil (by unfold ReqS.laid; rw [← hk])
    have Hbd : Hid (k = 0 → (ReqS.bytes ⟨c, q, l⟩).length ≤ 8000) := veil (fun h => (check_zero (r := ⟨c, q, l⟩) (by rw [← hk]; exact h)).2.2.2.2.2.2.2)
    obtain ⟨bs, hbs⟩ : ∃ bs, bs = ReqS.bytes ⟨c, q, l⟩ := ⟨_, rfl⟩
    rw [hbb]
    rw [← hk] at hlay ⊢
    rw [← hbs] at Hlaid Hbd ⊢
    rw [Hlaid.out] at hlay
    clear hr hk hbb hbs Hlaid
    obtain ⟨ni, rfl⟩ : ∃ n : Nat, i = n := ⟨i.toNat, by omega⟩
    obtain ⟨nt, rfl⟩ : ∃ n : Nat, t = n := ⟨t.toNat, by omega⟩
    by_cases h0 : k = 0
    · have hbl := Hbd.out h0
      subst h0
      rw [if_pos rfl] at hlay ⊢
      have hw1 : IntKind.u64.wrap (ni : Int) = (ni : Int) := by rw [IntKind.wrap_u64]; omega
      have hw2 : IntKind.u64.wrap (nt : Int) = (nt : Int) := by rw [IntKind.wrap_u64]; omega
      have z1 : ¬ 9223372036854775807 < (lowBytes ni 4).length + (lowBytes nt 4).length := by simp only [lowBytes_length]; omega
      have z2 : ¬ 9223372036854775807 < (lowBytes ni 4).length + (lowBytes nt 4).length + bs.length := by simp only [lowBytes_length]; omega
      go_enter Tryz.func17, Tryz.ntmps17
      go_wp2_with fail
      refine hlay.mono ?_
      rintro e w1 ⟨rfl, hb1⟩
      have hb2 := ha.trans (hb1.mono ha.size)
      have hm1 := hm.below hb1 hm.lt
      have hl1 := hm1.lt
      have hs1 := hb2.size
      clear c0 c1 c2 c3 c4 ha hlay hm hb1
      go_wp2_with fail
      go_region_held3 (fun w' => w'.cell? ⟨w.heap.size, 0, none⟩ = some (.int .i64 ni) ∧ w'.cell? ⟨w.heap.size, 1, none⟩ = some (.int .i64 nt))
        (first
          | exact ⟨(hm1.below hbx hl1).cell 0, (hm1.below hbx hl1).cell 1⟩
          | exact ⟨hm1.cell 0, hm1.cell 1⟩)
        (first
          | (go_at_call 52; ((with_reducible refine (low4 _ _ (by omega)).mono ?_)); rintro e w2 ⟨rfl, hb3⟩; have hbx : Below w1.heap.size w1 w2 := Below.trans (by first | exact hbx | exact (Below.refl _ _).drew) (hb3.mono (by first | exact hbx.size | exact Nat.le_refl _))))
      all_goals (
        have hbw := hb2.trans (hbx.mono hs1)
        have hfin : strS (lowBytes ni 4) ++ strS (lowBytes nt 4) ++ strS bs = strS (lowBytes (ni : Int).toNat 4 ++ lowBytes (nt : Int).toNat 4 ++ bs) := by simp only [strS_append, Int.toNat_natCast]
        rw [hfin]
        clear hfin
        go_wp2
        go_ret2
        exact ⟨rfl, hbw⟩)
    · rw [if_neg h0] at hlay ⊢
      have hk0 : (k != 0) = true := by simpa using h0
      clear Hbd h0
      go_enter Tryz.func17, Tryz.ntmps17
      go_wp2_with fail
      refine hlay.mono ?_
      rintro e w1 ⟨rfl, hb1⟩
      have hb2 := ha.trans (hb1.mono ha.size)
      go_wp2
      go_ret2
      exact ⟨rfl, hb2⟩
end Go.Proofs.YtjonmggkmalgaaaGreatDoor

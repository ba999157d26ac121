/-
  Replies as bytes: cmd.Replies and the document's Replies lay the same bytes.
-/
import Derived.Test.YtjonmggkmalgaaaGreatDoorW61RefCmd
namespace Go.Proofs.YtjonmggkmalgaaaGreatDoor
open Go.RowKit Go.Lib

/-- A reply. -/
structure RepS where
  err : Int
  val : ByteArray
abbrev RepS.cells (r : RepS) : List Value := [.int .i64 r.err, .string r.val]
abbrev RepS.value (r : RepS) : Value := .agg #[.int .i64 r.err, .string r.val]
def RepS.num (r : RepS) : Nat := if 0 ≤ r.err ∧ r.err ≤ 65535 then r.err.toNat else 65535
def RepS.text (r : RepS) : List UInt8 := r.val.data.toList.take 65535
def RepS.bytes (r : RepS) : List UInt8 := lowBytes r.num 2 ++ textBytes r.text
def repsBytes (l : List RepS) : List UInt8 := lowBytes (l.take 255).length 1 ++ (l.take 255).flatMap RepS.bytes

/-- The slice that begins at x holds these replies, two cells each. -/
def RepsAt (w : World) (x : Option Addr) (l : List RepS) : Prop := ∀ i (h : i < l.length), ∃ b off, x = some ⟨b, off, none⟩ ∧
  w.cell? ⟨b, off + i * 2, none⟩ = some (.int .i64 l[i].err) ∧ w.cell? ⟨b, off + i * 2 + 1, none⟩ = some (.string l[i].val)
theorem RepsAt.below {w w' : World} {x : Option Addr} {l : List RepS} (h : RepsAt w x l) (hb : Below w.heap.size w w') : RepsAt w' x l := by
  intro i hi
  obtain ⟨b, off, hx, h0, h1⟩ := h i hi
  have hlt := World.block_lt_of_cell? w _ h0
  have hc : ∀ j, w'.cell? ⟨b, j, none⟩ = w.cell? ⟨b, j, none⟩ := fun j => hb.cell hlt
  exact ⟨b, off, hx, (hc _).trans h0, (hc _).trans h1⟩

theorem RepS.text_length (r : RepS) : r.text.length ≤ 65535 := by unfold RepS.text; rw [List.length_take]; omega
theorem RepS.bytes_length (r : RepS) : r.bytes.length ≤ 65539 := by
  have := r.text_length
  unfold RepS.bytes
  rw [List.length_append, textBytes_length, lowBytes_length]
  omega
theorem flat_reps : ∀ l : List RepS, (l.flatMap RepS.bytes).length ≤ 65539 * l.length
  | [] => by simp
  | r :: l => by
    have h1 := flat_reps l
    have h2 := r.bytes_length
    rw [List.flatMap_cons, List.length_append, List.length_cons]
    omega
theorem RepS.num_lt (r : RepS) : r.num < 65536 := by unfold RepS.num; split <;> omega

def BytesPost (w : World) (s : ByteArray) (e : Ending) (w' : World) : Prop := e = .returned (.string s) ∧ Below w.heap.size w w'

set_option maxHeartbeats 1000000 in
set_option maxRecDepth 100000 in
theorem replies_any (x : Option Addr) (l : List RepS) (cap : Nat) (w : World) (hx : RepsAt w x l) (hcap : l.length ≤ cap) (hl : l.length ≤ 9223372036854775807) :
    Calls Tryz.prog 27 #[.slice x l.length cap] w (BytesPost w (strS (repsBytes l))) := by
  have hlen : (l.take 255).length = min l.length 255 := by rw [List.length_take]; omega
  have hx2 : RepsAt w x (l.take 255) := by
    intro i hi
    obtain ⟨b, off, h1, h2⟩ := hx i (by rw [List.length_take] at hi; omega)
    exact ⟨b, off, h1, by rw [List.getElem_take]; exact h2⟩
  unfold repsBytes
  obtain ⟨m, hm⟩ : ∃ m, m = l.take 255 := ⟨_, rfl⟩
  rw [← hm] at hx2 hlen ⊢
  have hml : m.length ≤ 255 := by omega
  have hmc : (m.length : Int) ≤ (cap : Int) := by omega
  have hm0 : (0 : Int) ≤ (m.length : Int) := by omega
  have hmn : min (l.length : Int) 255 = (m.length : Int) := by omega
  have hmx : max (m.length : Int) 0 = (m.length : Int) := by omega
  have HX := veil hx2
  clear hx hx2 hm hlen
  go_enter Tryz.func27, Tryz.ntmps27
  go_wp2_with fail
  refine (byte_ok _ _ m.length _ (put_new w) (by omega) (by simp)).mono ?_
  rintro e w1 ⟨rfl, hp1, hs1⟩
  have hbw1 : Below w.heap.size w w1 := ((Below.refl _ _).alloc (Nat.le_refl _) _).trans (hs1.below (by simp))
  have hp1' : PutAt w1 w.heap.size (lowBytes m.length 1) 0 := by simpa using hp1
  clear hp1 hs1
  go_wp2_with fail
  go_loopw [21] (fun i wr => ∃ k : Nat, k ≤ m.length ∧ i = .int .i64 k ∧ PutAt wr w.heap.size (lowBytes m.length 1 ++ (m.take k).flatMap RepS.bytes) 0 ∧ Below w.heap.size w wr) (fun i _ => m.length - (intOf i).toNat)
  case atStart => exact ⟨0, Nat.zero_le _, rfl, by simpa using hp1', hbw1⟩
  case round =>
    obtain ⟨k, hk, rfl, hp, hbr⟩ := hrel
    have hszr := hbr.size
    have hpl := hp.lt
    by_cases hlt : k < m.length
    · obtain ⟨bb, off, rfl, k0, k1⟩ := (HX.out.below hbr) k hlt
      have hflat := flat_reps (m.take k)
      have htk : (m.take k).length ≤ 255 := by rw [List.length_take]; omega
      have htake : m.take (k + 1) = m.take k ++ [m[k]] := by rw [List.take_add_one, List.getElem?_eq_getElem hlt]; rfl
      have Hres : Hid (lowBytes m.length 1 ++ (m.take (k + 1)).flatMap RepS.bytes = lowBytes m.length 1 ++ (m.take k).flatMap RepS.bytes ++ lowBytes (m[k]).num 2 ++ textBytes (m[k]).text) := by
        refine veil ?_
        rw [htake, List.flatMap_append, List.flatMap_cons, List.flatMap_nil, List.append_nil]
        unfold RepS.bytes
        simp only [List.append_assoc]
      obtain ⟨pre, hpre⟩ : ∃ pre, pre = lowBytes m.length 1 ++ (m.take k).flatMap RepS.bytes := ⟨_, rfl⟩
      have hprel : pre.length ≤ 20000000 := by rw [hpre, List.length_append, lowBytes_length]; omega
      rw [← hpre] at hp Hres
      obtain ⟨d, hd⟩ : ∃ d, d = m[k] := ⟨_, rfl⟩
      rw [← hd] at k0 k1 Hres
      have hnum : (d.err < 0 ∧ d.num = 65535) ∨ (¬ d.err < 0 ∧ 65535 < d.err ∧ d.num = 65535) ∨ (¬ d.err < 0 ∧ ¬ 65535 < d.err ∧ (d.num : Int) = d.err) := by unfold RepS.num; split <;> omega
      have hnl := d.num_lt
      have htl := d.text_length
      have hxt : d.val.extract 0 (min d.val.size 65535) = strS d.text := by
        apply bytes_ext
        unfold RepS.text
        simp only [ByteArray.data_extract, Array.toList_extract, List.extract_eq_take_drop, List.drop_zero, Nat.sub_zero]
        rw [show d.val.size = d.val.data.toList.length from Array.length_toList.symm, Nat.min_comm, ← List.take_eq_take_min]
      have hx0 : (0 : Int) ≤ min (d.val.size : Int) 65535 := by omega
      have hx1 : min (d.val.size : Int) 65535 ≤ (d.val.size : Int) := by omega
      have hxn : (min (d.val.size : Int) 65535).toNat = min d.val.size 65535 := by omega
      obtain ⟨err, val⟩ := d
      simp only at k0 k1 hnum hxt hx0 hx1 hxn
      obtain ⟨num, hN⟩ : ∃ num, num = RepS.num ⟨err, val⟩ := ⟨_, rfl⟩
      obtain ⟨txt, hT⟩ : ∃ txt, txt = RepS.text ⟨err, val⟩ := ⟨_, rfl⟩
      rw [← hN] at Hres hnum hnl
      rw [← hT] at Hres hxt htl
      have i0 : (0 : Int) ≤ (k : Int) := by omega
      have i1 : (k : Int) < (m.length : Int) := by omega
      have hcm := Lies.made wr 42 [.int .i64 err, .string val]
      have hba := box_made wr 42 [.int .i64 err, .string val]
      have hp0 := hp.below hba
      clear hpre hflat htake htk hd hN hT
      rcases hnum with ⟨n1, rfl⟩ | ⟨n1, n2, rfl⟩ | ⟨n1, n2, rfl⟩
      · go_wp2_with fail
        go_region_held3 (fun w' => w'.cell? ⟨wr.heap.size, 1, none⟩ = some (.string val))
          (first
            | exact hm2.cell 1
            | exact hm1.cell 1
            | exact hcm.cell 1)
          (first
            | (go_at_call 64; refine (half_ok _ _ 65535 _ hp0.drew (by omega) (by omega)).mono ?_; rintro e v1 ⟨rfl, hp1, hs1⟩; have hm1 := hs1.lies hcm.drew (by omega) (by decide))
            | (go_at_call 65; refine (text_ok _ _ (strS txt) _ hp1 (by rw [strS_size]; omega) (by simp only [List.length_append, lowBytes_length]; omega)).mono ?_; rintro e v2 ⟨rfl, hp2, hs2⟩; have hm2 := hs2.lies hm1 (by omega) (by decide)))
        all_goals (
          have hsp := hs1.trans hs2
          have hbr2 : Below w.heap.size w v2 := (hbr.trans (hba.mono hszr)).drew.trans ((hsp.below (by show w.heap.size ≤ (wr.alloc _).heap.size; simp; omega)).mono (by omega))
          have Hp2 := veil hp2
          clear hm1 hm2 hp1 hp2 hs1 hs2 hsp
          go_wp2
          go_roundw
          case rel =>
            refine ⟨k + 1, by omega, by go_num, ?_, hbr2⟩
            rw [Hres.out]
            exact Hp2.out
          case measure => simp [intOf]; omega)
      · go_wp2_with fail
        go_region_held3 (fun w' => w'.cell? ⟨wr.heap.size, 1, none⟩ = some (.string val))
          (first
            | exact hm2.cell 1
            | exact hm1.cell 1
            | exact hcm.cell 1)
          (first
            | (go_at_call 64; refine (half_ok _ _ 65535 _ hp0.drew (by omega) (by omega)).mono ?_; rintro e v1 ⟨rfl, hp1, hs1⟩; have hm1 := hs1.lies hcm.drew (by omega) (by decide))
            | (go_at_call 65; refine (text_ok _ _ (strS txt) _ hp1 (by rw [strS_size]; omega) (by simp only [List.length_append, lowBytes_length]; omega)).mono ?_; rintro e v2 ⟨rfl, hp2, hs2⟩; have hm2 := hs2.lies hm1 (by omega) (by decide)))
        all_goals (
          have hsp := hs1.trans hs2
          have hbr2 : Below w.heap.size w v2 := (hbr.trans (hba.mono hszr)).drew.trans ((hsp.below (by show w.heap.size ≤ (wr.alloc _).heap.size; simp; omega)).mono (by omega))
          have Hp2 := veil hp2
          clear hm1 hm2 hp1 hp2 hs1 hs2 hsp
          go_wp2
          go_roundw
          case rel =>
            refine ⟨k + 1, by omega, by go_num, ?_, hbr2⟩
            rw [Hres.out]
            exact Hp2.out
          case measure => simp [intOf]; omega)
      · go_wp2_with fail
        go_region_held3 (fun w' => w'.cell? ⟨wr.heap.size, 1, none⟩ = some (.string val))
          (first
            | exact hm2.cell 1
            | exact hm1.cell 1
            | exact hcm.cell 1)
          (first
            | (go_at_call 64; refine (half_ok _ _ num _ hp0.drew (by omega) (by omega)).mono ?_; rintro e v1 ⟨rfl, hp1, hs1⟩; have hm1 := hs1.lies hcm.drew (by omega) (by decide))
            | (go_at_call 65; refine (text_ok _ _ (strS txt) _ hp1 (by rw [strS_size]; omega) (by simp only [List.length_append, lowBytes_length]; omega)).mono ?_; rintro e v2 ⟨rfl, hp2, hs2⟩; have hm2 := hs2.lies hm1 (by omega) (by decide)))
        all_goals (
          have hsp := hs1.trans hs2
          have hbr2 : Below w.heap.size w v2 := (hbr.trans (hba.mono hszr)).drew.trans ((hsp.below (by show w.heap.size ≤ (wr.alloc _).heap.size; simp; omega)).mono (by omega))
          have Hp2 := veil hp2
          clear hm1 hm2 hp1 hp2 hs1 hs2 hsp
          go_wp2
          go_roundw
          case rel =>
            refine ⟨k + 1, by omega, by go_num, ?_, hbr2⟩
            rw [Hres.out]
            exact Hp2.out
          case measure => simp [intOf]; omega)
    · obtain rfl : k = m.length := by omega
      rw [List.take_length] at hp
      go_wp2_with fail
      refine (end_ok w.heap.size _ _ hp).mono ?_
      rintro e w6 ⟨rfl, rfl⟩
      go_wp2
      go_ret
      exact ⟨rfl, hbr⟩

set_option maxHeartbeats 1000000 in
set_option maxRecDepth 100000 in
theorem replies_ref (x : Option Addr) (l : List RepS) (cap : Nat) (w : World) (hx : RepsAt w x l) (hcap : l.length ≤ cap) (hl : l.length ≤ 9223372036854775807) (hr : ∀ r ∈ l, -9223372036854775808 ≤ r.err ∧ r.err ≤ 9223372036854775807) :
    Calls Tryz.prog 28 #[.slice x l.length cap] w (BytesPost w (strS (repsBytes l))) := by
  have hlen : (l.take 255).length = min l.length 255 := by rw [List.length_take]; omega
  have hx2 : RepsAt w x (l.take 255) := by
    intro i hi
    obtain ⟨b, off, h1, h2⟩ := hx i (by rw [List.length_take] at hi; omega)
    exact ⟨b, off, h1, by rw [List.getElem_take]; exact h2⟩
  have hr2 : ∀ r ∈ l.take 255, -9223372036854775808 ≤ r.err ∧ r.err ≤ 9223372036854775807 := fun r h => hr r (List.mem_of_mem_take h)
  unfold repsBytes
  obtain ⟨m, hm⟩ : ∃ m, m = l.take 255 := ⟨_, rfl⟩
  rw [← hm] at hx2 hlen hr2 ⊢
  have hml : m.length ≤ 255 := by omega
  have hmc : (m.length : Int) ≤ (cap : Int) := by omega
  have hm0 : (0 : Int) ≤ (m.length : Int) := by omega
  have hmn : min (l.length : Int) 255 = (m.length : Int) := by omega
  have hmx : max (m.length : Int) 0 = (m.length : Int) := by omega
  have hwu : IntKind.u64.wrap (m.length : Int) = (m.length : Int) := by rw [IntKind.wrap_u64]; omega
  have HX := veil hx2
  have HR := veil hr2
  clear hx hx2 hm hlen hr hr2
  go_enter Tryz.func28, Tryz.ntmps28
  go_wp2_with fail
  refine (low1 m.length _ (by omega)).mono ?_
  rintro e w1 ⟨rfl, hbw1⟩
  go_wp2_with fail
  go_loopw [3, 4] (fun s i wr => ∃ k : Nat, k ≤ m.length ∧ i = .int .i64 k ∧ s = .string (strS (lowBytes m.length 1 ++ (m.take k).flatMap RepS.bytes)) ∧ Below w.heap.size w wr) (fun _ i _ => m.length - (intOf i).toNat)
  case atStart => exact ⟨0, Nat.zero_le _, rfl, by simp, hbw1⟩
  case round =>
    obtain ⟨k, hk, rfl, rfl, hbr⟩ := hrel
    have hszr := hbr.size
    by_cases hlt : k < m.length
    · obtain ⟨bb, off, rfl, k0, k1⟩ := (HX.out.below hbr) k hlt
      obtain ⟨hr0, hr1⟩ := HR.out m[k] (List.getElem_mem hlt)
      have hlb := World.block_lt_of_cell? wr _ k1
      have hflat := flat_reps (m.take k)
      have htk : (m.take k).length ≤ 255 := by rw [List.length_take]; omega
      have htake : m.take (k + 1) = m.take k ++ [m[k]] := by rw [List.take_add_one, List.getElem?_eq_getElem hlt]; rfl
      have Hres : Hid (lowBytes m.length 1 ++ (m.take (k + 1)).flatMap RepS.bytes = lowBytes m.length 1 ++ (m.take k).flatMap RepS.bytes ++ lowBytes (m[k]).num 2 ++ textBytes (m[k]).text) := by
        refine veil ?_
        rw [htake, List.flatMap_append, List.flatMap_cons, List.flatMap_nil, List.append_nil]
        unfold RepS.bytes
        simp only [List.append_assoc]
      obtain ⟨pre, hpre⟩ : ∃ pre, pre = lowBytes m.length 1 ++ (m.take k).flatMap RepS.bytes := ⟨_, rfl⟩
      have hprel : pre.length ≤ 20000000 := by rw [hpre, List.length_append, lowBytes_length]; omega
      rw [← hpre] at Hres ⊢
      obtain ⟨d, hd⟩ : ∃ d, d = m[k] := ⟨_, rfl⟩
      rw [← hd] at k0 k1 Hres hr0 hr1
      have hnum : (¬ (0 ≤ d.err ∧ d.err < 65536) ∧ d.num = 65535) ∨ ((0 ≤ d.err ∧ d.err < 65536) ∧ (d.num : Int) = d.err) := by unfold RepS.num; split <;> omega
      have hnl := d.num_lt
      have htl := d.text_length
      have hxt : d.val.extract 0 (min d.val.size 65535) = strS d.text := by
        apply bytes_ext
        unfold RepS.text
        simp only [ByteArray.data_extract, Array.toList_extract, List.extract_eq_take_drop, List.drop_zero, Nat.sub_zero]
        rw [show d.val.size = d.val.data.toList.length from Array.length_toList.symm, Nat.min_comm, ← List.take_eq_take_min]
      have hx0 : (0 : Int) ≤ min (d.val.size : Int) 65535 := by omega
      have hx1 : min (d.val.size : Int) 65535 ≤ (d.val.size : Int) := by omega
      have hxn : (min (d.val.size : Int) 65535).toNat = min d.val.size 65535 := by omega
      obtain ⟨err, val⟩ := d
      simp only at k0 k1 hnum hxt hx0 hx1 hxn hr0 hr1
      obtain ⟨num, hN⟩ : ∃ num, num = RepS.num ⟨err, val⟩ := ⟨_, rfl⟩
      obtain ⟨txt, hT⟩ : ∃ txt, txt = RepS.text ⟨err, val⟩ := ⟨_, rfl⟩
      rw [← hN] at Hres hnum hnl
      rw [← hT] at Hres hxt htl
      have hts : (strS txt).size ≤ 65535 := by rw [strS_size]; exact htl
      have htb : (strS txt).data.toList.length ≤ 65535 := by rw [strS_list]; exact htl
      have i0 : (0 : Int) ≤ (k : Int) := by omega
      have i1 : (k : Int) < (m.length : Int) := by omega
      have z1 : ¬ 9223372036854775807 < pre.length + (lowBytes num 2).length := by simp only [lowBytes_length]; omega
      have z2 : ¬ 9223372036854775807 < pre.length + (lowBytes num 2).length + (textBytes txt).length := by simp only [lowBytes_length, textBytes_length]; omega
      clear hpre hflat htake htk hd hN hT
      rcases hnum with ⟨hn, rfl⟩ | ⟨hn, rfl⟩
      · go_wp2_with fail
        refine (fit_ref _ _ hr0 hr1).mono ?_
        rintro e w3 ⟨rfl, hb3⟩
        rw [if_neg hn]
        have k1 := (hb3.cell hlb).trans k1
        have hbr := hbr.trans (hb3.mono hszr)
        have hszr := hbr.size
        have hlb := Nat.lt_of_lt_of_le hlb hb3.size
        go_wp2_with fail
        refine (low2 65535 _ (by omega)).mono ?_
        rintro e w4 ⟨rfl, hb4⟩
        have k1 := (hb4.cell hlb).trans k1
        have hbr := hbr.trans (hb4.mono hszr)
        have hszr := hbr.size
        have hlb := Nat.lt_of_lt_of_le hlb hb4.size
        go_wp2_with fail
        go_region_held3 (fun w' => w'.cell? ⟨bb, off + k * 2 + 1, none⟩ = some (.string val))
          (first
            | exact (hbx.cell hlb).trans k1
            | exact k1)
          (first
            | (go_at_call 53; ((with_reducible refine (text_ref19 _ _ hts).mono ?_)); rintro e w5 ⟨rfl, hb5⟩; have hbx : Below w4.heap.size w4 w5 := Below.trans (by first | exact hbx | exact (Below.refl _ _).drew) (hb5.mono (by first | exact hbx.size | exact Nat.le_refl _))))
        all_goals (
          have hbr2 := hbr.trans (hbx.mono hszr)
          have hfin : strS pre ++ strS (lowBytes 65535 2) ++ strS (textBytes (strS txt).data.toList) = strS (pre ++ lowBytes 65535 2 ++ textBytes txt) := by simp only [strS_append]
          rw [hfin]
          clear hfin
          go_wp2
          go_roundw
          case rel =>
            refine ⟨k + 1, by omega, by go_num, ?_, hbr2⟩
            rw [Hres.out]
          case measure => simp [intOf]; omega)
      · have hfit : ∀ W, Calls Tryz.prog 66 #[.int .i64 (num : Int), .int .i64 2] W (fun e w' => e = .returned (.tuple #[.string (strS (lowBytes num 2)), .bool true]) ∧ Below W.heap.size W w') := fun W => (fit_ref (num : Int) W hr0 hr1).mono (fun e w' h => by rw [if_pos hn, Int.toNat_natCast] at h; exact h)
        have Hfit := veil hfit
        clear hfit hn hr0 hr1
        go_wp2_with fail
        refine (Hfit.out _).mono ?_
        rintro e w3 ⟨rfl, hb3⟩
        have k1 := (hb3.cell hlb).trans k1
        have hbr := hbr.trans (hb3.mono hszr)
        have hszr := hbr.size
        have hlb := Nat.lt_of_lt_of_le hlb hb3.size
        go_wp2_with fail
        go_region_held3 (fun w' => w'.cell? ⟨bb, off + k * 2 + 1, none⟩ = some (.string val))
          (first
            | exact (hbx.cell hlb).trans k1
            | exact k1)
          (first
            | (go_at_call 53; ((with_reducible refine (text_ref19 _ _ hts).mono ?_)); rintro e w5 ⟨rfl, hb5⟩; have hbx : Below w3.heap.size w3 w5 := Below.trans (by first | exact hbx | exact (Below.refl _ _).drew) (hb5.mono (by first | exact hbx.size | exact Nat.le_refl _))))
        all_goals (
          have hbr2 := hbr.trans (hbx.mono hszr)
          have hfin : strS pre ++ strS (lowBytes num 2) ++ strS (textBytes (strS txt).data.toList) = strS (pre ++ lowBytes num 2 ++ textBytes txt) := by simp only [strS_append]
          rw [hfin]
          clear hfin
          go_wp2
          go_roundw
          case rel =>
            refine ⟨k + 1, by omega, by go_num, ?_, hbr2⟩
            rw [Hres.out]
          case measure => simp [intOf]; omega)
    · obtain rfl : k = m.length := by omega
      rw [List.take_length]
      go_wp2
      go_ret
      exact ⟨rfl, hbr⟩
end Go.Proofs.YtjonmggkmalgaaaGreatDoor

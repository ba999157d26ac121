/-
  A request as bytes: cmd.lay at a request that may be.
-/
import Derived.Test.YtjonmggkmalgaaaGreatDoorW41Cmd
import Derived.Test.YtjonmggkmalgaaaGreatDoorW20All
namespace Go.Proofs.YtjonmggkmalgaaaGreatDoor
open Go.RowKit Go.Lib

theorem PutAt.below {w w' : World} {b : Nat} {xs : List UInt8} {e : Int} (h : PutAt w b xs e) (hb : Below w.heap.size w w') : PutAt w' b xs e := by
  obtain ⟨v, hl, hown⟩ := h
  exact ⟨v, hl.below hb hl.lt, own_keeps (S := fun _ => False) hown (Keeps.below hb (fun j hj hj' => absurd hj (by omega))) (fun _ _ => id)⟩

theorem PutAt.drew {w : World} {b : Nat} {xs : List UInt8} {e : Int} (h : PutAt w b xs e) : PutAt w.drew b xs e := h

theorem byte_ok (b : Nat) (xs : List UInt8) (v : Nat) (w : World) (h : PutAt w b xs 0) (hv : v < 256) (hx : xs.length ≤ 1000000000) :
    Calls Tryz.prog 63 #[.pointer (some ⟨b, 0, none⟩), .int .i64 v] w (PutsPost b w (xs ++ lowBytes v 1)) := by
  go_enter Tryz.func63, Tryz.ntmps63
  go_wp2_with fail
  refine (small_ok b xs v 1 _ h (by omega) (by omega) (by simpa using hv) hx).mono ?_
  rintro e w' ⟨rfl, h1, hs⟩
  go_wp2
  go_ret
  exact ⟨rfl, h1, hs⟩
theorem word_ok (b : Nat) (xs : List UInt8) (v : Nat) (w : World) (h : PutAt w b xs 0) (hv : v < 4294967296) (hx : xs.length ≤ 1000000000) :
    Calls Tryz.prog 34 #[.pointer (some ⟨b, 0, none⟩), .int .i64 v] w (PutsPost b w (xs ++ lowBytes v 4)) := by
  go_enter Tryz.func34, Tryz.ntmps34
  go_wp2_with fail
  refine (small_ok b xs v 4 _ h (by omega) (by omega) (by simpa using hv) hx).mono ?_
  rintro e w' ⟨rfl, h1, hs⟩
  go_wp2
  go_ret
  exact ⟨rfl, h1, hs⟩
theorem putint_ok (b : Nat) (xs : List UInt8) (v : Nat) (w : World) (h : PutAt w b xs 0) (hv : v < 9223372036854775808) (hx : xs.length ≤ 1000000000) :
    Calls Tryz.prog 110 #[.pointer (some ⟨b, 0, none⟩), .int .i64 v] w (PutsPost b w (xs ++ lowBytes v 8)) := by
  have hw : IntKind.u64.wrap (v : Int) = (v : Int) := by rw [IntKind.wrap_u64]; omega
  go_enter Tryz.func110, Tryz.ntmps110
  go_wp2_with fail
  refine (fail_ok b xs 0 _ h).mono ?_
  rintro e w' ⟨rfl, rfl⟩
  go_wp2_with fail
  refine (low_calls b xs v 8 _ h (by decide) hx).mono ?_
  rintro e w' ⟨rfl, h1, hs⟩
  go_wp2
  go_ret
  exact ⟨rfl, h1, hs⟩

/-- The slice that begins at x holds these commands, five cells each. -/
def CmdsAt (w : World) (x : Option Addr) (l : List CmdS) : Prop := ∀ i (h : i < l.length), ∃ b off, x = some ⟨b, off, none⟩ ∧
  w.cell? ⟨b, off + i * 5, none⟩ = some (.int .i64 l[i].kind) ∧ w.cell? ⟨b, off + i * 5 + 1, none⟩ = some (.string l[i].path) ∧ w.cell? ⟨b, off + i * 5 + 2, none⟩ = some (.string l[i].key) ∧ w.cell? ⟨b, off + i * 5 + 3, none⟩ = some (.string l[i].val) ∧ w.cell? ⟨b, off + i * 5 + 4, none⟩ = some (.string l[i].old)
theorem CmdsAt.below {w w' : World} {x : Option Addr} {l : List CmdS} (h : CmdsAt w x l) (hb : Below w.heap.size w w') : CmdsAt w' x l := by
  intro i hi
  obtain ⟨b, off, hx, h0, h1, h2, h3, h4⟩ := h i hi
  have hlt := World.block_lt_of_cell? w _ h0
  have hc : ∀ j, w'.cell? ⟨b, j, none⟩ = w.cell? ⟨b, j, none⟩ := fun j => hb.cell hlt
  exact ⟨b, off, hx, (hc _).trans h0, (hc _).trans h1, (hc _).trans h2, (hc _).trans h3, (hc _).trans h4⟩

/-- A command's bytes, a request's bytes. -/
def CmdS.bytes (c : CmdS) : List UInt8 := lowBytes c.kind.toNat 1 ++ textBytes c.path.data.toList ++ textBytes c.key.data.toList ++ textBytes c.val.data.toList ++ textBytes c.old.data.toList
structure ReqS where
  client : Int
  seq : Int
  cmds : List CmdS
def ReqS.head (r : ReqS) : List UInt8 := lowBytes r.client.toNat 8 ++ lowBytes r.seq.toNat 8 ++ lowBytes r.cmds.length 1
def ReqS.bytes (r : ReqS) : List UInt8 := r.head ++ r.cmds.flatMap CmdS.bytes
theorem head_length (r : ReqS) : r.head.length = 17 := by unfold ReqS.head; simp [lowBytes_length]
theorem bytes_size {c : CmdS} (h : c.valid = true) : c.bytes.length ≤ 9149 := by
  unfold CmdS.valid at h
  simp at h
  unfold CmdS.bytes
  simp only [List.length_append, textBytes_length, lowBytes_length, Array.length_toList]
  have e1 : c.path.data.size = c.path.size := rfl
  have e2 : c.key.data.size = c.key.size := rfl
  have e3 : c.val.data.size = c.val.size := rfl
  have e4 : c.old.data.size = c.old.size := rfl
  omega
theorem flat_size : ∀ (l : List CmdS), (∀ c ∈ l, c.valid = true) → (l.flatMap CmdS.bytes).length ≤ 9149 * l.length
  | [], _ => by simp
  | c :: l, h => by
    have h1 := flat_size l (fun c hc => h c (List.mem_cons_of_mem _ hc))
    have h2 := bytes_size (h c (List.mem_cons_self ..))
    rw [List.flatMap_cons, List.length_append, List.length_cons]
    omega

abbrev reqV (client seq : Int) (x : Option Addr) (n cap : Nat) : Value := .agg #[.int .i64 client, .int .i64 seq, .slice x n cap]
def StrPost (w : World) (s : ByteArray) (err : Int) (e : Ending) (w' : World) : Prop := e = .returned (.tuple #[.string s, .int .i64 err]) ∧ Below w.heap.size w w'

set_option maxHeartbeats 1000000 in
set_option maxRecDepth 100000 in
theorem lay_ok (c q : Nat) (x : Option Addr) (l : List CmdS) (cap : Nat) (w : World) (hc : c ≤ 1099511627776) (hq : q ≤ 1099511627776) (hx : CmdsAt w x l) (hl : l.length ≤ 6) (hv : ∀ c ∈ l, c.valid = true) :
    Calls Tryz.prog 40 #[reqV c q x l.length cap] w (StrPost w (strS (ReqS.bytes ⟨c, q, l⟩)) 0) := by
  have hm := Lies.made w 24 [.int .i64 c, .int .i64 q, .slice x l.length cap]
  have ha := box_made w 24 [.int .i64 c, .int .i64 q, .slice x l.length cap]
  have hm2 := hm.alloc (.cells #[.slice none 0 0, .int .i64 0] 78)
  have hp2 : PutAt ((w.alloc (.cells #[.int .i64 c, .int .i64 q, .slice x l.length cap] 24)).alloc (.cells #[.slice none 0 0, .int .i64 0] 78)) (w.heap.size + 1) [] 0 := by
    have := put_new (w.alloc (.cells #[.int .i64 c, .int .i64 q, .slice x l.length cap] 24))
    simpa using this
  have HX := veil hx
  have HV := veil hv
  clear hx hv
  go_enter Tryz.func40, Tryz.ntmps40
  go_wp2_with fail
  go_region_held3 (fun w' => w'.cell? ⟨w.heap.size, 0, none⟩ = some (.int .i64 c) ∧ w'.cell? ⟨w.heap.size, 1, none⟩ = some (.int .i64 q) ∧ w'.cell? ⟨w.heap.size, 2, none⟩ = some (.slice x l.length cap))
    (first
      | exact ⟨hm5.cell 0, hm5.cell 1, hm5.cell 2⟩
      | exact ⟨hm4.cell 0, hm4.cell 1, hm4.cell 2⟩
      | exact ⟨hm3.cell 0, hm3.cell 1, hm3.cell 2⟩
      | exact ⟨hm2.cell 0, hm2.cell 1, hm2.cell 2⟩
      | exact ⟨hm.cell 0, hm.cell 1, hm.cell 2⟩)
    (first
      | (go_at_call 63; refine (byte_ok _ _ l.length _ hp4 (by omega) (by simp [lowBytes_length])).mono ?_; rintro e w5 ⟨rfl, hp5, hs5⟩; have hm5 := hs5.lies hm4 (by omega) (by decide))
      | (go_at_call 110; refine (putint_ok _ _ q _ hp3 (by omega) (by simp [lowBytes_length])).mono ?_; rintro e w4 ⟨rfl, hp4, hs4⟩; have hm4 := hs4.lies hm3 (by omega) (by decide))
      | (go_at_call 110; refine (putint_ok _ _ c _ hp2.drew (by omega) (by simp)).mono ?_; rintro e w3 ⟨rfl, hp3, hs3⟩; have hm3 := hs3.lies hm2.drew (by omega) (by decide)))
  have d2 : w5.cell? ⟨w.heap.size, 2, none⟩ = some (.slice x l.length cap) := hm5.cell 2
  have hb2 := ha.alloc (by simp) (.cells #[.slice none 0 0, .int .i64 0] 78)
  have hsp := (hs3.trans hs4).trans hs5
  have hbw5 : Below w.heap.size w w5 := hb2.drew.trans ((hsp.below (by simp [World.drew])).mono (by omega))
  have hp5' : PutAt w5 (w.heap.size + 1) (ReqS.head ⟨c, q, l⟩) 0 := by simpa [ReqS.head] using hp5
  have hlt5 := hp5'.lt
  clear hm hm2 hp2 hm3 hm4 hm5 hp3 hp4 hp5 hs3 hs4 hs5 hsp hb2 ha
  go_wp2_with fail
  go_loopw [22] (fun i wr => ∃ k : Nat, k ≤ l.length ∧ i = .int .i64 k ∧ PutAt wr (w.heap.size + 1) (ReqS.head ⟨c, q, l⟩ ++ (l.take k).flatMap CmdS.bytes) 0 ∧ Below w.heap.size w wr) (fun i _ => l.length - (intOf i).toNat)
  case atStart => exact ⟨0, Nat.zero_le _, rfl, by simpa using hp5', hbw5⟩
  case round =>
    obtain ⟨k, hk, rfl, hp, hbr⟩ := hrel
    have hszr := hbr.size
    have hpl := hp.lt
    by_cases hlt : k < l.length
    · have hxr := (HX.out).below hbr
      obtain ⟨bb, off, rfl, k0, k1, k2, k3, k4⟩ := hxr k hlt
      have hval := HV.out l[k] (List.getElem_mem hlt)
      have hflat := flat_size (l.take k) (fun c hc => HV.out c (List.mem_of_mem_take hc))
      have htk : (l.take k).length ≤ 6 := by rw [List.length_take]; omega
      have hhd := head_length ⟨c, q, l⟩
      have htake : l.take (k + 1) = l.take k ++ [l[k]] := by rw [List.take_add_one, List.getElem?_eq_getElem hlt]; rfl
      have Hres : Hid (ReqS.head ⟨c, q, l⟩ ++ (l.take (k + 1)).flatMap CmdS.bytes = ReqS.head ⟨c, q, l⟩ ++ (l.take k).flatMap CmdS.bytes ++ lowBytes (l[k]).kind.toNat 1 ++ textBytes (l[k]).path.data.toList ++ textBytes (l[k]).key.data.toList ++ textBytes (l[k]).val.data.toList ++ textBytes (l[k]).old.data.toList) := by
        refine veil ?_
        rw [htake, List.flatMap_append, List.flatMap_cons, List.flatMap_nil, List.append_nil]
        unfold CmdS.bytes
        simp only [List.append_assoc]
      obtain ⟨pre, hpre⟩ : ∃ pre, pre = ReqS.head ⟨c, q, l⟩ ++ (l.take k).flatMap CmdS.bytes := ⟨_, rfl⟩
      have hprel : pre.length ≤ 60000 := by rw [hpre, List.length_append]; omega
      rw [← hpre] at hp Hres
      clear hpre hflat htake hhd htk hxr
      obtain ⟨d, hd⟩ : ∃ d, d = l[k] := ⟨_, rfl⟩
      rw [← hd] at k0 k1 k2 k3 k4 hval Hres
      clear hd
      obtain ⟨kind, path, key, val, old⟩ := d
      unfold CmdS.valid at hval
      simp at hval
      simp only at k0 k1 k2 k3 k4 Hres
      obtain ⟨kn, rfl⟩ : ∃ kn : Nat, kind = kn := ⟨kind.toNat, by omega⟩
      have i0 : (0 : Int) ≤ (k : Int) := by omega
      have i1 : (k : Int) < (l.length : Int) := by omega
      have hcm := Lies.made wr 68 [.int .i64 kn, .string path, .string key, .string val, .string old]
      have hba := box_made wr 68 [.int .i64 kn, .string path, .string key, .string val, .string old]
      have hp0 := hp.below hba
      go_wp2_with fail
      go_region_held3 (fun w' => w'.cell? ⟨wr.heap.size, 0, none⟩ = some (.int .i64 kn) ∧ w'.cell? ⟨wr.heap.size, 1, none⟩ = some (.string path) ∧ w'.cell? ⟨wr.heap.size, 2, none⟩ = some (.string key) ∧ w'.cell? ⟨wr.heap.size, 3, none⟩ = some (.string val) ∧ w'.cell? ⟨wr.heap.size, 4, none⟩ = some (.string old))
        (first
          | exact ⟨hm5.cell 0, hm5.cell 1, hm5.cell 2, hm5.cell 3, hm5.cell 4⟩
          | exact ⟨hm4.cell 0, hm4.cell 1, hm4.cell 2, hm4.cell 3, hm4.cell 4⟩
          | exact ⟨hm3.cell 0, hm3.cell 1, hm3.cell 2, hm3.cell 3, hm3.cell 4⟩
          | exact ⟨hm2.cell 0, hm2.cell 1, hm2.cell 2, hm2.cell 3, hm2.cell 4⟩
          | exact ⟨hm1.cell 0, hm1.cell 1, hm1.cell 2, hm1.cell 3, hm1.cell 4⟩
          | exact ⟨hcm.cell 0, hcm.cell 1, hcm.cell 2, hcm.cell 3, hcm.cell 4⟩)
        (first
          | (go_at_call 63; refine (byte_ok _ _ kn _ hp0.drew (by omega) (by omega)).mono ?_; rintro e v1 ⟨rfl, hp1, hs1⟩; have hm1 := hs1.lies hcm.drew (by omega) (by decide))
          | (go_at_call 65; refine (text_ok _ _ old _ hp4 (by omega) (by simp only [List.length_append, textBytes_length, lowBytes_length, Array.length_toList]; have e1 : path.data.size = path.size := rfl; have e2 : key.data.size = key.size := rfl; have e3 : val.data.size = val.size := rfl; omega)).mono ?_; rintro e v5 ⟨rfl, hp5, hs5⟩; have hm5 := hs5.lies hm4 (by omega) (by decide))
          | (go_at_call 65; refine (text_ok _ _ val _ hp3 (by omega) (by simp only [List.length_append, textBytes_length, lowBytes_length, Array.length_toList]; have e1 : path.data.size = path.size := rfl; have e2 : key.data.size = key.size := rfl; omega)).mono ?_; rintro e v4 ⟨rfl, hp4, hs4⟩; have hm4 := hs4.lies hm3 (by omega) (by decide))
          | (go_at_call 65; refine (text_ok _ _ key _ hp2 (by omega) (by simp only [List.length_append, textBytes_length, lowBytes_length, Array.length_toList]; have e1 : path.data.size = path.size := rfl; omega)).mono ?_; rintro e v3 ⟨rfl, hp3, hs3⟩; have hm3 := hs3.lies hm2 (by omega) (by decide))
          | (go_at_call 65; refine (text_ok _ _ path _ hp1 (by omega) (by simp only [List.length_append, lowBytes_length]; omega)).mono ?_; rintro e v2 ⟨rfl, hp2, hs2⟩; have hm2 := hs2.lies hm1 (by omega) (by decide)))
      all_goals (
        have hsp := (((hs1.trans hs2).trans hs3).trans hs4).trans hs5
        have hbr2 : Below w.heap.size w v5 := (hbr.trans (hba.mono hszr)).drew.trans ((hsp.below (by show w.heap.size + 1 ≤ (wr.alloc _).heap.size; simp; omega)).mono (by omega))
        have Hp5 := veil hp5
        clear hm1 hm2 hm3 hm4 hm5 hp1 hp2 hp3 hp4 hp5 hs1 hs2 hs3 hs4 hs5 hsp
        go_wp2
        go_roundw
        case rel =>
          refine ⟨k + 1, by omega, by go_num, ?_, hbr2⟩
          rw [Hres.out]
          exact Hp5.out
        case measure => simp [intOf]; omega)
    · obtain rfl : k = l.length := by omega
      rw [List.take_length] at hp
      go_wp2_with fail
      refine (end_ok (w.heap.size + 1) _ _ hp).mono ?_
      rintro e w6 ⟨rfl, rfl⟩
      go_wp2
      go_ret2
      exact ⟨rfl, hbr⟩
end Go.Proofs.YtjonmggkmalgaaaGreatDoor

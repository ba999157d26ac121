/-
  What is laid is read back: the plain functions of laying and of reading, held against each other. Plain Lean, no walk.
-/
import Derived.Test.YtjonmggkmalgaaaGreatDoorW47ReadEntry
namespace Go.Proofs.YtjonmggkmalgaaaGreatDoor
open Go.RowKit Go.Lib

theorem byteAt_val (v k : Nat) : (byteAt v k).toNat = v / 256 ^ k % 256 := by
  unfold byteAt
  rw [UInt8.toNat_ofNat']
theorem leVal_low (v : Nat) : ∀ n, leVal (lowBytes v n) = v % 256 ^ n
  | 0 => by simp [lowBytes, leVal, Nat.mod_one]
  | n + 1 => by
    rw [lowBytes_succ, leVal_snoc, leVal_low v n, byteAt_val, lowBytes_length, Nat.pow_succ, Nat.mod_mul]
    rw [Nat.mul_comm]
theorem leVal_low_lt (v n : Nat) (h : v < 256 ^ n) : leVal (lowBytes v n) = v := by rw [leVal_low, Nat.mod_eq_of_lt h]

theorem rawG_pre (x rest : List UInt8) (n : Nat) (h : x.length = n) : rawG n (x ++ rest, 0) = (x, (rest, 0)) := by
  unfold rawG
  rw [if_neg (by simp), if_neg (by omega), if_neg (by simp only [List.length_append]; omega)]
  simp only [Int.toNat_natCast]
  rw [← h, List.take_left', List.drop_left'] <;> rfl
theorem lowG_pre (v n : Nat) (rest : List UInt8) (h : v < 256 ^ n) : lowG n (lowBytes v n ++ rest, 0) = (v, (rest, 0)) := by
  unfold lowG
  rw [rawG_pre _ _ n (lowBytes_length v n), leVal_low_lt v n h]
theorem smallG_pre (v n : Nat) (rest : List UInt8) (h : v < 256 ^ n) : smallG n (lowBytes v n ++ rest, 0) = ((v : Int), (rest, 0)) := by
  unfold smallG
  rw [lowG_pre v n rest h]
theorem intG_pre (v : Nat) (rest : List UInt8) (h : v < 9223372036854775808) : intG (lowBytes v 8 ++ rest, 0) = ((v : Int), (rest, 0)) := by
  unfold intG
  rw [lowG_pre v 8 rest (Nat.lt_trans h (by decide))]
  simp only [Prod.mk.injEq, and_true]
  exact IntWalk.wrap64_in _ (by omega)
theorem textG_pre (l rest : List UInt8) (h : l.length ≤ 65535) : textG (textBytes l ++ rest, 0) = (l, (rest, 0)) := by
  unfold textG textBytes
  rw [List.append_assoc, smallG_pre l.length 2 _ (by omega)]
  exact rawG_pre l rest l.length rfl
theorem strS_data (b : ByteArray) : strS b.data.toList = b := by apply bytes_ext; simp
theorem cmdG_pre (c : CmdS) (rest : List UInt8) (h : c.valid = true) : cmdG (c.bytes ++ rest, 0) = (c, (rest, 0)) := by
  unfold CmdS.valid at h
  simp at h
  obtain ⟨kind, path, key, val, old⟩ := c
  simp only at h
  obtain ⟨kn, rfl⟩ : ∃ kn : Nat, kind = kn := ⟨kind.toNat, by omega⟩
  have l1 : path.data.toList.length ≤ 65535 := by rw [Array.length_toList]; have : path.data.size = path.size := rfl; omega
  have l2 : key.data.toList.length ≤ 65535 := by rw [Array.length_toList]; have : key.data.size = key.size := rfl; omega
  have l3 : val.data.toList.length ≤ 65535 := by rw [Array.length_toList]; have : val.data.size = val.size := rfl; omega
  have l4 : old.data.toList.length ≤ 65535 := by rw [Array.length_toList]; have : old.data.size = old.size := rfl; omega
  unfold cmdG CmdS.bytes
  simp only [List.append_assoc, Int.toNat_natCast]
  rw [smallG_pre kn 1 _ (by omega)]
  simp only
  rw [textG_pre _ _ l1]
  simp only
  rw [textG_pre _ _ l2]
  simp only
  rw [textG_pre _ _ l3]
  simp only
  rw [textG_pre _ _ l4]
theorem cmdsG_pre (l : List CmdS) (rest : List UInt8) (h : ∀ c ∈ l, c.valid = true) : ∀ k, k ≤ l.length → cmdsG k (l.flatMap CmdS.bytes ++ rest, 0) = (l.take k, ((l.drop k).flatMap CmdS.bytes ++ rest, 0))
  | 0, _ => by simp [cmdsG]
  | k + 1, hk => by
    have ih := cmdsG_pre l rest h k (by omega)
    have hlt : k < l.length := by omega
    have hd : l.drop k = l[k] :: l.drop (k + 1) := List.drop_eq_getElem_cons hlt
    unfold cmdsG
    rw [ih]
    simp only
    rw [hd, List.flatMap_cons, List.append_assoc, cmdG_pre _ _ (h _ (List.getElem_mem hlt))]
    simp only [Prod.mk.injEq, and_true]
    rw [List.take_add_one, List.getElem?_eq_getElem hlt]
    rfl

theorem reqG_pre (r : ReqS) (rest : List UInt8) (h : r.check = 0) : reqG (r.bytes ++ rest, 0) = (r, (rest, 0)) := by
  obtain ⟨h1, h2, h3, h4, h5, h6, h7, h8⟩ := check_zero h
  obtain ⟨c, q, l⟩ := r
  simp only at h1 h2 h3 h4 h5 h6 h7
  obtain ⟨cn, rfl⟩ : ∃ cn : Nat, c = cn := ⟨c.toNat, by omega⟩
  obtain ⟨qn, rfl⟩ : ∃ qn : Nat, q = qn := ⟨q.toNat, by omega⟩
  unfold reqG ReqS.bytes ReqS.head
  simp only [List.append_assoc, Int.toNat_natCast]
  rw [intG_pre cn _ (by omega)]
  simp only
  rw [intG_pre qn _ (by omega)]
  simp only
  rw [smallG_pre l.length 1 _ (by omega)]
  simp only [Int.toNat_natCast]
  rw [cmdsG_pre l rest h7 l.length (Nat.le_refl _)]
  simp
theorem laid_ok {r : ReqS} (h : r.check = 0) : r.laid = strS r.bytes := by unfold ReqS.laid; rw [if_pos h]
theorem readR_ok (r : ReqS) (h : r.check = 0) : readR r.bytes = (r, 0) := by
  have hp := reqG_pre r [] h
  rw [List.append_nil] at hp
  unfold readR
  rw [hp]
  simp only
  rw [if_neg (by simp [endG, leftG]), if_neg (by rw [laid_ok h]; simp [h])]
theorem readR_more (r : ReqS) (more : List UInt8) (h : r.check = 0) (hm : more ≠ []) : (readR (r.bytes ++ more)).2 = 6 := by
  have hp := reqG_pre r more h
  have hl : 0 < more.length := List.length_pos_iff.2 hm
  have he : endG (more, 0) = (more, 6) := by
    unfold endG leftG
    simp only [ne_eq, not_true_eq_false, if_false]
    rw [if_pos (by omega)]
  unfold readR
  rw [hp]
  simp only
  rw [he, if_pos (show (6 : Int) ≠ 0 by decide)]

theorem echeck_zero {e : EntS} (h : e.check = 0) : 0 ≤ e.index ∧ e.index ≤ 2147483647 ∧ 0 ≤ e.term ∧ e.term ≤ 2147483647 ∧ e.req.check = 0 := by
  unfold EntS.check at h
  split at h
  · cases h
  · exact ⟨by omega, by omega, by omega, by omega, h⟩
theorem elaid_ok {e : EntS} (h : e.check = 0) : e.laid = strS e.bytes := by unfold EntS.laid; rw [if_pos h]
theorem rawG_all (s : List UInt8) : (rawG (leftG (s, 0)) (s, 0)).1 = s := by
  unfold leftG
  simp only [ne_eq, not_true_eq_false, if_false]
  have := rawG_pre s [] s.length rfl
  rw [List.append_nil] at this
  rw [this]
theorem readE_pre (e : EntS) (more : List UInt8) (h : e.check = 0) : readE (e.bytes ++ more) =
    (let r := readR (e.req.bytes ++ more)
     if r.2 ≠ 0 then (noEnt, r.2) else if EntS.check ⟨e.index, e.term, r.1⟩ ≠ 0 ∨ EntS.laid ⟨e.index, e.term, r.1⟩ ≠ strS (e.bytes ++ more) then (noEnt, 6) else (⟨e.index, e.term, r.1⟩, 0)) := by
  obtain ⟨h1, h2, h3, h4, h5⟩ := echeck_zero h
  obtain ⟨i, t, r⟩ := e
  simp only at h1 h2 h3 h4 h5 ⊢
  obtain ⟨im, rfl⟩ : ∃ im : Nat, i = im := ⟨i.toNat, by omega⟩
  obtain ⟨tm, rfl⟩ : ∃ tm : Nat, t = tm := ⟨t.toNat, by omega⟩
  have hb : EntS.bytes ⟨im, tm, r⟩ ++ more = lowBytes im 4 ++ (lowBytes tm 4 ++ (r.bytes ++ more)) := by
    unfold EntS.bytes
    simp only [List.append_assoc, Int.toNat_natCast]
  rw [hb]
  unfold readE
  rw [smallG_pre im 4 _ (by omega)]
  simp only
  rw [smallG_pre tm 4 _ (by omega)]
  simp only [ne_eq, not_true_eq_false, if_false]
  rw [rawG_all]
theorem readE_ok (e : EntS) (h : e.check = 0) : readE e.bytes = (e, 0) := by
  have hp := readE_pre e [] h
  obtain ⟨_, _, _, _, h5⟩ := echeck_zero h
  rw [List.append_nil, List.append_nil, readR_ok _ h5] at hp
  rw [hp]
  simp only
  rw [if_neg (by simp), if_neg (by rw [show EntS.laid ⟨e.index, e.term, e.req⟩ = strS e.bytes from elaid_ok h]; simp only [ne_eq, not_true_eq_false, or_false]; simpa using h)]
theorem readE_more (e : EntS) (more : List UInt8) (h : e.check = 0) (hm : more ≠ []) : (readE (e.bytes ++ more)).2 ≠ 0 := by
  have hp := readE_pre e more h
  obtain ⟨_, _, _, _, h5⟩ := echeck_zero h
  have h6 := readR_more e.req more h5 hm
  rw [hp]
  simp only
  rw [h6, if_pos (by decide)]
  decide
theorem strS_inj {a b : List UInt8} (h : strS a = strS b) : a = b := by
  have := congrArg (fun s : ByteArray => s.data.toList) h
  simpa using this
/-- Whatever is read as an entry is that entry's bytes. -/
theorem readE_only (b : List UInt8) (h : (readE b).2 = 0) : (readE b).1.check = 0 ∧ b = (readE b).1.bytes := by
  unfold readE at h ⊢
  simp only at h ⊢
  split at h
  · rename_i h1; exact absurd h h1
  · rename_i h1
    rw [if_neg h1]
    split at h
    · rename_i h2; exact absurd h h2
    · rename_i h2
      rw [if_neg h2]
      split at h
      · exact absurd h (by decide)
      · rename_i h3
        rw [if_neg h3]
        simp only [not_or, Decidable.not_not] at h3
        refine ⟨h3.1, ?_⟩
        have := h3.2
        rw [elaid_ok h3.1] at this
        exact (strS_inj this).symm
theorem readE_less (e : EntS) (h : e.check = 0) (b : List UInt8) (c : UInt8) (hb : e.bytes = b ++ [c]) : (readE b).2 ≠ 0 := by
  intro h0
  obtain ⟨h1, h2⟩ := readE_only b h0
  have h3 := readE_more (readE b).1 [c] h1 (by simp)
  rw [← h2, ← hb, readE_ok e h] at h3
  exact h3 rfl
theorem ebytes_length (e : EntS) : 8 ≤ e.bytes.length ∧ e.bytes.drop 8 = e.req.bytes := by
  unfold EntS.bytes
  refine ⟨by simp only [List.length_append, lowBytes_length]; omega, ?_⟩
  rw [List.drop_left']
  simp [lowBytes_length]
end Go.Proofs.YtjonmggkmalgaaaGreatDoor

/-
  A name without a slash, not too long, that is not the store's own: what the checks of paths and keys say of it.
-/
import Derived.Test.YtjonmggkmalgaaaDoorW24Alive
namespace Go.Proofs.YtjonmggkmalgaaaDoor
open Go.RowKit Go.Maps Go.WideMaps Go.WideElems Go.Lib

structure Goodkey (s : ByteArray) : Prop where
  low : 1 ≤ s.size
  high : s.size ≤ 32
  own : ∀ h : 0 < s.size, s[0] ≠ 0

theorem Goodkey.ownB {s : ByteArray} (h : Goodkey s) : ownB s = false := by
  have hl : 0 < s.data.toList.length := by rw [Array.length_toList]; exact h.low
  have h0 : s.data.toList[0] ≠ 0 := h.own h.low
  unfold Proofs.YtjonmggkmalgaaaDoor.ownB Lib.hasPrefix
  cases hs : s.data.toList with
  | nil => rfl
  | cons c l =>
    simp only [hs, List.getElem_cons_zero] at h0
    show ((0 == c) && _) = false
    rw [beq_eq_false_iff_ne.2 (fun e => h0 e.symm)]; rfl
theorem Goodkey.word {s : ByteArray} (h : Goodkey s) : wordB s.size = true := by
  have h1 := h.low
  have h2 := h.high
  simp [wordB, h1, h2]
theorem Goodkey.keyOk {s : ByteArray} (h : Goodkey s) : keyOk s = true := by
  unfold Proofs.YtjonmggkmalgaaaDoor.keyOk
  rw [h.word, h.ownB]; rfl
theorem Goodkey.ne {s : ByteArray} (h : Goodkey s) : s.toList.isEmpty = false := by
  rw [ByteArray.toList_eq]
  cases hs : s.data.toList with
  | nil =>
    have : s.data.toList.length = 0 := by rw [hs]; rfl
    rw [Array.length_toList] at this
    have h1 : 1 ≤ s.data.size := h.low
    omega
  | cons c l => rfl

theorem plain_names {s : ByteArray} (h : Plainname s) : pathNames s = [s] := by
  have hi : indexB s slashS = -1 := by
    show index s.data.toList [47] = -1
    rw [index_one]
    have h1 := indexByte_ge s.data.toList 47
    have h2 := plain_index s h
    rw [decide_eq_false_iff_not] at h2
    omega
  unfold pathNames
  exact splitB_miss _ _ _ _ hi
theorem plain_path {s : ByteArray} (h : Plainname s) (hg : Goodkey s) : pathOk s = true := by
  unfold pathOk
  rw [plain_names h]
  simp [hg.word]
theorem plain_ok {s : ByteArray} (h : Plainname s) (hg : Goodkey s) : namesOk s = true := by
  unfold namesOk
  rw [plain_path h hg, plain_names h]
  simp [hg.ownB]
theorem keyL_ne {a b : ByteArray} (h : a ≠ b) : keyL a ≠ keyL b := by
  intro e
  unfold keyL at e
  injection e with e
  exact h (bytes_ext e)
theorem dig1 : digS 1 = ⟨#[49]⟩ := by
  apply bytes_ext
  show ((Lib.itoa 1).toArray).toList = [49]
  rw [List.toList_toArray]
  unfold Lib.itoa
  rw [if_neg (by decide), show (1 : Int).toNat = 1 from rfl, dec_small (by omega)]
  rfl
end Go.Proofs.YtjonmggkmalgaaaDoor

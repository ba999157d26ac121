/-
  cmd.name, the document's Name, and all values of a root that has just one key and no box within it.
-/
import Derived.Test.YtjonmggkmalgaaaGreatDoorW19Sub
import Derived.Maps.RangeWalk
import Derived.Sort.MapsRangeIn
namespace Go.Proofs.YtjonmggkmalgaaaGreatDoor
open Go.RowKit Go.Maps Go.WideMaps Go.WideElems

/-- A path and a key as one name. -/
def nameS (p k : ByteArray) : ByteArray := ⟨(textBytes p.data.toList ++ textBytes k.data.toList).toArray⟩
theorem textBytes_length (l : List UInt8) : (textBytes l).length = l.length + 2 := by
  unfold textBytes; rw [List.length_append, lowBytes_length]; omega
theorem nameS_size (p k : ByteArray) : (nameS p k).size = p.size + k.size + 4 := by
  show ((textBytes p.data.toList ++ textBytes k.data.toList).toArray).size = _
  rw [List.size_toArray, List.length_append, textBytes_length, textBytes_length, Array.length_toList, Array.length_toList]
  show p.size + 2 + (k.size + 2) = _
  omega

theorem put_new (w : World) : PutAt (w.alloc (.cells #[.slice none 0 0, .int .i64 0] 78)) w.heap.size [] 0 :=
  ⟨.slice none 0 0, Lies.made w 78 [.slice none 0 0, .int .i64 0], by simp [bytesV, World.ownsRow]⟩

def NamePost (w : World) (s : ByteArray) (e : Ending) (w' : World) : Prop := e = .returned (.string s) ∧ Below w.heap.size w w'

theorem name_any (p k : ByteArray) (w : World) (hp : p.size ≤ 65535) (hk : k.size ≤ 65535) :
    Calls Tryz.prog 137 #[.string p, .string k] w (NamePost w (nameS p k)) := by
  go_enter Tryz.func137, Tryz.ntmps137
  go_wp2_with fail
  refine (text_ok w.heap.size [] p _ (put_new w) hp (by simp)).mono ?_
  rintro e w1 ⟨rfl, h1, hs1⟩
  go_wp2_with fail
  refine (text_ok w.heap.size _ k _ h1 hk (by simp [textBytes_length]; omega)).mono ?_
  rintro e w2 ⟨rfl, h2, hs2⟩
  go_wp2_with fail
  refine (end_ok w.heap.size _ _ h2).mono ?_
  rintro e w3 ⟨rfl, rfl⟩
  go_wp2
  go_ret
  refine ⟨?_, ((Below.refl _ _).alloc (Nat.le_refl _) _).trans ((hs1.trans hs2).below (by simp))⟩
  rfl

theorem byte_wrap (x : Nat) : IntKind.u8.wrap (x : Int) = ((UInt8.ofNat x).toNat : Int) := by
  rw [UInt8.toNat_ofNat', IntKind.wrap_u8]
  omega

set_option maxRecDepth 100000 in
/-- The document's Low: the number's bytes. -/
theorem low_ref (v : Nat) (n : Nat) (w : World) (hv : v < 18446744073709551616) (hn : n ≤ 8) :
    Calls Tryz.prog 52 #[.int .u64 v, .int .i64 n] w (NamePost w ⟨(lowBytes v n).toArray⟩) := by
  obtain ⟨i0, hi, hz0, hz1, hz2⟩ := info_parts infoU8
  go_enter Tryz.func52, Tryz.ntmps52
  go_wp2
  go_loopw [0, 5, 6] (fun x b i wr => ∃ k : Nat, k ≤ n ∧ i = .int .i64 k ∧ x = .int .u64 ((v / 256 ^ k : Nat) : Int) ∧ wr.ownsRow w.heap.size 5 1 b (lowBytes v k).length (bytesV (lowBytes v k)) ∧ Below w.heap.size w wr) (fun _ _ i _ => n - (intOf i).toNat)
  case atStart =>
    refine ⟨0, Nat.zero_le _, rfl, by rw [Nat.pow_zero, Nat.div_one], ?_, Below.refl _ _⟩
    simp [lowBytes, bytesV, World.ownsRow]
  case round =>
    obtain ⟨k, hk, rfl, rfl, hown, hb⟩ := hrel
    have hz := hb.size
    by_cases hlt : k < n
    · have hlen : (lowBytes v k).length ≤ 8 := by rw [lowBytes_length]; omega
      have hx0 : (0 : Int) ≤ ((v / 256 ^ k : Nat) : Int) := Int.natCast_nonneg _
      have hx1 : ((v / 256 ^ k : Nat) : Int) < 18446744073709551616 := by have := Nat.div_le_self v (256 ^ k); omega
      have hq : ((v / 256 ^ k : Nat) : Int) / 256 = ((v / 256 ^ (k + 1) : Nat) : Int) := by
        rw [Nat.pow_succ, ← Nat.div_div_eq_div_mul]; omega
      have Hq := veil hq
      clear hq
      obtain ⟨x, hx⟩ : ∃ x, x = v / 256 ^ k := ⟨_, rfl⟩
      rw [← hx] at hx0 hx1 Hq
      rw [← hx]
      have Hx := veil hx
      clear hx
      go_wp2_with (at_builtin; refine wpList_append_lies _ rfl _ _ _ rfl w.heap.size 5 i0 _ 1 1 Tryz.underlying76 hi hz0 hz1 hz2 rfl (by omega) _ _ _ rfl (hown.alloc _) ⟨wr.heap.size, 0, none⟩ 1 1 [.int .u8 (IntKind.u8.wrap (x : Int))] rfl rfl (World.news_of_block (cs := #[.int .u8 (IntKind.u8.wrap (x : Int))]) (t := 5) (fr := (0, 0)) (heap_alloc_new wr _)) (by simp [Value.oneCell']) (by omega) (by unfold maxLen; omega) (by omega) (by simp; omega) (wr.heap.size + 1) (by simp) ?_; intro g cap w1 hown1 hgrow hat hglt)
      have hown2 : w1.ownsRow w.heap.size 5 1 (.slice (some ⟨g, 0, none⟩) ((lowBytes v k).length + 1) cap) (lowBytes v (k + 1)).length (bytesV (lowBytes v (k + 1))) := by
        have e1 : (lowBytes v (k + 1)).length = (lowBytes v k).length + 1 := by rw [lowBytes_length, lowBytes_length]
        have e2 : bytesV (lowBytes v (k + 1)) = bytesV (lowBytes v k) ++ [.int .u8 (IntKind.u8.wrap (x : Int))] := by
          rw [lowBytes_succ, bytesV_append, byte_wrap]
          unfold byteAt
          rw [← Hx.out]; rfl
        rw [e1, e2]
        exact hown1
      have hbw : Below w.heap.size w w1 := (hb.alloc hz _).grown hgrow (by simp; omega) (fun j hj => (own_lt hown hj).1)
      clear hown1 hgrow hat hglt hown hb
      go_wp2
      go_roundw
      case rel => exact ⟨k + 1, by omega, by go_num, by rw [← Hq.out], hown2, hbw⟩
      case measure => simp [intOf]; omega
    · obtain rfl : k = n := by omega
      have hcv := conv_own hown
      go_wp2
      go_ret
      exact ⟨rfl, hb⟩
end Go.Proofs.YtjonmggkmalgaaaGreatDoor

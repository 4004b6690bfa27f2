/- A text is cut at a byte. No conditions. -/
import Derived.Test.YtagjdeekiiffjaaGreatDoorFldE
import Derived.Test.YtagjdeekiiffjaaGreatDoorRecE
namespace Go.Proofs.YtagjdeekiiffjaaGreatDoor
open Go.RowKit

theorem tl_len (S : ByteArray) : ∀ (i : Nat) (r : List UInt8), (ByteArray.toList.loop S i r).length = (S.size - i) + r.length := by
  intro i r
  induction i, r using ByteArray.toList.loop.induct S with
  | case1 i r h ih => rw [ByteArray.toList.loop, if_pos h, ih]; simp; omega
  | case2 i r h => rw [ByteArray.toList.loop, if_neg h]; simp; omega
theorem tl_empty (S : ByteArray) : S.toList.isEmpty = (S.size == 0) := by
  have h : S.toList.length = S.size := tl_len S 0 []
  rw [← h]
  cases S.toList <;> rfl
/-- What stands between bytes. -/
def cutL (c : UInt8) : List UInt8 → List (List UInt8)
  | [] => [[]]
  | x :: l => if x = c then [] :: cutL c l else match cutL c l with
    | [] => [[x]]
    | y :: r => (x :: y) :: r
theorem cutL_ahead (c : UInt8) : ∀ a q, c ∉ a → cutL c (a ++ c :: q) = a :: cutL c q
  | [], q, _ => by simp [cutL]
  | x :: a, q, h => by
    have h1 : ¬ x = c := fun e => h (by simp [e])
    have h2 : c ∉ a := fun e => h (by simp [e])
    rw [List.cons_append, cutL, if_neg h1, cutL_ahead c a q h2]
theorem cutL_none (c : UInt8) : ∀ a, c ∉ a → cutL c a = [a]
  | [], _ => rfl
  | x :: a, h => by
    have h1 : ¬ x = c := fun e => h (by simp [e])
    have h2 : c ∉ a := fun e => h (by simp [e])
    rw [cutL, if_neg h1, cutL_none c a h2]
theorem cutL_some (c : UInt8) (l : List UInt8) (k : Nat) (h1 : l.drop k = c :: l.drop (k + 1)) (h2 : c ∉ l.take k) : cutL c l = l.take k :: cutL c (l.drop (k + 1)) := by
  conv => lhs; rw [← List.take_append_drop k l, h1]
  exact cutL_ahead c _ _ h2
theorem cutL_join (c : UInt8) : ∀ (x : List UInt8) (ls : List (List UInt8)), (∀ a ∈ x :: ls, c ∉ a) → cutL c (Lib.join (x :: ls) [c]) = x :: ls
  | x, [], h => by rw [Lib.join_one]; exact cutL_none c x (h x (by simp))
  | x, y :: r, h => by
    have e : Lib.join (x :: y :: r) [c] = x ++ c :: Lib.join (y :: r) [c] := by
      rw [Lib.join_cons, Lib.join_cons]
      simp [Lib.joinTail]
    rw [e, cutL_ahead c x _ (h x (by simp)), cutL_join c y r fun a ha => h a (by simp at ha ⊢; exact .inr ha)]
def tb (x : List UInt8) : ByteArray := ⟨x.toArray⟩
def cutB (c : UInt8) (s : ByteArray) : List ByteArray := (cutL c s.data.toList).map tb
theorem tb_list (s : ByteArray) : tb s.data.toList = s := by
  apply ByteArray.ext
  simp [tb]
theorem size_list (s : ByteArray) : s.data.toList.length = s.size := Array.length_toList
theorem ext_list (s : ByteArray) (i j : Nat) : (s.extract i j).data.toList = (s.data.toList.drop i).take (j - i) := by
  rw [ByteArray.data_extract]
  simp [List.extract_eq_take_drop]
theorem cutB_none (c : UInt8) (s : ByteArray) (h : c ∉ s.data.toList) : cutB c s = [s] := by
  simp only [cutB, cutL_none c _ h, List.map_cons, List.map_nil, tb_list]
theorem cutB_some (c : UInt8) (s : ByteArray) (k : Nat) (h1 : s.data.toList.drop k = c :: s.data.toList.drop (k + 1)) (h2 : c ∉ s.data.toList.take k) : cutB c s = s.extract 0 k :: cutB c (s.extract (k + 1) s.size) := by
  have e1 : tb (s.data.toList.take k) = s.extract 0 k := by
    have := ext_list s 0 k
    rw [List.drop_zero, Nat.sub_zero] at this
    rw [← this, tb_list]
  have e2 : (s.extract (k + 1) s.size).data.toList = s.data.toList.drop (k + 1) := by
    rw [ext_list, List.take_of_length_le]
    rw [List.length_drop, size_list]
    exact Nat.le_refl _
  simp only [cutB, cutL_some c _ k h1 h2, List.map_cons, e1, e2]
theorem sv_length (l : List ByteArray) : (sv l).length = l.length := by simp [sv]
theorem sv_snoc (l : List ByteArray) (x : ByteArray) : sv (l ++ [x]) = sv l ++ [.string x] := by simp [sv]

set_option maxRecDepth 100000 in
theorem sib_any (w : World) (c : UInt8) (s : ByteArray) :
    Calls Tryz.prog 98 #[.string s, .int .u8 c.toNat] w fun e w' => e = .returned (.int .i64 (Lib.indexByte s.data.toList c)) ∧ w = w' := by
  have hs := Lib.run_indexByteString (P := Tryz.prog) s (c.toNat : Int) w
  have hc : ((c.toNat : Nat) : Int).toNat.toUInt8 = c := by simp
  rw [hc] at hs
  go_enter Tryz.func98, Tryz.ntmps98
  go_wp2_with fail
  have hin : Calls Tryz.prog 119 #[.string s, .int .u8 c.toNat] w fun e w' => e = .returned (.int .i64 (Lib.indexByte s.data.toList c)) ∧ w = w' := by
    go_enter Tryz.func119, Tryz.ntmps119
    go_wp2
    rw [run_callFunc_extern Tryz.func135 (by kernel_rfl) (by kernel_rfl) (by kernel_rfl) (e := Extern.BytealgIndexByte.indexByte) (by kernel_rfl), hs]
    simp only [Result.andThen]
    rw [Oper.upon_value]
    go_wp2
    go_ret
    exact ⟨rfl, rfl⟩
  refine hin.mono ?_
  clear hin
  rintro e w2 ⟨rfl, rfl⟩
  go_wp2_with fail
  go_ret
  exact ⟨rfl, rfl⟩
set_option maxRecDepth 100000 in
set_option maxHeartbeats 8000000 in
theorem cut_any (w : World) (c : UInt8) (S : ByteArray) (hS0 : S.size ≠ 0) (hS : S.size ≤ 70000) :
    Calls Tryz.prog 71 #[.string S, .int .u8 c.toNat] w fun e w' => ∃ A' c', e = .returned (.slice A' (cutB c S).length c') ∧ Row w w' A' c' (sv (cutB c S)) := by
  obtain ⟨i0, hi0, hz0', hz1, hz2⟩ := info_parts infostrR
  have hS1 : S.toList.isEmpty = false := by rw [tl_empty]; simpa using hS0
  go_enter Tryz.func71, Tryz.ntmps71
  go_wp2_with fail
  go_loopw [0, 5] (fun x y W => ∃ (s : ByteArray) (A3 : Option Addr) (c3 : Nat) (l : List ByteArray), x = .string s ∧ y = .slice A3 l.length c3 ∧ l.length + s.size ≤ S.size ∧ Row w W A3 c3 (sv l) ∧ l ++ cutB c s = cutB c S) (fun x _ _ => match x with | .string s => s.size | _ => 0)
  case atStart => exact ⟨S, none, 0, [], rfl, rfl, by simp, by simpa [sv] using Row.none_ (Kept.refl _ w), rfl⟩
  case round =>
    obtain ⟨s, A3, c3, l, rfl, rfl, hls, hR, hq⟩ := hrel
    have hix := sib_any wr c s
    have hsm : (s.size : Int) ≤ 70000 := by omega
    rcases ix_cases c s.data.toList with ⟨hi, hno⟩ | ⟨k, hi, hkl, hd1, hd2⟩
    · rw [hi] at hix
      rw [cutB_none c s hno] at hq
      have hRa := hR.kept ((Kept.refl (fun _ => False) wr).alloc (.cells #[.string s] 9))
      have hle3 := hRa.le
      have hsp3 := hRa.sp
      rw [sv_length] at hle3 hsp3
      have HQ := Lib.hid hq
      clear hq
      go_wp2_with fail
      refine hix.mono ?_
      clear hix
      rintro e w2 ⟨rfl, rfl⟩
      go_wp2_with (at_builtin; go_must (refine wpList_append_rd _ rfl (.tmp 14) (.tmp 16) _ rfl 9 i0 _ 1 16 Tryz.underlying22 hi0 hz0' hz1 hz2 rfl (by omega) A3 l.length c3 rfl (sv l) (by rw [sv_length, Nat.mul_one]) hRa.rd hle3 (by rw [Nat.mul_one, Nat.mul_one]; exact hsp3) hRa.nil (some ⟨wr.heap.size, 0, none⟩) 1 1 rfl [.string s] rfl (Rd.new wr #[.string s] 9 (0, 0)) (by simp [Value.oneCell']) (by simp only [maxLen]; omega) (by omega) ?_; intro A' c' w5 r1 r2 r3 r4 r5; rw [← sv_length l] at r2 r3 r5; have hE := Lib.hid (hRa.grow r1 r2 r3 r4 r5)))
      go_ret
      rw [← HQ.out]
      have hE' := hE.out
      rw [← sv_snoc] at hE'
      exact ⟨A', c', by rw [List.length_append]; rfl, hE'⟩
    · rw [hi] at hix
      rw [cutB_some c s k hd1 hd2] at hq
      rw [size_list] at hkl
      have hki : (k : Int) < s.size := by omega
      have hsz2 : (s.extract (k + 1) s.size).size = s.size - (k + 1) := by rw [ByteArray.size_extract]; omega
      have hRa := hR.kept ((Kept.refl (fun _ => False) wr).alloc (.cells #[.string (s.extract 0 k)] 9))
      have hle3 := hRa.le
      have hsp3 := hRa.sp
      rw [sv_length] at hle3 hsp3
      have HQ := Lib.hid hq
      have HZ := Lib.hid hsz2
      clear hq hd1 hd2 hsz2
      go_wp2_with fail
      refine hix.mono ?_
      clear hix
      rintro e w2 ⟨rfl, rfl⟩
      go_wp2_with (at_builtin; go_must (refine wpList_append_rd _ rfl (.tmp 18) (.tmp 22) _ rfl 9 i0 _ 1 16 Tryz.underlying22 hi0 hz0' hz1 hz2 rfl (by omega) A3 l.length c3 rfl (sv l) (by rw [sv_length, Nat.mul_one]) hRa.rd hle3 (by rw [Nat.mul_one, Nat.mul_one]; exact hsp3) hRa.nil (some ⟨wr.heap.size, 0, none⟩) 1 1 rfl [.string (s.extract 0 k)] rfl (Rd.new wr #[.string (s.extract 0 k)] 9 (0, 0)) (by simp [Value.oneCell']) (by simp only [maxLen]; omega) (by omega) ?_; intro A' c' w5 r1 r2 r3 r4 r5; rw [← sv_length l] at r2 r3 r5; have hE := Lib.hid (hRa.grow r1 r2 r3 r4 r5)))
      go_roundw
      case rel => exact ⟨s.extract (k + 1) s.size, A', c', l ++ [s.extract 0 k], rfl, by rw [List.length_append]; rfl, by rw [HZ.out, List.length_append, List.length_singleton]; omega, by rw [sv_snoc]; exact hE.out, by rw [← HQ.out, List.append_assoc]; rfl⟩
      case measure => simp only [HZ.out]; omega
end Go.Proofs.YtagjdeekiiffjaaGreatDoor

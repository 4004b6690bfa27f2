/- RecordsLines' walk. No conditions. -/
import Derived.Test.YtagjdeekiiffjaaGreatDoorRecF
namespace Go.Proofs.YtagjdeekiiffjaaGreatDoor
open Go.RowKit

/-- Is there something behind the last byte c? -/
def restB (c : UInt8) (l : List UInt8) : Bool := match l.getLast? with
  | none => false
  | some x => x != c
theorem restB_cons (c : UInt8) (a l : List UInt8) : restB c (a ++ c :: l) = restB c l := by
  unfold restB
  cases l with
  | nil => simp
  | cons y l =>
    have h1 : (y :: l).getLast? = some ((y :: l).getLast (by simp)) := List.getLast?_eq_some_getLast (by simp)
    have h2 : (a ++ c :: y :: l).getLast? = some ((y :: l).getLast (by simp)) := by simp [List.getLast?_append, h1]
    rw [h1, h2]
theorem restB_out (c : UInt8) (a : List UInt8) (h : c ∉ a) (hn : a ≠ []) : restB c a = true := by
  unfold restB
  rw [List.getLast?_eq_some_getLast hn]
  have : a.getLast hn ≠ c := fun e => h (e ▸ List.getLast_mem hn)
  simpa using this
theorem lines_flat (c : UInt8) : ∀ (l a : List UInt8), c ∉ a → (recA c a l).flatMap (· ++ [c]) = a ++ l ++ (if restB c (a ++ l) then [c] else [])
  | [], a, h => by
    rw [recA, List.append_nil]
    by_cases ha : a = []
    · subst ha; simp [restB]
    · rw [if_neg ha, restB_out c a h ha]; simp
  | x :: l, a, h => by
    rw [recA]
    by_cases hx : x = c
    · subst hx
      rw [if_pos rfl, List.flatMap_cons, lines_flat x l [] (by simp), restB_cons]
      simp
    · rw [if_neg hx, lines_flat c l (a ++ [x]) (by simp [h]; exact fun e => hx e.symm)]
      simp
theorem lines_len (c : UInt8) : ∀ (l a : List UInt8), c ∉ a → (recA c a l).length = l.count c + (if restB c (a ++ l) then 1 else 0)
  | [], a, h => by
    rw [recA, List.append_nil]
    by_cases ha : a = []
    · subst ha; simp [restB]
    · rw [if_neg ha, restB_out c a h ha]; simp
  | x :: l, a, h => by
    rw [recA]
    by_cases hx : x = c
    · subst hx
      rw [if_pos rfl, List.length_cons, lines_len x l [] (by simp), restB_cons]
      simp
      omega
    · rw [if_neg hx, lines_len c l (a ++ [x]) (by simp [h]; exact fun e => hx e.symm)]
      have : (x == c) = false := by simpa using hx
      simp [List.count_cons, this]
theorem ba_app (a b : List UInt8) : (⟨a.toArray⟩ : ByteArray) ++ ⟨b.toArray⟩ = ⟨(a ++ b).toArray⟩ := by
  apply ByteArray.ext
  simp [ByteArray.data_append]
theorem restB_last (c : UInt8) (l : List UInt8) (h : 0 < l.length) : restB c l = (l[l.length - 1] != c) := by
  unfold restB
  rw [List.getLast?_eq_getElem?, List.getElem?_eq_getElem (by omega)]
theorem flat_le (l : List (List UInt8)) (c : UInt8) (k : Nat) : ((l.take k).flatMap (· ++ [c])).length ≤ (l.flatMap (· ++ [c])).length := by
  conv => rhs; rw [← List.take_append_drop k l, List.flatMap_append]
  rw [List.length_append]
  omega
set_option maxRecDepth 100000 in
set_option maxHeartbeats 4000000 in
theorem rlines_any (w : World) (A : Option Addr) (c : Nat) (xs : List UInt8) (h : Rd w A (bv xs)) (hle : xs.length ≤ c) (hl : xs.length ≤ maxLen) : Calls Tryz.prog 7 #[.slice A xs.length c] w fun e w' => e = .returned (.bool true) ∧ Kept (fun _ => False) w w' := by
  unfold maxLen at hl
  go_enter Tryz.func7, Tryz.ntmps7
  go_wp2_with fail
  refine (rawake_any w).mono ?_
  rintro e w0 ⟨rfl, k0⟩
  by_cases hx : 100 < (xs.length : Int)
  · go_wp2_with fail
    go_ret
    exact ⟨rfl, k0⟩
  have hs := split_one w0 10 (by decide) A c xs (h.same k0) hle (by omega)
  go_wp2_with fail
  refine hs.mono ?_
  clear hs
  rintro e w1 ⟨A1, c1, rfl, hR⟩
  go_wp2_with fail
  have hrd := h.same (k0.trans hR.k)
  have kk := k0.trans hR.k
  go_loopw [5, 7] (fun n i W => ∃ j : Nat, j ≤ xs.length ∧ i = .int .i64 j ∧ n = .int .i64 ((xs.take j).count 10 : Nat) ∧ W = w1) (fun _ i _ => xs.length - (intOf i).toNat)
  case atStart => exact ⟨0, Nat.zero_le _, rfl, by simp, by simp⟩
  case round =>
    obtain ⟨j, hj, rfl, rfl, hWe⟩ := hrel
    obtain rfl : w1 = wr := hWe.symm
    by_cases hjl : j < xs.length
    · obtain ⟨g, off, rfl, hc⟩ := hrd.get (bv_get xs j hjl)
      have hct : (xs.take (j + 1)).count 10 = (xs.take j).count 10 + (if xs[j] == 10 then 1 else 0) := by
        rw [List.take_succ_eq_append_getElem hjl, List.count_append]
        simp [List.count_cons]
      have hcl : (xs.take j).count 10 ≤ j := Nat.le_trans List.count_le_length (by simp; omega)
      by_cases h10 : xs[j] = 10
      · rw [h10] at hc
        have hct2 : (xs.take (j + 1)).count 10 = (xs.take j).count 10 + 1 := by rw [hct, h10]; rfl
        have H := Lib.hid hct2
        clear hct2
        generalize (xs.take j).count 10 = q1 at *
        clear hct h10
        go_wp2_with fail
        go_roundw
        case rel => exact ⟨j + 1, hjl, by go_num, by rw [H.out]; go_num, by simp⟩
        case measure => simp [intOf]; omega
      · have hne : (((xs[j]).toNat : Int) == 10) = false := by
          rw [beq_eq_false_iff_ne]
          intro e0
          apply h10
          apply UInt8.toNat_inj.1
          exact Int.ofNat_inj.1 e0
        have hct2 : (xs.take (j + 1)).count 10 = (xs.take j).count 10 := by rw [hct]; simp [h10]
        have H := Lib.hid hct2
        clear hct2
        generalize (xs.take j).count 10 = q1 at *
        generalize xs[j] = v at *
        clear hct h10
        go_wp2_with fail
        go_roundw
        case rel => exact ⟨j + 1, hjl, by go_num, by rw [H.out], by simp⟩
        case measure => simp [intOf]; omega
    · obtain rfl : j = xs.length := by omega
      rw [List.take_length]
      clear hj hjl
      have hlen := lines_len 10 xs [] (by simp)
      have hflat := lines_flat 10 xs [] (by simp)
      rw [List.nil_append] at hlen hflat
      have hstr := run_str (P := Tryz.prog) (l := xs) (n := xs.length) (c := c) Tryz.underlying26 Tryz.underlying5 Tryz.underlying9 hrd rfl
      have hcl : xs.count 10 ≤ xs.length := List.count_le_length
      generalize recA 10 [] xs = l at *
      by_cases hx0 : 0 < xs.length
      · obtain ⟨g, off, rfl, hc⟩ := hrd.get (bv_get xs (xs.length - 1) (by omega))
        rw [restB_last 10 xs hx0] at hlen hflat
        have hx0i : 0 < (xs.length : Int) := by omega
        by_cases h10 : xs[xs.length - 1] = 10
        · rw [h10] at hc hlen hflat
          rw [show ((10 : UInt8) != 10) = false from rfl, if_neg (by simp)] at hlen hflat
          rw [List.append_nil] at hflat
          rw [Nat.add_zero] at hlen
          generalize xs.count 10 = q at *
          go_wp2_with fail
          go_loopw [6, 8] (fun a i W => ∃ j : Nat, j ≤ l.length ∧ i = .int .i64 j ∧ a = .string ⟨((l.take j).flatMap (· ++ [10])).toArray⟩ ∧ W = w1) (fun _ i _ => l.length - (intOf i).toNat)
          case atStart => exact ⟨0, Nat.zero_le _, rfl, rfl, by simp⟩
          case round =>
            obtain ⟨j, hj, rfl, rfl, hWe⟩ := hrel
            obtain rfl : w1 = wr := hWe.symm
            by_cases hjl : j < l.length
            · obtain ⟨g, off, rfl, hc⟩ := hR.rd.get (show (svR l)[j]? = some (.string ⟨(l[j]).toArray⟩) by simp [svR, hjl])
              have hfl : ((l.take (j + 1)).flatMap (· ++ [10])) = (l.take j).flatMap (· ++ [10]) ++ l[j] ++ [10] := by
                rw [List.take_succ_eq_append_getElem hjl, List.flatMap_append]
                simp
              have hb := flat_le l 10 (j + 1)
              rw [hfl, hflat] at hb
              simp only [List.length_append, List.length_singleton, List.length_nil] at hb
              have H := Lib.hid hfl
              clear hfl
              generalize (l.take j).flatMap (· ++ [10]) = q1 at *
              generalize l[j] = v at *
              have hs1 : (⟨q1.toArray⟩ : ByteArray).size = q1.length := by simp [ByteArray.size]
              have hc1 : ¬ 9223372036854775807 < q1.length + v.length := by omega
              have hc2 : ¬ 9223372036854775807 < q1.length + v.length + 1 := by omega
              go_wp2_with fail
              go_roundw
              case rel => exact ⟨j + 1, hjl, by go_num, by rw [H.out, ba_app q1 v]; exact congrArg Value.string (ba_app (q1 ++ v) [10]), by simp⟩
              case measure => simp [intOf]; omega
            · obtain rfl : j = l.length := by omega
              rw [List.take_length, hflat]
              have hq : (l.length : Int) = (q : Int) := by omega
              go_wp2_with fail
              go_ret
              exact ⟨rfl, kk⟩
        · have hne : (((xs[xs.length - 1]).toNat : Int) == 10) = false := by
            rw [beq_eq_false_iff_ne]
            intro e0
            apply h10
            apply UInt8.toNat_inj.1
            exact Int.ofNat_inj.1 e0
          rw [show ((xs[xs.length - 1]) != 10) = true by simpa using h10, if_pos rfl] at hlen hflat
          have hsz : (⟨xs.toArray⟩ : ByteArray).size = xs.length := by simp [ByteArray.size]
          have hc3 : ¬ 9223372036854775807 < xs.length + 1 := by omega
          generalize xs[xs.length - 1] = z at *
          generalize xs.count 10 = q at *
          clear h10
          go_wp2_with fail
          go_loopw [6, 8] (fun a i W => ∃ j : Nat, j ≤ l.length ∧ i = .int .i64 j ∧ a = .string ⟨((l.take j).flatMap (· ++ [10])).toArray⟩ ∧ W = w1) (fun _ i _ => l.length - (intOf i).toNat)
          case atStart => exact ⟨0, Nat.zero_le _, rfl, rfl, by simp⟩
          case round =>
            obtain ⟨j, hj, rfl, rfl, hWe⟩ := hrel
            obtain rfl : w1 = wr := hWe.symm
            by_cases hjl : j < l.length
            · obtain ⟨g, off, rfl, hc⟩ := hR.rd.get (show (svR l)[j]? = some (.string ⟨(l[j]).toArray⟩) by simp [svR, hjl])
              have hfl : ((l.take (j + 1)).flatMap (· ++ [10])) = (l.take j).flatMap (· ++ [10]) ++ l[j] ++ [10] := by
                rw [List.take_succ_eq_append_getElem hjl, List.flatMap_append]
                simp
              have hb := flat_le l 10 (j + 1)
              rw [hfl, hflat] at hb
              simp only [List.length_append, List.length_singleton, List.length_nil] at hb
              have H := Lib.hid hfl
              clear hfl
              generalize (l.take j).flatMap (· ++ [10]) = q1 at *
              generalize l[j] = v at *
              have hs1 : (⟨q1.toArray⟩ : ByteArray).size = q1.length := by simp [ByteArray.size]
              have hc1 : ¬ 9223372036854775807 < q1.length + v.length := by omega
              have hc2 : ¬ 9223372036854775807 < q1.length + v.length + 1 := by omega
              go_wp2_with fail
              go_roundw
              case rel => exact ⟨j + 1, hjl, by go_num, by rw [H.out, ba_app q1 v]; exact congrArg Value.string (ba_app (q1 ++ v) [10]), by simp⟩
              case measure => simp [intOf]; omega
            · obtain rfl : j = l.length := by omega
              rw [List.take_length, hflat]
              have hq : (l.length : Int) = (q : Int) + 1 := by omega
              have hj1 := ba_app xs [10]
              have hj2 : (⟨xs.toArray⟩ : ByteArray) ++ ⟨#[10]⟩ = ⟨(xs ++ [10]).toArray⟩ := hj1
              clear hj1
              go_wp2_with fail
              go_ret
              exact ⟨rfl, kk⟩
      · obtain rfl : xs = [] := List.eq_nil_of_length_eq_zero (by omega)
        rw [show restB 10 [] = false from rfl, if_neg (by simp)] at hlen hflat
        obtain rfl : l = [] := List.eq_nil_of_length_eq_zero (by rw [hlen]; rfl)
        clear hflat hlen hcl
        have hstr0 : (convert 26 9 (.slice A 0 c)).run Tryz.prog w1 = .ok (.string ⟨#[]⟩) w1 := hstr
        go_wp2_with fail
        refine wp_loop_rounds 1 ?_
        rw [rounds_succ]
        go_wp2_with fail
        go_ret
        exact ⟨rfl, kk⟩
end Go.Proofs.YtagjdeekiiffjaaGreatDoor

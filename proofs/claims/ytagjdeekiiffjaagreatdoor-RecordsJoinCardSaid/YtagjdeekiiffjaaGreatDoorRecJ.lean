/- RecordsJoin's walk. No conditions. -/
import Derived.Test.YtagjdeekiiffjaaGreatDoorRecF
import Derived.Test.YtagjdeekiiffjaaGreatDoorMemS
namespace Go.Proofs.YtagjdeekiiffjaaGreatDoor
open Go.RowKit

/-- The first texts, with a byte between. -/
def joinI (c : UInt8) (l : List (List UInt8)) : Nat → List UInt8
  | 0 => []
  | j + 1 => (if 0 < j then joinI c l j ++ [c] else joinI c l j) ++ l.getD j []
theorem joinI_cut (c : UInt8) (l : List (List UInt8)) : ∀ (j : Nat), j < l.length → (∀ x ∈ l.take (j + 1), c ∉ x) → ∀ q, recA c [] (joinI c l (j + 1) ++ q) = l.take j ++ recA c (l.getD j []) q
  | 0, hj, h, q => by
    have h0 : c ∉ l.getD 0 [] := h _ (by
      rw [List.mem_take_iff_getElem]
      exact ⟨0, by omega, by simp [List.getD, hj]⟩)
    simp only [joinI, Nat.lt_irrefl, if_false, List.nil_append, List.take_zero]
    rw [recA_ahead c _ [] q h0, List.nil_append]
  | j + 1, hj, h, q => by
    have h0 : c ∉ l.getD (j + 1) [] := h _ (by
      rw [List.mem_take_iff_getElem]
      exact ⟨j + 1, by omega, by simp [List.getD, hj]⟩)
    have ih := joinI_cut c l j (by omega) (fun x hx => h x (List.mem_of_mem_take (by rw [List.take_take]; rw [show min (j + 1) (j + 1 + 1) = j + 1 by omega]; exact hx) )) (c :: (l.getD (j + 1) [] ++ q))
    have e : joinI c l (j + 1 + 1) ++ q = joinI c l (j + 1) ++ (c :: (l.getD (j + 1) [] ++ q)) := by
      rw [joinI, if_pos (by omega)]
      simp
    rw [e, ih, recA, if_pos rfl, recA_ahead c _ [] q h0, List.nil_append]
    have hg : l.getD j [] = l[j] := by simp [List.getD, show j < l.length by omega]
    rw [hg, List.take_succ_eq_append_getElem (by omega), List.append_assoc]
    rfl
theorem join_back (c : UInt8) (l : List (List UInt8)) (h : ∀ x ∈ l, c ∉ x) (hlast : ∀ hn : 0 < l.length, l[l.length - 1] ≠ []) : recA c [] (joinI c l l.length) = l := by
  rcases Nat.eq_zero_or_pos l.length with h0 | h0
  · obtain rfl := List.eq_nil_of_length_eq_zero h0
    rfl
  · obtain ⟨j, hj⟩ : ∃ j, l.length = j + 1 := ⟨l.length - 1, by omega⟩
    have := joinI_cut c l j (by omega) (fun x hx => h x (List.mem_of_mem_take hx)) []
    rw [List.append_nil] at this
    have hg : l.getD j [] = l[j] := by simp [List.getD, show j < l.length by omega]
    have hne : l[j] ≠ [] := by
      have := hlast h0
      simpa [hj] using this
    rw [hj, this, hg, recA, if_neg hne]
    conv => rhs; rw [← List.take_append_drop j l, List.drop_eq_getElem_cons (by omega)]
    rw [List.drop_eq_nil_of_le (by omega)]
theorem joinI_len (c : UInt8) (l : List (List UInt8)) : ∀ j, j ≤ l.length → (∀ x ∈ l.take j, x.length ≤ 20) → (joinI c l j).length ≤ j * 21
  | 0, _, _ => by simp [joinI]
  | j + 1, hj, h => by
    have h1 := joinI_len c l j (by omega) (fun x hx => h x (List.mem_of_mem_take (by rw [List.take_take]; rw [show min j (j + 1) = j by omega]; exact hx)))
    have h2 : (l.getD j []).length ≤ 20 := h _ (by
      rw [List.mem_take_iff_getElem]
      exact ⟨j, by omega, by simp [List.getD, show j < l.length by omega]⟩)
    rw [joinI]
    split
    · rw [List.length_append, List.length_append, List.length_singleton]; omega
    · rw [List.length_append]; omega
theorem cell_kept {w W : World} {p : Addr} {v : Value} (k : Kept (fun _ => False) w W) (h : w.cell? p = some v) : W.cell? p = some v := by
  rw [World.cell?_of_block (w := w) (k.block p.block (World.block_lt_of_cell? w _ h) id)]
  exact h
theorem Row.grows {w0 W w1 : World} {c c1 m : Nat} {A A1 : Option Addr} {xs ys : List Value} (h : Row w0 W A c xs) (hm : ys.length = m) (r1 : Rd w1 A1 (xs ++ ys)) (r2 : Sp w1 A1 (xs.length + m) c1) (r3 : xs.length + m ≤ c1) (r4 : A1 = none → c1 = 0)
    (r5 : (A1 = A ∧ c1 = c ∧ Kept (fun k => xs.length < c ∧ At A k) W w1) ∨ (∃ g, A1 = some ⟨g, 0, none⟩ ∧ W.heap.size ≤ g ∧ Grew W w1 g)) : Row w0 w1 A1 c1 (xs ++ ys) := by
  have hl : (xs ++ ys).length = xs.length + m := by rw [List.length_append, hm]
  rcases r5 with ⟨rfl, rfl, k⟩ | ⟨g, rfl, hg, k⟩
  · exact ⟨h.k.pastR k fun x hx hs => by have := (h.own x hs.2).1; omega, r1, hl ▸ r2, hl ▸ r3, r4, fun g hg => ⟨(h.own g hg).1, Nat.lt_of_lt_of_le (h.own g hg).2 k.size⟩⟩
  · refine ⟨h.k.trans k.toKept, r1, hl ▸ r2, hl ▸ r3, r4, ?_⟩
    rintro g' ⟨_, he, rfl⟩
    cases he
    exact ⟨Nat.le_trans h.k.size hg, k.lt⟩
set_option maxRecDepth 100000 in
set_option maxHeartbeats 4000000 in
theorem rjoin_any (w : World) (A : Option Addr) (c : Nat) (l : List (List UInt8)) (sep : UInt8) (h : Rd w A (svR l)) (hle : l.length ≤ c) (hl : l.length ≤ maxLen) (hls : ∀ x ∈ l, x.length ≤ maxLen) :
    Calls Tryz.prog 6 #[.slice A l.length c, .int .u8 sep.toNat] w fun e w' => e = .returned (.bool true) ∧ Kept (fun _ => False) w w' := by
  unfold maxLen at hl hls
  obtain ⟨i0, hi0, hz0, hz1, hz2⟩ := info_parts infou8
  go_enter Tryz.func6, Tryz.ntmps6
  go_wp2_with fail
  refine (rawake_any w).mono ?_
  rintro e w0 ⟨rfl, k0⟩
  by_cases hx : 10 < (l.length : Int)
  · go_wp2_with fail
    go_ret
    exact ⟨rfl, k0⟩
  by_cases hs : sep = 92
  · have hsI : ((sep.toNat : Int) == 92) = true := by subst hs; rfl
    clear hs
    go_wp2_with fail
    go_ret
    exact ⟨rfl, k0⟩
  have hsI : ((sep.toNat : Int) == 92) = false := by
    rw [beq_eq_false_iff_ne]
    intro e0
    apply hs
    apply UInt8.toNat_inj.1
    exact Int.ofNat_inj.1 e0
  go_wp2_with fail
  clear hsI
  go_loopw [5, 6] (fun b i W => ∃ (j : Nat) (A1 : Option Addr) (c1 : Nat), j ≤ l.length ∧ i = .int .i64 j ∧ b = .slice A1 (joinI sep l j).length c1 ∧ Row w0 W A1 c1 (bv (joinI sep l j)) ∧ (∀ x ∈ l.take j, x.length ≤ 20 ∧ sep ∉ x) ∧ (j = l.length → ∀ hn : 0 < l.length, l[l.length - 1] ≠ [])) (fun _ i _ => l.length - (intOf i).toNat)
  case atStart => exact ⟨0, none, 0, Nat.zero_le _, rfl, rfl, Row.none_ (Kept.refl _ _), by simp, fun _ _ => by omega⟩
  case round =>
    obtain ⟨j, A1, c1, hj, rfl, rfl, hR, hall, hlast⟩ := hrel
    by_cases hjl : j < l.length
    · obtain ⟨g, off, rfl, hcb⟩ := h.get (show (svR l)[j]? = some (.string ⟨(l[j]).toArray⟩) by simp [svR, hjl])
      have kk := k0.trans hR.k
      have hc := cell_kept kk hcb
      by_cases h20 : 20 < ((l[j]).length : Int)
      · generalize l[j] = v at *
        go_wp2_with fail
        go_ret
        exact ⟨rfl, kk⟩
      by_cases hlj : j = l.length - 1 ∧ l[j] = []
      · obtain ⟨hj1, hj2⟩ := hlj
        rw [hj2, show (⟨([] : List UInt8).toArray⟩ : ByteArray) = ⟨#[]⟩ from rfl] at hc
        have hjI : (l.length : Int) - 1 = (j : Int) := by omega
        clear hj2 hj1
        go_wp2_with fail
        go_ret
        exact ⟨rfl, kk⟩
      have hlt := joinI_len sep l j hj (fun x hx => (hall x hx).1)
      have hJ : joinI sep l (j + 1) = (if 0 < j then joinI sep l j ++ [sep] else joinI sep l j) ++ l.getD j [] := rfl
      rw [show l.getD j [] = l[j] by simp [List.getD, hjl]] at hJ
      have HL := Lib.hid hlj
      clear hlj
      have HJ0 := Lib.hid hJ
      clear hJ
      generalize hq0 : joinI sep l j = q at *
      generalize hv0 : l[j] = v at *
      have HL2 : Hid (j + 1 = l.length → v ≠ []) := Lib.hid (fun e h2 => HL.out ⟨by omega, h2⟩)
      by_cases h1 : j = l.length - 1
      · have hjI : (l.length : Int) - 1 = (j : Int) := by omega
        have hvE : v.isEmpty = false := by
          have := HL2.out (by omega)
          cases v with
          | nil => exact absurd rfl this
          | cons _ _ => rfl
        clear h1
        go_wp2_with fail
        rename World => W1
        go_loopw [7] (fun k W => ∃ m : Nat, m ≤ v.length ∧ k = .int .i64 m ∧ W = W1 ∧ sep ∉ v.take m) (fun k _ => v.length - (intOf k).toNat)
        case atStart => exact ⟨0, Nat.zero_le _, rfl, by simp, by simp⟩
        case round =>
          obtain ⟨m, hm, rfl, hWe, hno⟩ := hrel
          obtain rfl : W1 = wr := hWe.symm
          by_cases hml : m < v.length
          · have hmI : (m : Int) < v.length := by omega
            go_wp2_with fail
            · go_ret
              exact ⟨rfl, kk⟩
            · rename_i hne
              go_roundw
              case rel => exact ⟨m + 1, hml, by go_num, by simp, by
                rw [List.take_succ_eq_append_getElem hml]
                intro hmem
                rcases List.mem_append.1 hmem with h9 | h9
                · exact hno h9
                · rw [List.mem_singleton.1 h9] at hne
                  have : (((v[m]).toNat : Int) == ((v[m]).toNat : Int)) = false := hne
                  simp at this⟩
              case measure => simp [intOf]; omega
          · obtain rfl : m = v.length := by omega
            rw [List.take_length] at hno
            have HV := Lib.hid (And.intro hv0 (And.intro (show v.length ≤ 20 by omega) hno))
            by_cases h0 : 0 < j
            · have h0I : 0 < (j : Int) := by omega
              have hRa := hR.kept ((Kept.refl (fun _ => False) W1).alloc (.cells #[.int .u8 sep.toNat] 5))
              have hle1 := hRa.le
              have hsp1 := hRa.sp
              rw [bv_length] at hle1 hsp1
              go_wp2_with (first | (at_builtin; (refine wpList_append_rd _ rfl (.tmp 65) (.tmp 67) _ rfl 5 i0 _ 1 1 Tryz.underlying26 hi0 hz0 hz1 hz2 rfl (by omega) A1 q.length c1 rfl (bv q) (by rw [bv_length, Nat.mul_one]) hRa.rd hle1 (by rw [Nat.mul_one, Nat.mul_one]; exact hsp1) hRa.nil (some ⟨W1.heap.size, 0, none⟩) 1 1 rfl (bv [sep]) rfl (Rd.new W1 #[.int .u8 sep.toNat] 5 (0, 0)) (bv_one _) (by simp only [maxLen]; omega) (by omega) ?_; intro A2 c2 w5 r1 r2 r3 r4 r5; rw [Nat.mul_one, Nat.mul_one] at r2; rw [← bv_length q] at r2 r3 r5; have hRb := hRa.grows (m := 1) rfl r1 r2 r3 r4 r5; have hRb := (bv_append q [sep]).symm ▸ hRb; have hc5 := cell_kept (k0.trans hRb.k) hcb; clear r1 r2 r3 r4 r5)) | (at_builtin; go_must (refine wpList_append_rd_str _ rfl (.tmp 69) (.tmp 73) _ _ rfl 5 i0 _ Tryz.underlying26 Tryz.underlying9 hi0 hz0 hz1 hz2 rfl A2 (q.length + 1) c2 rfl (bv (q ++ [sep])) (by rw [bv_length, List.length_append, List.length_singleton]) hRb.rd (by have := hRb.le; rw [bv_length, List.length_append, List.length_singleton] at this; exact this) (by have := hRb.sp; rw [bv_length, List.length_append, List.length_singleton] at this; exact this) hRb.nil v rfl (by omega) ?_; intro A3 c3 w6 s1 s2 s3 s4 s5; have HR2 := Lib.hid ((bv_append (q ++ [sep]) v).symm ▸ hRb.grows (m := v.length) (bv_length v) s1 (by rw [bv_length, List.length_append, List.length_singleton]; exact s2) (by rw [bv_length, List.length_append, List.length_singleton]; exact s3) s4 (by rw [bv_length, List.length_append, List.length_singleton]; exact s5)); clear s1 s2 s3 s4 s5)))
              go_roundw
              case rel =>
                have HO := HR2.out
                have hJ := HJ0.out
                rw [if_pos h0] at hJ
                refine ⟨j + 1, _, _, hjl, by go_num, by rw [hJ, List.length_append, List.length_append, List.length_singleton], by rw [hJ]; exact HO, fun x hx' => ?_, fun hj1 hn => ?_⟩
                · rw [List.take_succ_eq_append_getElem hjl] at hx'
                  rcases List.mem_append.1 hx' with hx1 | hx1
                  · exact hall x hx1
                  · rw [List.mem_singleton.1 hx1, HV.out.1]
                    exact HV.out.2
                · have e8 : l[l.length - 1] = l[j] := by congr 1; omega
                  rw [e8, HV.out.1]
                  exact HL2.out hj1
              case measure => simp [intOf]; omega
            · have h0I : ¬ 0 < (j : Int) := by omega
              go_wp2_with ((at_builtin; go_must (refine wpList_append_rd_str _ rfl (.tmp 69) (.tmp 73) _ _ rfl 5 i0 _ Tryz.underlying26 Tryz.underlying9 hi0 hz0 hz1 hz2 rfl A1 (q.length) c1 rfl (bv q) (by rw [bv_length]) hR.rd (by have := hR.le; rw [bv_length] at this; exact this) (by have := hR.sp; rw [bv_length] at this; exact this) hR.nil v rfl (by omega) ?_; intro A3 c3 w6 s1 s2 s3 s4 s5; have HR2 := Lib.hid ((bv_append q v).symm ▸ hR.grows (m := v.length) (bv_length v) s1 (by rw [bv_length]; exact s2) (by rw [bv_length]; exact s3) s4 (by rw [bv_length]; exact s5)); clear s1 s2 s3 s4 s5)))
              go_roundw
              case rel =>
                have HO := HR2.out
                have hJ := HJ0.out
                rw [if_neg h0] at hJ
                refine ⟨j + 1, _, _, hjl, by go_num, by rw [hJ, List.length_append], by rw [hJ]; exact HO, fun x hx' => ?_, fun hj1 hn => ?_⟩
                · rw [List.take_succ_eq_append_getElem hjl] at hx'
                  rcases List.mem_append.1 hx' with hx1 | hx1
                  · exact hall x hx1
                  · rw [List.mem_singleton.1 hx1, HV.out.1]
                    exact HV.out.2
                · have e8 : l[l.length - 1] = l[j] := by congr 1; omega
                  rw [e8, HV.out.1]
                  exact HL2.out hj1
              case measure => simp [intOf]; omega
      · have hjI : ((j : Int) == (l.length : Int) - 1) = false := by rw [beq_eq_false_iff_ne]; omega
        clear h1
        go_wp2_with fail
        rename World => W1
        go_loopw [7] (fun k W => ∃ m : Nat, m ≤ v.length ∧ k = .int .i64 m ∧ W = W1 ∧ sep ∉ v.take m) (fun k _ => v.length - (intOf k).toNat)
        case atStart => exact ⟨0, Nat.zero_le _, rfl, by simp, by simp⟩
        case round =>
          obtain ⟨m, hm, rfl, hWe, hno⟩ := hrel
          obtain rfl : W1 = wr := hWe.symm
          by_cases hml : m < v.length
          · have hmI : (m : Int) < v.length := by omega
            go_wp2_with fail
            · go_ret
              exact ⟨rfl, kk⟩
            · rename_i hne
              go_roundw
              case rel => exact ⟨m + 1, hml, by go_num, by simp, by
                rw [List.take_succ_eq_append_getElem hml]
                intro hmem
                rcases List.mem_append.1 hmem with h9 | h9
                · exact hno h9
                · rw [List.mem_singleton.1 h9] at hne
                  have : (((v[m]).toNat : Int) == ((v[m]).toNat : Int)) = false := hne
                  simp at this⟩
              case measure => simp [intOf]; omega
          · obtain rfl : m = v.length := by omega
            rw [List.take_length] at hno
            have HV := Lib.hid (And.intro hv0 (And.intro (show v.length ≤ 20 by omega) hno))
            by_cases h0 : 0 < j
            · have h0I : 0 < (j : Int) := by omega
              have hRa := hR.kept ((Kept.refl (fun _ => False) W1).alloc (.cells #[.int .u8 sep.toNat] 5))
              have hle1 := hRa.le
              have hsp1 := hRa.sp
              rw [bv_length] at hle1 hsp1
              go_wp2_with (first | (at_builtin; (refine wpList_append_rd _ rfl (.tmp 65) (.tmp 67) _ rfl 5 i0 _ 1 1 Tryz.underlying26 hi0 hz0 hz1 hz2 rfl (by omega) A1 q.length c1 rfl (bv q) (by rw [bv_length, Nat.mul_one]) hRa.rd hle1 (by rw [Nat.mul_one, Nat.mul_one]; exact hsp1) hRa.nil (some ⟨W1.heap.size, 0, none⟩) 1 1 rfl (bv [sep]) rfl (Rd.new W1 #[.int .u8 sep.toNat] 5 (0, 0)) (bv_one _) (by simp only [maxLen]; omega) (by omega) ?_; intro A2 c2 w5 r1 r2 r3 r4 r5; rw [Nat.mul_one, Nat.mul_one] at r2; rw [← bv_length q] at r2 r3 r5; have hRb := hRa.grows (m := 1) rfl r1 r2 r3 r4 r5; have hRb := (bv_append q [sep]).symm ▸ hRb; have hc5 := cell_kept (k0.trans hRb.k) hcb; clear r1 r2 r3 r4 r5)) | (at_builtin; go_must (refine wpList_append_rd_str _ rfl (.tmp 69) (.tmp 73) _ _ rfl 5 i0 _ Tryz.underlying26 Tryz.underlying9 hi0 hz0 hz1 hz2 rfl A2 (q.length + 1) c2 rfl (bv (q ++ [sep])) (by rw [bv_length, List.length_append, List.length_singleton]) hRb.rd (by have := hRb.le; rw [bv_length, List.length_append, List.length_singleton] at this; exact this) (by have := hRb.sp; rw [bv_length, List.length_append, List.length_singleton] at this; exact this) hRb.nil v rfl (by omega) ?_; intro A3 c3 w6 s1 s2 s3 s4 s5; have HR2 := Lib.hid ((bv_append (q ++ [sep]) v).symm ▸ hRb.grows (m := v.length) (bv_length v) s1 (by rw [bv_length, List.length_append, List.length_singleton]; exact s2) (by rw [bv_length, List.length_append, List.length_singleton]; exact s3) s4 (by rw [bv_length, List.length_append, List.length_singleton]; exact s5)); clear s1 s2 s3 s4 s5)))
              go_roundw
              case rel =>
                have HO := HR2.out
                have hJ := HJ0.out
                rw [if_pos h0] at hJ
                refine ⟨j + 1, _, _, hjl, by go_num, by rw [hJ, List.length_append, List.length_append, List.length_singleton], by rw [hJ]; exact HO, fun x hx' => ?_, fun hj1 hn => ?_⟩
                · rw [List.take_succ_eq_append_getElem hjl] at hx'
                  rcases List.mem_append.1 hx' with hx1 | hx1
                  · exact hall x hx1
                  · rw [List.mem_singleton.1 hx1, HV.out.1]
                    exact HV.out.2
                · have e8 : l[l.length - 1] = l[j] := by congr 1; omega
                  rw [e8, HV.out.1]
                  exact HL2.out hj1
              case measure => simp [intOf]; omega
            · have h0I : ¬ 0 < (j : Int) := by omega
              go_wp2_with ((at_builtin; go_must (refine wpList_append_rd_str _ rfl (.tmp 69) (.tmp 73) _ _ rfl 5 i0 _ Tryz.underlying26 Tryz.underlying9 hi0 hz0 hz1 hz2 rfl A1 (q.length) c1 rfl (bv q) (by rw [bv_length]) hR.rd (by have := hR.le; rw [bv_length] at this; exact this) (by have := hR.sp; rw [bv_length] at this; exact this) hR.nil v rfl (by omega) ?_; intro A3 c3 w6 s1 s2 s3 s4 s5; have HR2 := Lib.hid ((bv_append q v).symm ▸ hR.grows (m := v.length) (bv_length v) s1 (by rw [bv_length]; exact s2) (by rw [bv_length]; exact s3) s4 (by rw [bv_length]; exact s5)); clear s1 s2 s3 s4 s5)))
              go_roundw
              case rel =>
                have HO := HR2.out
                have hJ := HJ0.out
                rw [if_neg h0] at hJ
                refine ⟨j + 1, _, _, hjl, by go_num, by rw [hJ, List.length_append], by rw [hJ]; exact HO, fun x hx' => ?_, fun hj1 hn => ?_⟩
                · rw [List.take_succ_eq_append_getElem hjl] at hx'
                  rcases List.mem_append.1 hx' with hx1 | hx1
                  · exact hall x hx1
                  · rw [List.mem_singleton.1 hx1, HV.out.1]
                    exact HV.out.2
                · have e8 : l[l.length - 1] = l[j] := by congr 1; omega
                  rw [e8, HV.out.1]
                  exact HL2.out hj1
              case measure => simp [intOf]; omega
    · obtain rfl : j = l.length := by omega
      rw [List.take_length] at hall
      have hback := join_back sep l (fun x hx => (hall x hx).2) (hlast rfl)
      have hlen := joinI_len sep l l.length (Nat.le_refl _) (by rw [List.take_length]; exact fun x hx => (hall x hx).1)
      have hle1 := hR.le
      rw [bv_length] at hle1
      have kk := k0.trans hR.k
      generalize joinI sep l l.length = q at *
      rename World => W1
      have ka := (Kept.refl (fun _ => False) W1).alloc (.cells #[.int .u8 sep.toNat] 5)
      have hstr := run_str (P := Tryz.prog) (l := [sep]) (n := 1) (c := 1) Tryz.underlying26 Tryz.underlying5 Tryz.underlying9 (Rd.new W1 #[.int .u8 sep.toNat] 5 (0, 0)) rfl
      have hsp := split_one _ sep hs A1 c1 q (hR.rd.same ka) hle1 (by omega)
      rw [hback] at hsp
      go_wp2_with fail
      refine hsp.mono ?_
      clear hsp
      rintro e w2 ⟨A2, c2, rfl, hR2⟩
      have k2 := (kk.trans ka).trans hR2.k
      have hlI : (l.length : Int) ≤ 10 := by omega
      clear hback hlen hR hlast
      go_wp2_with fail
      go_loopw [10] (fun i W => ∃ m : Nat, m ≤ l.length ∧ i = .int .i64 m ∧ Kept (fun _ => False) w2 W) (fun i _ => l.length - (intOf i).toNat)
      case atStart => exact ⟨0, Nat.zero_le _, rfl, Kept.refl _ _⟩
      case round =>
        obtain ⟨m, hm, rfl, k3⟩ := hrel
        by_cases hml : m < l.length
        · obtain ⟨g, off, rfl, hc0⟩ := h.get (show (svR l)[m]? = some (.string ⟨(l[m]).toArray⟩) by simp [svR, hml])
          obtain ⟨g2, off2, rfl, hc2⟩ := hR2.rd.get (show (svR l)[m]? = some (.string ⟨(l[m]).toArray⟩) by simp [svR, hml])
          have hc := cell_kept (k2.trans k3) hc0
          have hc' := cell_kept k3 hc2
          generalize l[m] = v at *
          clear hc0 hc2
          go_wp2_with fail
          go_quiet (fail)
          go_wp2_with fail
          go_roundw
          case rel => exact ⟨m + 1, hml, by go_num, k3.drewN _⟩
          case measure => simp [intOf]; omega
        · obtain rfl : m = l.length := by omega
          go_wp2_with fail
          go_ret
          exact ⟨rfl, k2.trans k3⟩
end Go.Proofs.YtagjdeekiiffjaaGreatDoor

/- FieldsMost's walk. No conditions. -/
import Derived.Test.YtagjdeekiiffjaaGreatDoorFldK
import Derived.Test.YtagjdeekiiffjaaGreatDoorClone
import Derived.Test.YtagjdeekiiffjaaGreatDoorErrIs
namespace Go.Proofs.YtagjdeekiiffjaaGreatDoor
open Go.RowKit

theorem cutS_no (z : UInt8) (s : ByteArray) (h : z ∉ s.data.toList) : cutS z s = if s.size = 0 then [] else [s] := by
  unfold cutS
  rw [cutB_none z s h]
/-- So many bytes x. -/
def exes (n : Nat) : ByteArray := ⟨(List.replicate n (120 : UInt8)).toArray⟩
theorem exes_size (n : Nat) : (exes n).size = n := by
  rw [← size_list]
  simp [exes]
def fillV (n j : Nat) : Array Value := (bv (List.replicate j 120 ++ List.replicate (n - j) 0)).toArray
theorem exes_cut (n : Nat) : cutS 44 (exes n) = if n = 0 then [] else [exes n] := by
  rw [cutS_no, exes_size]
  intro h
  have h2 : (44 : UInt8) ∈ List.replicate n (120 : UInt8) := h
  have := List.eq_of_mem_replicate h2
  cases this
theorem fillV_get (n j : Nat) (h : j < n) : (fillV n j)[j]? = some (.int .u8 0) := by
  unfold fillV
  simp only [bv, List.map_append, List.map_replicate]
  have e : n - j = (n - (j + 1)) + 1 := by omega
  rw [List.getElem?_toArray, List.getElem?_append_right (by simp), e, List.replicate_succ]
  simp
theorem exes_rd {w : World} {g n : Nat} {t : TypeId} (h : Blk w g t (fillV n n)) : Rd w (some ⟨g, 0, none⟩) (bv (List.replicate n 120)) :=
  fun _ => ⟨g, 0, rfl, fun j u hu => by
    rw [Nat.zero_add, h.cell j]
    unfold fillV
    rw [Nat.sub_self, List.replicate_zero, List.append_nil]
    simpa using hu⟩
theorem fillV_set (n j : Nat) (h : j < n) : (fillV n j).setIfInBounds j (.int .u8 120) = fillV n (j + 1) := by
  unfold fillV
  apply Array.ext'
  rw [Array.toList_setIfInBounds]
  simp only [bv, List.map_append, List.map_replicate]
  rw [List.set_append_right _ _ (by simp)]
  have e : n - j = (n - (j + 1)) + 1 := by omega
  rw [e, List.replicate_succ]
  simp only [List.length_replicate, Nat.sub_self, List.set_cons_zero]
  rw [List.replicate_succ']
  simp
theorem exes_put (n : Nat) : putM (cutS 44 (exes n)) 1 ⟨#[121]⟩ = [exes n, ⟨#[121]⟩] := by
  rw [exes_cut]
  by_cases h : n = 0
  · subst h; rfl
  · rw [if_neg h]; rfl
theorem exes_join (n : Nat) : joinB [exes n, ⟨#[121]⟩] ⟨#[32]⟩ = exes n ++ ⟨#[32, 121]⟩ := by
  apply ByteArray.ext
  unfold joinB
  simp [Lib.join, List.intercalate, exes]
theorem szs_empt (k : Nat) : szs (List.replicate k ByteArray.empty) = 0 := by
  induction k with
  | zero => rfl
  | succ k ih => rw [List.replicate_succ, szs, ih]; rfl
theorem sized_none (k : Nat) : sizedM [] k = List.replicate k ByteArray.empty := by simp [sizedM]
set_option maxRecDepth 100000 in
set_option maxHeartbeats 8000000 in
theorem most_any (w : World) (n0 size0 : Int) (hn1 : -9223372036854775808 ≤ n0 ∧ n0 ≤ 9223372036854775807) (hs1 : -9223372036854775808 ≤ size0 ∧ size0 ≤ 9223372036854775807) :
    Calls Tryz.prog 4 #[.int .i64 n0, .int .i64 size0] w fun e w' => e = .returned (.bool true) ∧ Kept (fun _ => False) w w' := by
  obtain ⟨i0, hi0, hz0, hz1, hz2⟩ := info_parts infou8
  go_enter Tryz.func4, Tryz.ntmps4
  go_wp2_with fail
  refine (fawake_any w).mono ?_
  rintro e w0 ⟨rfl, k0⟩
  by_cases h1 : n0 < 0
  · go_wp2_with fail
    go_ret
    exact ⟨rfl, k0⟩
  by_cases h2 : 1003 < n0
  · go_wp2_with fail
    go_ret
    exact ⟨rfl, k0⟩
  by_cases h3 : size0 < 0
  · go_wp2_with fail
    go_ret
    exact ⟨rfl, k0⟩
  by_cases h4 : 70000 < size0
  · go_wp2_with fail
    go_ret
    exact ⟨rfl, k0⟩
  obtain ⟨n, rfl⟩ := Int.eq_ofNat_of_zero_le (show 0 ≤ n0 by omega)
  obtain ⟨z, rfl⟩ := Int.eq_ofNat_of_zero_le (show 0 ≤ size0 by omega)
  have hmk := fun (w : World) => run_make_u8 (P := Tryz.prog) w 26 5 i0 Tryz.underlying26 hi0 hz0 hz1 hz2 z (by omega)
  go_wp2_with fail
  refine (new_any w0).mono ?_
  rintro e w1 ⟨rfl, k1, r1⟩
  have hb1 : w0.heap.size < w1.heap.size := r1.blk.lt
  have hB1 : w.heap.size ≤ w0.heap.size := k0.size
  have kb := k0.trans k1
  generalize w0.heap.size = b at *
  have hsp := sep_any r1 (fun g hg => (not_at_none g hg).elim) 44 (by decide) (by decide)
  go_wp2_with fail
  refine hsp.mono ?_
  clear hsp
  rintro e w2 ⟨rfl, k2, r2⟩
  have kw2 := kb.into k2 (fun x hx hS => by omega)
  by_cases hn : n ≤ 1000
  · have hnI : (n : Int) ≤ 1000 := by omega
    have hrs := resize_any r2 (fun _ => ⟨rfl, rfl⟩) n hn (by
      rw [sized_none, szs_empt, show (⟨#[32]⟩ : ByteArray).size = 1 from rfl]
      omega)
    rw [sized_none] at hrs
    generalize joinB (List.replicate n ByteArray.empty) ⟨#[32]⟩ = T at *
    go_wp2_with fail
    refine hrs.mono ?_
    clear hrs
    rintro e w3 ⟨rfl, k3, r3⟩
    have ct := count_any r3
    rw [List.length_replicate] at ct
    go_wp2_with fail
    refine ct.mono ?_
    clear ct
    rintro e w4 ⟨rfl, rfl⟩
    have kw3 := kw2.into k3 (fun x hx hS => by omega)
    have rr := r3
    have kw := kw3
    clear r3 kw3 kw2 r2 k3 k2 k0 k1 kb hn r1
    have hbW : b < w3.heap.size := rr.blk.lt
    have kz := (Kept.refl (fun _ => False) w3).alloc (.cells (zeros z) 5)
    have hBz : Blk (w3.alloc (.cells (zeros z) 5)) w3.heap.size 5 (fillV z 0) := Blk.new w3 5 (zeros z)
    have hmk1 := hmk w3
    have HM := Lib.hid hmk
    clear hmk
    go_wp2_with fail
    obtain ⟨g, hgg, hgW⟩ : ∃ g, w3.heap.size = g ∧ (∀ j, w3.heap.size ≤ (⟨g, j, none⟩ : Addr).block) := ⟨_, rfl, fun _ => Nat.le_refl _⟩
    rw [hgg] at hBz hbW
    simp only [hgg]
    go_loopw [9] (fun i W' => ∃ j : Nat, j ≤ z ∧ i = .int .i64 j ∧ Kept (fun _ => False) w3 W' ∧ Blk W' g 5 (fillV z j)) (fun i _ => z - (intOf i).toNat)
    case atStart => exact ⟨0, Nat.zero_le _, rfl, kz, hBz⟩
    case round =>
      obtain ⟨j, hj, rfl, kf, hB⟩ := hrel
      by_cases hjl : j < z
      · have hc : wr.cell? ⟨g, j, none⟩ = some (.int .u8 0) := by rw [hB.cell j]; exact fillV_get z j hjl
        have hfz := hB.frozen j
        have hjI : (j : Int) < z := by omega
        have HB := Lib.hid (And.intro kf hB)
        clear hB kf
        go_wp2_with fail
        go_roundw
        case rel => exact ⟨j + 1, hjl, by go_num, HB.out.1.setCell (p := ⟨g, j, none⟩) (.inr (hgW j)) _, fillV_set z j hjl ▸ HB.out.2.set_ j (.int .u8 120)⟩
        case measure => simp [intOf]; omega
      · obtain rfl : j = z := by omega
        have hstr : (convert 26 9 (.slice (some ⟨g, 0, none⟩) j j)).run Tryz.prog wr = .ok (.string (exes j)) wr := run_str (P := Tryz.prog) (w := wr) (l := List.replicate j 120) (n := j) (c := j) Tryz.underlying26 Tryz.underlying5 Tryz.underlying9 (exes_rd hB) List.length_replicate
        have hsz := exes_size j
        have hcut := exes_cut j
        have hpm := exes_put j
        have hjn := exes_join j
        generalize exes j = s at *
        have rf := rr.kept kf id fun _ _ => id
        have kwf := kw.trans kf
        clear rr kf hB kw kz hBz
        by_cases hz : j ≤ 65536
        · have hzI : (j : Int) ≤ 65536 := by omega
          have hlen : (cutS 44 s).length ≤ 1 := by rw [hcut]; split <;> simp
          have hset := cset_any rf s (by omega) (by omega)
          have HP := Lib.hid (And.intro hlen (And.intro hpm hjn))
          clear hpm hjn hlen hcut
          go_wp2_with fail
          refine hset.mono ?_
          clear hset hstr
          rintro e w5 ⟨rfl, k5, A5, c5, r5, hn5, ho5⟩
          obtain ⟨hlen, hpm, hjn⟩ := HP.out
          have hb5 : b < w5.heap.size := r5.blk.lt
          have kw5 := kwf.into k5 (fun x hx hS => by omega)
          have hmx : (⟨#[32]⟩ : ByteArray).size * (max (1 + 1) (cutS 44 s).length - 1) + szs (putM (cutS 44 s) 1 ⟨#[121]⟩) = j + 2 := by
            rw [hpm, show (⟨#[32]⟩ : ByteArray).size = 1 from rfl]
            simp only [szs, show (⟨#[121]⟩ : ByteArray).size = 1 from rfl]
            omega
          have hsum : ¬ 9223372036854775807 < s.size + 2 := by omega
          by_cases hz2 : j ≤ 65534
          · have hz2I : (j : Int) ≤ 65534 := by omega
            have hp := put_any r5 hn5 (by omega) 1 (by omega) ⟨#[121]⟩ (by rw [hmx]; omega)
            rw [hpm, hjn, show (((1 : Nat) : Int) + 1) = 2 from rfl] at hp
            clear hmx hpm hjn hlen hn5 ho5
            go_wp2_with fail
            refine hp.mono ?_
            clear hp
            rintro e w6 ⟨rfl, k6, r6⟩
            have kw6 := kw5.into k6 (fun x hx hS => by omega)
            have g0 := get_any r6 (by simp [maxLen]) 0 (by decide)
            rw [show getM (s ++ ⟨#[32, 121]⟩) [s, ⟨#[121]⟩] 0 = s ++ ⟨#[32, 121]⟩ from rfl] at g0
            go_wp2_with fail
            refine g0.mono ?_
            clear g0
            rintro e w7 ⟨rfl, rfl⟩
            go_wp2_with fail
            go_ret
            exact ⟨rfl, kw6⟩
          · have hz2I : ¬ (j : Int) ≤ 65534 := by omega
            have hp := put_long r5 hn5 (by omega) 1 (by omega) ⟨#[121]⟩ (by rw [hmx]; omega) (by rw [hmx]; omega)
            rw [show (((1 : Nat) : Int) + 1) = 2 from rfl] at hp
            have hl5 : (cutS 44 s).length ≤ maxLen := by unfold maxLen; omega
            clear hmx hpm hjn hlen hn5 ho5
            go_wp2_with fail
            refine hp.mono ?_
            clear hp
            rintro e w6 ⟨rfl, k6⟩
            have kw6 := kw5.trans k6
            have g0 := get_any (r5.kept k6 id fun _ _ => id) hl5 0 (by decide)
            rw [show getM s (cutS 44 s) 0 = s from rfl] at g0
            go_wp2_with fail
            refine (code_errno 13 (by omega) (by omega) _).mono ?_
            rintro e w7 ⟨rfl, rfl⟩
            go_wp2_with fail
            refine g0.mono ?_
            clear g0
            rintro e w7 ⟨rfl, rfl⟩
            go_wp2_with fail
            go_ret
            exact ⟨by simp [hz2I], kw6⟩
        · have hzI : ¬ (j : Int) ≤ 65536 := by omega
          have hset := set_long (w := wr) s (by omega) (some ⟨b, 0, none⟩)
          clear hpm hjn hcut
          go_wp2_with fail
          refine hset.mono ?_
          clear hset hstr
          rintro e w5 ⟨rfl, rfl⟩
          go_wp2_with fail
          refine (code_errno 13 (by omega) (by omega) _).mono ?_
          rintro e w5 ⟨rfl, rfl⟩
          go_wp2_with fail
          go_ret
          exact ⟨rfl, kwf⟩
  · have hnI : ¬ (n : Int) ≤ 1000 := by omega
    have hrs := resize_large (w := w2) (n : Int) (by omega) (some ⟨b, 0, none⟩)
    go_wp2_with fail
    refine hrs.mono ?_
    clear hrs
    rintro e w3 ⟨rfl, rfl⟩
    have ct := count_any r2
    go_wp2_with fail
    refine (code_errno 5 (by omega) (by omega) _).mono ?_
    rintro e w3 ⟨rfl, rfl⟩
    go_wp2_with fail
    refine ct.mono ?_
    clear ct
    rintro e w3 ⟨rfl, rfl⟩
    have rr := r2
    have kw := kw2
    clear kw2 r2 k2 k0 k1 kb hn r1
    have hbW : b < w2.heap.size := rr.blk.lt
    have kz := (Kept.refl (fun _ => False) w2).alloc (.cells (zeros z) 5)
    have hBz : Blk (w2.alloc (.cells (zeros z) 5)) w2.heap.size 5 (fillV z 0) := Blk.new w2 5 (zeros z)
    have hmk1 := hmk w2
    have HM := Lib.hid hmk
    clear hmk
    go_wp2_with fail
    obtain ⟨g, hgg, hgW⟩ : ∃ g, w2.heap.size = g ∧ (∀ j, w2.heap.size ≤ (⟨g, j, none⟩ : Addr).block) := ⟨_, rfl, fun _ => Nat.le_refl _⟩
    rw [hgg] at hBz hbW
    simp only [hgg]
    go_loopw [9] (fun i W' => ∃ j : Nat, j ≤ z ∧ i = .int .i64 j ∧ Kept (fun _ => False) w2 W' ∧ Blk W' g 5 (fillV z j)) (fun i _ => z - (intOf i).toNat)
    case atStart => exact ⟨0, Nat.zero_le _, rfl, kz, hBz⟩
    case round =>
      obtain ⟨j, hj, rfl, kf, hB⟩ := hrel
      by_cases hjl : j < z
      · have hc : wr.cell? ⟨g, j, none⟩ = some (.int .u8 0) := by rw [hB.cell j]; exact fillV_get z j hjl
        have hfz := hB.frozen j
        have hjI : (j : Int) < z := by omega
        have HB := Lib.hid (And.intro kf hB)
        clear hB kf
        go_wp2_with fail
        go_roundw
        case rel => exact ⟨j + 1, hjl, by go_num, HB.out.1.setCell (p := ⟨g, j, none⟩) (.inr (hgW j)) _, fillV_set z j hjl ▸ HB.out.2.set_ j (.int .u8 120)⟩
        case measure => simp [intOf]; omega
      · obtain rfl : j = z := by omega
        have hstr : (convert 26 9 (.slice (some ⟨g, 0, none⟩) j j)).run Tryz.prog wr = .ok (.string (exes j)) wr := run_str (P := Tryz.prog) (w := wr) (l := List.replicate j 120) (n := j) (c := j) Tryz.underlying26 Tryz.underlying5 Tryz.underlying9 (exes_rd hB) List.length_replicate
        have hsz := exes_size j
        have hcut := exes_cut j
        have hpm := exes_put j
        have hjn := exes_join j
        generalize exes j = s at *
        have rf := rr.kept kf id fun _ _ => id
        have kwf := kw.trans kf
        clear rr kf hB kw kz hBz
        by_cases hz : j ≤ 65536
        · have hzI : (j : Int) ≤ 65536 := by omega
          have hlen : (cutS 44 s).length ≤ 1 := by rw [hcut]; split <;> simp
          have hset := cset_any rf s (by omega) (by omega)
          have HP := Lib.hid (And.intro hlen (And.intro hpm hjn))
          clear hpm hjn hlen hcut
          go_wp2_with fail
          refine hset.mono ?_
          clear hset hstr
          rintro e w5 ⟨rfl, k5, A5, c5, r5, hn5, ho5⟩
          obtain ⟨hlen, hpm, hjn⟩ := HP.out
          have hb5 : b < w5.heap.size := r5.blk.lt
          have kw5 := kwf.into k5 (fun x hx hS => by omega)
          have hmx : (⟨#[32]⟩ : ByteArray).size * (max (1 + 1) (cutS 44 s).length - 1) + szs (putM (cutS 44 s) 1 ⟨#[121]⟩) = j + 2 := by
            rw [hpm, show (⟨#[32]⟩ : ByteArray).size = 1 from rfl]
            simp only [szs, show (⟨#[121]⟩ : ByteArray).size = 1 from rfl]
            omega
          have hsum : ¬ 9223372036854775807 < s.size + 2 := by omega
          by_cases hz2 : j ≤ 65534
          · have hz2I : (j : Int) ≤ 65534 := by omega
            have hp := put_any r5 hn5 (by omega) 1 (by omega) ⟨#[121]⟩ (by rw [hmx]; omega)
            rw [hpm, hjn, show (((1 : Nat) : Int) + 1) = 2 from rfl] at hp
            clear hmx hpm hjn hlen hn5 ho5
            go_wp2_with fail
            refine hp.mono ?_
            clear hp
            rintro e w6 ⟨rfl, k6, r6⟩
            have kw6 := kw5.into k6 (fun x hx hS => by omega)
            have g0 := get_any r6 (by simp [maxLen]) 0 (by decide)
            rw [show getM (s ++ ⟨#[32, 121]⟩) [s, ⟨#[121]⟩] 0 = s ++ ⟨#[32, 121]⟩ from rfl] at g0
            go_wp2_with fail
            refine g0.mono ?_
            clear g0
            rintro e w7 ⟨rfl, rfl⟩
            go_wp2_with fail
            go_ret
            exact ⟨rfl, kw6⟩
          · have hz2I : ¬ (j : Int) ≤ 65534 := by omega
            have hp := put_long r5 hn5 (by omega) 1 (by omega) ⟨#[121]⟩ (by rw [hmx]; omega) (by rw [hmx]; omega)
            rw [show (((1 : Nat) : Int) + 1) = 2 from rfl] at hp
            have hl5 : (cutS 44 s).length ≤ maxLen := by unfold maxLen; omega
            clear hmx hpm hjn hlen hn5 ho5
            go_wp2_with fail
            refine hp.mono ?_
            clear hp
            rintro e w6 ⟨rfl, k6⟩
            have kw6 := kw5.trans k6
            have g0 := get_any (r5.kept k6 id fun _ _ => id) hl5 0 (by decide)
            rw [show getM s (cutS 44 s) 0 = s from rfl] at g0
            go_wp2_with fail
            refine (code_errno 13 (by omega) (by omega) _).mono ?_
            rintro e w7 ⟨rfl, rfl⟩
            go_wp2_with fail
            refine g0.mono ?_
            clear g0
            rintro e w7 ⟨rfl, rfl⟩
            go_wp2_with fail
            go_ret
            exact ⟨by simp [hz2I], kw6⟩
        · have hzI : ¬ (j : Int) ≤ 65536 := by omega
          have hset := set_long (w := wr) s (by omega) (some ⟨b, 0, none⟩)
          clear hpm hjn hcut
          go_wp2_with fail
          refine hset.mono ?_
          clear hset hstr
          rintro e w5 ⟨rfl, rfl⟩
          go_wp2_with fail
          refine (code_errno 13 (by omega) (by omega) _).mono ?_
          rintro e w5 ⟨rfl, rfl⟩
          go_wp2_with fail
          go_ret
          exact ⟨rfl, kwf⟩
end Go.Proofs.YtagjdeekiiffjaaGreatDoor

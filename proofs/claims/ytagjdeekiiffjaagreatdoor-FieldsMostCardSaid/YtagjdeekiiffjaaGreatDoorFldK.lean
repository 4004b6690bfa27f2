/- FieldsBack's walk. No conditions. -/
import Derived.Test.YtagjdeekiiffjaaGreatDoorFldJ
import Derived.Test.YtagjdeekiiffjaaGreatDoorFldG
namespace Go.Proofs.YtagjdeekiiffjaaGreatDoor
open Go.RowKit

theorem cell_keptF {w w' : World} (k : Kept (fun _ => False) w w') {a : Addr} {v : Value} (h : w.cell? a = some v) : w'.cell? a = some v := by
  rw [World.cell?_of_block (w := w) (k.block a.block (World.block_lt_of_cell? w _ h) id)]
  exact h
def tbs (l : List (List UInt8)) : List ByteArray := l.map tb
theorem tbs_length (l : List (List UInt8)) : (tbs l).length = l.length := by simp [tbs]
theorem tbs_data (l : List (List UInt8)) : (tbs l).map (·.data.toList) = l := by
  unfold tbs
  rw [List.map_map]
  conv => rhs; rw [← List.map_id l]
  apply List.map_congr_left
  intro x _
  simp [tb]
theorem putM_snoc (l : List ByteArray) (s : ByteArray) : putM l l.length s = l ++ [s] := by
  unfold putM sizedM
  have e : max (l.length + 1) l.length = l.length + 1 := by omega
  rw [e, List.take_of_length_le (by omega), Nat.add_sub_cancel_left]
  rw [List.set_append_right l.length s (Nat.le_refl _)]
  simp
theorem szs_tbs (l : List (List UInt8)) (k : Nat) (h : ∀ x ∈ l, x.length ≤ k) : szs (tbs l) ≤ l.length * k := by
  have := szs_le (tbs l) k (fun v hv => by
    unfold tbs at hv
    obtain ⟨x, hx, rfl⟩ := List.mem_map.1 hv
    exact h x hx)
  rwa [tbs_length] at this
theorem cutS_join (z : UInt8) (l : List (List UInt8)) (h2 : 2 ≤ l.length) (h : ∀ x ∈ l, z ∉ x) : cutS z (joinB (tbs l) ⟨#[z]⟩) = tbs l := by
  obtain ⟨x, y, r, rfl⟩ : ∃ x y r, l = x :: y :: r := by
    cases l with
    | nil => simp at h2
    | cons x l =>
      cases l with
      | nil => simp at h2
      | cons y r => exact ⟨x, y, r, rfl⟩
  have e : (joinB (tbs (x :: y :: r)) ⟨#[z]⟩).data.toList = Lib.join (x :: y :: r) [z] := by
    unfold joinB
    rw [tbs_data]
  have hs : (joinB (tbs (x :: y :: r)) ⟨#[z]⟩).size ≠ 0 := by
    rw [← size_list, e, Lib.join_length]
    simp
  unfold cutS
  rw [if_neg hs]
  unfold cutB
  rw [e, cutL_join z x (y :: r) h]
  rfl
theorem joinB_size (m : List ByteArray) (J : ByteArray) : (joinB m J).size ≤ J.size * (m.length - 1) + szs m := by
  have e : (joinB m J).size = (Lib.join (m.map (·.data.toList)) J.data.toList).length := by
    rw [← size_list]
    unfold joinB
    rfl
  rw [e]
  cases m with
  | nil => simp [Lib.join_nil]
  | cons x r =>
    rw [List.map_cons, Lib.join_length, ← List.map_cons (f := fun (z : ByteArray) => z.data.toList), szs_lens, size_list]
    simp
theorem get_tbs (T : ByteArray) (l : List (List UInt8)) (j : Nat) (hj : j < l.length) : getM T (tbs l) ((j : Int) + 1) = ⟨(l[j]).toArray⟩ := by
  have h3 : ¬ ((j : Int) + 1 < 0 ∨ ((tbs l).length : Int) < (j : Int) + 1) := by rw [tbs_length]; omega
  have h4 : ¬ ((j : Int) + 1 = 0) := by omega
  simp only [getM, if_neg h4, if_neg h3]
  have : ((j : Int) + 1 - 1).toNat = j := by omega
  rw [this]
  simp [tbs, tb, hj]
set_option maxRecDepth 100000 in
set_option maxHeartbeats 8000000 in
theorem back_any (w : World) (A : Option Addr) (c : Nat) (l : List (List UInt8)) (z : UInt8) (h : Rd w A (svR l)) (hle : l.length ≤ c) (hl : l.length ≤ maxLen) (hls : ∀ x ∈ l, x.length ≤ maxLen) :
    Calls Tryz.prog 3 #[.slice A l.length c, .int .u8 z.toNat] w fun e w' => e = .returned (.bool true) ∧ Kept (fun _ => False) w w' := by
  unfold maxLen at hl hls
  go_enter Tryz.func3, Tryz.ntmps3
  go_wp2_with fail
  refine (fawake_any w).mono ?_
  rintro e w0 ⟨rfl, k0⟩
  by_cases h20 : 20 < (l.length : Int)
  · go_wp2_with fail
    go_ret
    exact ⟨rfl, k0⟩
  by_cases h2 : (l.length : Int) < 2
  · go_wp2_with fail
    go_ret
    exact ⟨rfl, k0⟩
  by_cases h32 : z = 32
  · have hsI : ((z.toNat : Int) == 32) = true := by subst h32; rfl
    clear h32
    go_wp2_with fail
    go_ret
    exact ⟨rfl, k0⟩
  have hsI : ((z.toNat : Int) == 32) = false := by
    rw [beq_eq_false_iff_ne]
    intro e0
    apply h32
    apply UInt8.toNat_inj.1
    exact Int.ofNat_inj.1 e0
  by_cases h92 : z = 92
  · have hsJ : ((z.toNat : Int) == 92) = true := by subst h92; rfl
    clear h92
    go_wp2_with fail
    go_ret
    exact ⟨rfl, k0⟩
  have hsJ : ((z.toNat : Int) == 92) = false := by
    rw [beq_eq_false_iff_ne]
    intro e0
    apply h92
    apply UInt8.toNat_inj.1
    exact Int.ofNat_inj.1 e0
  go_wp2_with fail
  refine (new_any w0).mono ?_
  rintro e w1 ⟨rfl, k1, h1⟩
  have hb1 : w0.heap.size < w1.heap.size := h1.blk.lt
  have hB1 : w.heap.size ≤ w0.heap.size := k0.size
  have kb := k0.trans k1
  generalize w0.heap.size = b at *
  have hrd1 := Rd.new w1 #[.int .u8 z.toNat] 5 (0, 0)
  have hstr := run_str (P := Tryz.prog) (w := w1.alloc (.cells #[.int .u8 z.toNat] 5)) (l := [z]) (n := 1) (c := 1) Tryz.underlying26 Tryz.underlying5 Tryz.underlying9 hrd1 rfl
  have ka := (Kept.refl (fun _ => False) w1).alloc (.cells #[.int .u8 z.toNat] 5)
  have hsp := sep_any (h1.kept ka id fun _ _ => id) (fun g hg => (not_at_none g hg).elim) z h32 h92
  clear hsI hsJ
  go_wp2_with fail
  refine hsp.mono ?_
  clear hsp hstr
  rintro e w2 ⟨rfl, k2, r2⟩
  have hj := join_any r2 (fun g hg => (not_at_none g hg).elim) ⟨#[z]⟩
  go_wp2_with fail
  refine hj.mono ?_
  clear hj
  rintro e w3 ⟨rfl, k3, r3⟩
  have kw := (kb.trans ka).into (k2.trans k3) (fun x hx hS => by omega)
  clear r2 k2 k3 hrd1 h1
  go_wp2_with fail
  go_loopw [7] (fun i W => ∃ (j : Nat) (T : ByteArray) (A1 : Option Addr) (c1 : Nat), j ≤ l.length ∧ i = .int .i64 j ∧ RecAt W b 1 z.toNat (.pointer none) ⟨#[z]⟩ T A1 c1 (tbs (l.take j)) ∧ (A1 = none → tbs (l.take j) = [] ∧ c1 = 0) ∧ Kept (fun _ => False) w W ∧ (∀ x ∈ l.take j, x.length ≤ 60 ∧ z ∉ x) ∧ (j ≠ 0 → T = joinB (tbs (l.take j)) ⟨#[z]⟩)) (fun i _ => l.length - (intOf i).toNat)
  case atStart => exact ⟨0, _, none, 0, Nat.zero_le _, rfl, r3, fun _ => ⟨rfl, rfl⟩, kw, by simp, by simp⟩
  case round =>
    obtain ⟨j, T, A1, c1, hj, rfl, hR, hnil, kk, hall, hT⟩ := hrel
    have hB := Lib.hid (And.intro hR (And.intro hnil (And.intro hall hT)))
    clear hR hnil hall hT
    by_cases hjl : j < l.length
    · obtain ⟨g, off, rfl, hcb⟩ := h.get (show (svR l)[j]? = some (.string ⟨(l[j]).toArray⟩) by simp [svR, hjl])
      have hc := cell_keptF kk hcb
      have hjI : (j : Int) < l.length := by omega
      generalize hv0 : l[j] = v at *
      have HV0 := Lib.hid hv0
      clear hv0
      by_cases h60 : 60 < (v.length : Int)
      · go_wp2_with fail
        go_ret
        exact ⟨rfl, kk⟩
      · go_wp2_with fail
        rename World => W1
        go_loopw [8] (fun k W => ∃ m : Nat, m ≤ v.length ∧ k = .int .i64 m ∧ W = W1 ∧ z ∉ v.take m) (fun k _ => v.length - (intOf k).toNat)
        case atStart => exact ⟨0, Nat.zero_le _, rfl, by simp, by simp⟩
        case round =>
          obtain ⟨m, hm, rfl, hWe, hno⟩ := hrel
          obtain rfl : W1 = wr := hWe.symm
          by_cases hml : m < v.length
          · have hmI : (m : Int) < v.length := by omega
            go_wp2_with fail
            · go_ret
              exact ⟨rfl, kk⟩
            · rename_i hne
              go_roundw
              case rel => exact ⟨m + 1, hml, by go_num, by simp, by
                rw [List.take_succ_eq_append_getElem hml]
                intro hmem
                rcases List.mem_append.1 hmem with h9 | h9
                · exact hno h9
                · rw [List.mem_singleton.1 h9] at hne
                  have : (((v[m]).toNat : Int) == ((v[m]).toNat : Int)) = false := hne
                  simp at this⟩
              case measure => simp [intOf]; omega
          · obtain rfl : m = v.length := by omega
            rw [List.take_length] at hno
            obtain ⟨hR, hnil, hall, hT⟩ := hB.out
            have hlj : (tbs (l.take j)).length = j := by rw [tbs_length, List.length_take]; omega
            have hpm := putM_snoc (tbs (l.take j)) ⟨v.toArray⟩
            rw [hlj] at hpm
            have htk : tbs (l.take j) ++ [⟨v.toArray⟩] = tbs (l.take (j + 1)) := by
              rw [List.take_succ_eq_append_getElem hjl, HV0.out]
              simp [tbs, tb]
            rw [htk] at hpm
            have hall2 : ∀ x ∈ l.take (j + 1), x.length ≤ 60 ∧ z ∉ x := by
              intro x hx
              rw [List.take_succ_eq_append_getElem hjl, HV0.out] at hx
              rcases List.mem_append.1 hx with h9 | h9
              · exact hall x h9
              · rw [List.mem_singleton.1 h9]
                exact ⟨by omega, hno⟩
            have hsz := szs_tbs (l.take (j + 1)) 60 fun x hx => (hall2 x hx).1
            rw [List.length_take] at hsz
            have hp := put_any hR hnil (by rw [hlj]; omega) j (by omega) ⟨v.toArray⟩ (by
              have : (⟨#[z]⟩ : ByteArray).size = 1 := rfl
              rw [hpm, hlj, this, Nat.one_mul]
              omega)
            rw [hpm] at hp
            have HP := Lib.hid (And.intro hall2 hB.out.1.blk.lt)
            clear hpm htk hall2 hsz hR hnil hall hT
            go_wp2_with fail
            refine hp.mono ?_
            clear hp
            rintro e w5 ⟨rfl, k5, r5⟩
            go_wp2_with fail
            go_roundw
            case rel => exact ⟨j + 1, _, _, _, hjl, by go_num, r5, fun hA => by (cases hA), kk.into k5 (fun x hx hS => by omega), HP.out.1, fun _ => rfl⟩
            case measure => simp [intOf]; omega
    · obtain rfl : j = l.length := by omega
      obtain ⟨hR, hnil, hall, hT⟩ := hB.out
      rw [List.take_length] at hR hnil hall hT
      have hT2 := hT (by omega)
      subst hT2
      have hjs := joinB_size (tbs l) ⟨#[z]⟩
      have hsz := szs_tbs l 60 fun x hx => (hall x hx).1
      have hcj := cutS_join z l (by omega) fun x hx => (hall x hx).2
      rw [tbs_length, show (⟨#[z]⟩ : ByteArray).size = 1 from rfl, Nat.one_mul] at hjs
      have hset := cset_any hR (joinB (tbs l) ⟨#[z]⟩) (by omega) (by rw [hcj, tbs_length]; omega)
      rw [hcj] at hset
      have g0 := get_any hR (by rw [tbs_length]; simp only [maxLen]; omega) 0 (by decide)
      rw [show getM (joinB (tbs l) ⟨#[z]⟩) (tbs l) 0 = joinB (tbs l) ⟨#[z]⟩ from rfl] at g0
      clear hcj hsz hjs hT hnil hB
      generalize joinB (tbs l) ⟨#[z]⟩ = U at *
      go_wp2_with fail
      refine g0.mono ?_
      clear g0
      rintro e w5 ⟨rfl, rfl⟩
      go_wp2_with fail
      refine hset.mono ?_
      clear hset
      rintro e w6 ⟨rfl, k6, A6, c6, r6, -, -⟩
      have kk6 := kk.into k6 (fun x hx hS => by omega)
      have ct := count_any r6
      rw [tbs_length] at ct
      go_wp2_with fail
      refine ct.mono ?_
      clear ct
      rintro e w7 ⟨rfl, rfl⟩
      have HR6 := Lib.hid r6
      clear r6 k6 hR
      go_wp2_with fail
      go_loopw [9] (fun i W => ∃ j : Nat, j ≤ l.length ∧ i = .int .i64 j ∧ RecAt W b 1 z.toNat (.pointer none) ⟨#[z]⟩ U A6 c6 (tbs l) ∧ Kept (fun _ => False) w W) (fun i _ => l.length - (intOf i).toNat)
      case atStart => exact ⟨0, Nat.zero_le _, rfl, HR6.out, kk6⟩
      case round =>
        obtain ⟨j, hj, rfl, hR, kk⟩ := hrel
        by_cases hjl : j < l.length
        · obtain ⟨g, off, rfl, hcb⟩ := h.get (show (svR l)[j]? = some (.string ⟨(l[j]).toArray⟩) by simp [svR, hjl])
          have hc := cell_keptF kk hcb
          have hcn : ∀ n, (wr.drewN n).cell? ⟨g, off + j, none⟩ = some (.string ⟨(l[j]).toArray⟩) := fun n => hc
          have hjI : (j : Int) < l.length := by omega
          have hg := fun n => get_any (hR.kept ((Kept.refl (fun _ => False) wr).drewN n) id fun _ _ => id) (by rw [tbs_length]; simp only [maxLen]; omega) ((j : Int) + 1) (by omega)
          simp only [get_tbs U l j hjl] at hg
          have HR := Lib.hid (And.intro hR kk)
          clear hR
          generalize l[j] = v at *
          go_wp2_with fail
          go_quiet (exact Calls.quiet_of_same ((hg _).mono fun e w' h => ⟨h.1, h.2.symm⟩))
          go_wp2_with fail
          go_roundw
          case rel => exact ⟨j + 1, hjl, by go_num, HR.out.1.kept ((Kept.refl (fun _ => False) _).drewN _) id fun _ _ => id, HR.out.2.drewN _⟩
          case measure => simp [intOf]; omega
        · obtain rfl : j = l.length := by omega
          go_wp2_with fail
          go_ret
          exact ⟨rfl, kk⟩
end Go.Proofs.YtagjdeekiiffjaaGreatDoor

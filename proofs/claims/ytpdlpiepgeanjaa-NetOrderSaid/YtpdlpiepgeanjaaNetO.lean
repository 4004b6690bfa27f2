/- The net's law file: its acts, and whether they are few. No conditions. -/
import Derived.Test.YtpdlpiepgeanjaaNetA
import Derived.Test.YtpdlpiepgeanjaaOpen
import Derived.LoopTactic
namespace Go.Proofs.Ytpdlpiepgeanjaa
open Go.RowKit Go.ChangeShapes Go.WideShapes Go.Deep

/-- An act as it lies in memory. -/
structure NAct where
  kind : Int
  conn : Int
  n : Int
  s : List UInt8
  e : EV
/-- An act's cells. -/
structure NActAt (w : World) (g off : Nat) (v : NAct) : Prop where
  c0 : w.cell? ⟨g, off, none⟩ = some (.int .i64 v.kind)
  c1 : w.cell? ⟨g, off + 1, none⟩ = some (.int .i64 v.conn)
  c2 : w.cell? ⟨g, off + 2, none⟩ = some (.int .i64 v.n)
  c3 : w.cell? ⟨g, off + 3, none⟩ = some (.string ⟨v.s.toArray⟩)
  c4 : w.cell? ⟨g, off + 4, none⟩ = some (.int .i64 v.e.kind)
  c5 : w.cell? ⟨g, off + 5, none⟩ = some (.int .i64 v.e.conn)
  c6 : w.cell? ⟨g, off + 6, none⟩ = some (.int .i64 v.e.n)
  c7 : w.cell? ⟨g, off + 7, none⟩ = some (.slice v.e.A v.e.bs.length v.e.c)
  rd : Rd w v.e.A (bv v.e.bs)
  sl : v.s.length ≤ maxLen
  bl : v.e.bs.length ≤ maxLen
def NActsAt (w : World) (A : Option Addr) (l : List NAct) : Prop :=
  ∀ i v, l[i]? = some v → ∃ g off, A = some ⟨g, off, none⟩ ∧ NActAt w g (off + i * 8) v
theorem NActAt.kept {w w' : World} {g off : Nat} {v : NAct} (h : NActAt w g off v) (hk : Kept (fun _ => False) w w') : NActAt w' g off v := by
  have hlt : g < w.heap.size := World.block_lt_of_cell? w _ h.c0
  have hb := hk.block g hlt id
  have e : ∀ o, w'.cell? ⟨g, o, none⟩ = w.cell? ⟨g, o, none⟩ := fun o => World.cell?_of_block (w := w) hb
  exact ⟨(e _).trans h.c0, (e _).trans h.c1, (e _).trans h.c2, (e _).trans h.c3, (e _).trans h.c4, (e _).trans h.c5, (e _).trans h.c6, (e _).trans h.c7, h.rd.same hk, h.sl, h.bl⟩
theorem NActsAt.kept {w w' : World} {A : Option Addr} {l : List NAct} (h : NActsAt w A l) (hk : Kept (fun _ => False) w w') : NActsAt w' A l := fun i v hv => by
  obtain ⟨g, off, e, ha⟩ := h i v hv
  exact ⟨g, off, e, ha.kept hk⟩
theorem NActsAt.get {w : World} {A : Option Addr} {l : List NAct} (h : NActsAt w A l) {i : Nat} (hi : i < l.length) : ∃ g off, A = some ⟨g, off, none⟩ ∧ NActAt w g (off + i * 8) l[i] := h i _ (List.getElem?_eq_getElem hi)

def fewA (v : NAct) : Bool := decide (v.s.length ≤ 100) && !(decide (100 < v.e.bs.length) && decide (v.e.bs.length ≤ 4096))
def fewN (l : List NAct) : Bool := decide (l.length ≤ 80) && l.all fewA
theorem fewN_spec {l : List NAct} (h : fewN l = true) : l.length ≤ 80 ∧ ∀ v ∈ l, v.s.length ≤ 100 ∧ (v.e.bs.length ≤ 100 ∨ 4096 < v.e.bs.length) := by
  simp only [fewN, Bool.and_eq_true, decide_eq_true_eq, List.all_eq_true] at h
  refine ⟨h.1, fun v hv => ?_⟩
  have := h.2 v hv
  simp [fewA] at this
  omega
set_option maxRecDepth 100000 in
set_option maxHeartbeats 1600000 in
theorem few_any (w : World) (A : Option Addr) (c : Nat) (l : List NAct) (h : NActsAt w A l) (hl : l.length ≤ maxLen) :
    Calls Try.prog 15 #[.slice A l.length c] w fun e w' => e = .returned (.bool (fewN l)) ∧ Kept (fun _ => False) w w' := by
  unfold maxLen at hl
  by_cases h80 : 80 < l.length
  · have hf : fewN l = false := by unfold fewN; simp; omega
    rw [hf]
    clear hf
    go_enter Try.func15, Try.ntmps15
    go_wp2_with fail
    go_ret
    exact ⟨rfl, Kept.refl _ _⟩
  · go_enter Try.func15, Try.ntmps15
    go_wp2_with fail
    go_loop [3] (fun i => ∃ j : Nat, j ≤ l.length ∧ i = .int .i64 j ∧ ∀ v ∈ l.take j, fewA v = true) (fun i => l.length - (intOf i).toNat)
    case atStart => exact ⟨0, Nat.zero_le _, rfl, by simp⟩
    case round =>
      obtain ⟨j, hj, rfl, hall⟩ := hrel
      have HA := Lib.hid hall
      clear hall
      by_cases hjl : j < l.length
      · obtain ⟨g, off, rfl, ha⟩ := h.get hjl
        have c3 := ha.c3
        have c7 := ha.c7
        have hsl := ha.sl
        have hbl := ha.bl
        unfold maxLen at hsl hbl
        have hstep : fewA l[j] = true → ∀ v ∈ l.take (j + 1), fewA v = true := by
          intro hf v hv
          rw [List.take_succ_eq_append_getElem hjl] at hv
          rcases List.mem_append.1 hv with hv | hv
          · exact HA.out v hv
          · simp at hv; subst hv; exact hf
        have hbad : fewA l[j] = false → fewN l = false := by
          intro hf
          cases hx : fewN l with
          | false => rfl
          | true =>
            simp only [fewN, Bool.and_eq_true, List.all_eq_true] at hx
            rw [hx.2 _ (List.getElem_mem hjl)] at hf
            cases hf
        have hdef : fewA l[j] = (decide ((l[j]).s.length ≤ 100) && !(decide (100 < (l[j]).e.bs.length) && decide ((l[j]).e.bs.length ≤ 4096))) := rfl
        have HST := Lib.hid hstep
        have HB := Lib.hid hbad
        have HD := Lib.hid hdef
        clear ha hstep hbad hdef
        generalize l[j] = v at *
        by_cases h1 : v.s.length ≤ 100
        · have h1' : (v.s.length : Int) ≤ 100 := by omega
          by_cases h2 : 100 < v.e.bs.length
          · have h2' : (100 : Int) < v.e.bs.length := by omega
            by_cases h3 : v.e.bs.length ≤ 4096
            · have h3' : (v.e.bs.length : Int) ≤ 4096 := by omega
              have hfl := HB.out (by rw [HD.out]; simp [h1, h2, h3])
              have HF := Lib.hid hfl
              clear hfl
              go_wp2_with fail
              go_ret
              exact ⟨by rw [HF.out]; rfl, Kept.refl _ _⟩
            · have h3' : (4096 : Int) < v.e.bs.length := by omega
              go_wp2_with fail
              go_round
              case rel => exact ⟨j + 1, hjl, by go_num, HST.out (by rw [HD.out]; simp [h1, h3])⟩
              case measure => simp [intOf]; omega
          · have h2' : (v.e.bs.length : Int) ≤ 100 := by omega
            go_wp2_with fail
            go_round
            case rel => exact ⟨j + 1, hjl, by go_num, HST.out (by rw [HD.out]; simp [h1, h2])⟩
            case measure => simp [intOf]; omega
        · have h1' : (100 : Int) < v.s.length := by omega
          have hfl := HB.out (by rw [HD.out]; simp [h1])
          have HF := Lib.hid hfl
          clear hfl
          go_wp2_with fail
          go_ret
          exact ⟨by rw [HF.out]; rfl, Kept.refl _ _⟩
      · obtain rfl : j = l.length := by omega
        have hf : fewN l = true := by
          have := HA.out
          rw [List.take_length] at this
          unfold fewN
          simp only [Bool.and_eq_true, decide_eq_true_eq, List.all_eq_true]
          exact ⟨by omega, this⟩
        have HF := Lib.hid hf
        clear hf
        go_wp2_with fail
        go_ret
        exact ⟨by rw [HF.out]; rfl, Kept.refl _ _⟩
end Go.Proofs.Ytpdlpiepgeanjaa

/- Contracts of the queue's small methods. No conditions. -/
import Derived.Test.YtagjdeekiiffjaaGreatDoorClone
import Derived.WalkSpells
import Derived.StillTailTactics
import Derived.Lib.LazyBuf
namespace Go.Proofs.YtagjdeekiiffjaaGreatDoor
open Go.RowKit

/-- A queue's block. -/
def QB (w : World) (b : Nat) (lo hi rm : Int) (sv : Value) (ab : Bool) (qd gn : Int) : Prop :=
  Blk w b 134 #[.int .i64 lo, .int .i64 hi, .int .i64 rm, sv, .bool ab, .int .i64 qd, .int .i64 gn]

section
variable {w w' : World} {b : Nat} {lo hi rm qd gn : Int} {sv : Value} {ab : Bool}
theorem QB.cells (h : QB w b lo hi rm sv ab qd gn) : w.cell? ⟨b, 0, none⟩ = some (.int .i64 lo) ∧ w.cell? ⟨b, 1, none⟩ = some (.int .i64 hi) ∧ w.cell? ⟨b, 2, none⟩ = some (.int .i64 rm) ∧
    w.cell? ⟨b, 3, none⟩ = some sv ∧ w.cell? ⟨b, 4, none⟩ = some (.bool ab) ∧ w.cell? ⟨b, 5, none⟩ = some (.int .i64 qd) ∧ w.cell? ⟨b, 6, none⟩ = some (.int .i64 gn) :=
  ⟨h.cell 0, h.cell 1, h.cell 2, h.cell 3, h.cell 4, h.cell 5, h.cell 6⟩
theorem QB.fz (h : QB w b lo hi rm sv ab qd gn) : ∀ i, w.frozen? ⟨b, i, none⟩ = false := fun i => Blk.frozen h i
theorem QB.kept {S : Nat → Prop} (h : QB w b lo hi rm sv ab qd gn) (hk : Kept S w w') (hs : ¬ S b) : QB w' b lo hi rm sv ab qd gn := Blk.kept h hk hs
theorem QB.drewN (h : QB w b lo hi rm sv ab qd gn) (k : Nat) : QB (w.drewN k) b lo hi rm sv ab qd gn := h
theorem QB.set3 (h : QB w b lo hi rm sv ab qd gn) (v : Value) : QB (w.setCell ⟨b, 3, none⟩ v) b lo hi rm v ab qd gn := Blk.set_ h 3 v
theorem QB.set4 (h : QB w b lo hi rm sv ab qd gn) (v : Bool) : QB (w.setCell ⟨b, 4, none⟩ (.bool v)) b lo hi rm sv v qd gn := Blk.set_ h 4 _
theorem QB.set5 (h : QB w b lo hi rm sv ab qd gn) (v : Int) : QB (w.setCell ⟨b, 5, none⟩ (.int .i64 v)) b lo hi rm sv ab v gn := Blk.set_ h 5 _
theorem QB.set6 (h : QB w b lo hi rm sv ab qd gn) (v : Int) : QB (w.setCell ⟨b, 6, none⟩ (.int .i64 v)) b lo hi rm sv ab qd v := Blk.set_ h 6 _
end

/-- No byte lies in a queue's own block: what reads as bytes stays, when the queue's block alone changes. -/
theorem Rd.keptQ {w w' : World} {A : Option Addr} {l : List Value} {b : Nat} {lo hi rm qd gn : Int} {n c : Nat} {A' : Option Addr} {ab : Bool} (h : Rd w A l) (hq : QB w b lo hi rm (.slice A' n c) ab qd gn)
    (hk : Kept (· = b) w w') (hl : ∀ u ∈ l, ∃ k, u = .int .u8 k) : Rd w' A l := by
  by_cases hn : l = []
  · subst hn; exact Rd.nil _ _
  refine h.kept hk ?_
  rintro g ⟨ad, rfl, rfl⟩ rfl
  obtain ⟨x, hx⟩ : ∃ x, l[0]? = some x := ⟨l[0]'(List.length_pos_iff.2 hn), List.getElem?_eq_getElem _⟩
  obtain ⟨g, off, h1, hc⟩ := h.get hx
  cases h1
  obtain ⟨k, rfl⟩ := hl x (List.mem_of_getElem? hx)
  rw [Nat.add_zero, Blk.cell hq off] at hc
  match off, hc with
  | 0, hc => simp at hc
  | 1, hc => simp at hc
  | 2, hc => simp at hc
  | 3, hc => simp at hc
  | 4, hc => simp at hc
  | 5, hc => simp at hc
  | 6, hc => simp at hc
  | k + 7, hc => simp at hc
def markB (lo hi n : Int) (ab : Bool) : Bool := if hi ≤ n then true else if n ≤ lo then false else ab

set_option maxHeartbeats 400000 in
theorem mark_any (w : World) (b : Nat) (lo hi rm qd gn : Int) (A : Option Addr) (n c : Nat) (ab : Bool) (h : QB w b lo hi rm (.slice A n c) ab qd gn) :
    Calls Tryz.prog 83 #[.pointer (some ⟨b, 0, none⟩)] w fun e w' => e = .returned (.tuple #[]) ∧ Kept (· = b) w w' ∧ QB w' b lo hi rm (.slice A n c) (markB lo hi n ab) qd gn := by
  obtain ⟨c0, c1, c2, c3, c4, c5, c6⟩ := h.cells
  have fz := h.fz
  go_enter Tryz.func83, Tryz.ntmps83
  go_wp2
  · go_end0
    refine ⟨rfl, (Kept.refl _ w).set1 _, ?_⟩
    rw [markB, if_pos (by assumption)]
    exact h.set4 true
  · go_end0
    refine ⟨rfl, (Kept.refl _ w).set1 _, ?_⟩
    rw [markB, if_neg (by omega), if_pos (by assumption)]
    exact h.set4 false
  · go_end0
    refine ⟨rfl, Kept.refl _ w, ?_⟩
    rw [markB, if_neg (by omega), if_neg (by omega)]
    exact h


theorem put_new {w w1 : World} {A A' : Option Addr} {n m c' : Nat} (r2 : n + m ≤ c') (r8 : (A' = A ∧ c' = n ∧ Kept (fun k => n < n ∧ At A k) w w1) ∨ (∃ g, A' = some ⟨g, 0, none⟩ ∧ w.heap.size ≤ g ∧ Grew w w1 g)) : Kept (fun _ => False) w w1 ∧ ∀ g, At A' g → (m = 0 ∧ At A g) ∨ w.heap.size ≤ g := by
  rcases r8 with ⟨rfl, rfl, k⟩ | ⟨g', rfl, hg, k⟩
  · exact ⟨k.mono fun _ _ hc => by omega, fun g hg => .inl ⟨by omega, hg⟩⟩
  · refine ⟨k.toKept, ?_⟩
    rintro g ⟨_, he, rfl⟩
    cases he
    exact .inr hg
set_option maxHeartbeats 400000 in
theorem put_full (w : World) (b : Nat) (lo hi rm qd gn : Int) (A B : Option Addr) (n c m d : Nat) (ab : Bool) (h : QB w b lo hi rm (.slice A n c) ab qd gn) (hn : n ≤ maxLen) (hr : 0 ≤ rm) (hr1 : rm ≤ 65536)
    (hm : rm - n < m) :
    Calls Tryz.prog 59 #[.pointer (some ⟨b, 0, none⟩), .slice B m d] w fun e w' => e = .returned (.iface 74 (.int .i64 17)) ∧ Kept (fun _ => False) w w' := by
  unfold maxLen at hn
  obtain ⟨c0, c1, c2, c3, c4, c5, c6⟩ := h.cells
  have fz := h.fz
  go_enter Tryz.func59, Tryz.ntmps59
  go_wp2
  go_quiet (fail)
  go_wp2
  go_ret
  exact ⟨rfl, (Kept.refl _ w).drewN _⟩

set_option maxHeartbeats 400000 in
theorem put_room (w : World) (b : Nat) (lo hi rm qd gn : Int) (A B : Option Addr) (n c m d : Nat) (ab : Bool) (xs ys : List UInt8) (h : QB w b lo hi rm (.slice A n c) ab qd gn) (hn : n ≤ maxLen) (hr : 0 ≤ rm) (hr1 : rm ≤ 65536)
    (hm : m ≤ rm - n) (hq0 : 0 ≤ qd) (hq1 : qd ≤ 1000000) (hnc : n ≤ c) (hx : Rd w A (bv xs)) (hy : Rd w B (bv ys)) (hxl : xs.length = n) (hyl : ys.length = m) :
    Calls Tryz.prog 59 #[.pointer (some ⟨b, 0, none⟩), .slice B m d] w fun e w' => e = .returned .nilIface ∧ Kept (· = b) w w' ∧ ∃ A' c', n + m ≤ c' ∧ (A' = none → c' = 0) ∧ (∀ g, At A' g → (m = 0 ∧ At A g) ∨ w.heap.size ≤ g) ∧ Rd w' A' (bv (xs ++ ys)) ∧ QB w' b lo hi rm (.slice A' (n + m) c') (markB lo hi (n + m) ab) (qd + m) gn := by
  unfold maxLen at hn
  obtain ⟨c0, c1, c2, c3, c4, c5, c6⟩ := h.cells
  have fz := h.fz
  go_enter Tryz.func59, Tryz.ntmps59
  go_wp2
  go_quiet (fail)
  go_wp2
  obtain ⟨i0, hi0, hz0, hz1, hz2⟩ := info_parts infou8
  refine wp_region_text (by kernel_rfl) (by kernel_rfl) ?_
  go_wp2_with (at_builtin; refine wpList_append_rd _ rfl (.tmp 34) (.tmp 35) _ rfl 5 i0 _ 1 1 Tryz.underlying26 hi0 hz0 hz1 hz2 rfl (by omega) A n n rfl (bv xs) (by simp [bv_length, hxl]) hx (Nat.le_refl _) (Sp.none_ _ _ _) (fun e => by have := hx.zero e; rw [bv_length] at this; omega) B m d rfl (bv ys) (by simp [bv_length, hyl]) hy (bv_one ys) (by simp only [maxLen]; omega) (by omega) ?_; intro A' c' w1 r1 r7 r2 r5 r8; have r36 := put_new r2 r8; have r3 := r36.1; have r6 := r36.2; have h1 : QB w1 b lo hi rm (.slice A n c) ab qd gn := QB.kept (h.drewN _) r3 id; have d3 := h1.cells.2.2.2.1; have f3 := h1.fz 3; have d5 := h1.cells.2.2.2.2.2.1; have f5 := h1.fz 5)
  refine nrm ?_
  have h2 := h1.set3 (.slice A' (n + m) c')
  have k2 : Kept (· = b) w (w1.setCell ⟨b, 3, none⟩ (.slice A' (n + m) c')) := (((Kept.refl _ w).drewN _).trans r3.weak).set1 _
  have r4 : Rd (w1.setCell ⟨b, 3, none⟩ (.slice A' (n + m) c')) A' (bv xs ++ bv ys) := r1.keptQ h1 ((Kept.refl _ w1).set1 _) (by rw [← bv_append]; exact bv_u8 _)
  clear r1 r3 h1 d3 f3 d5 f5
  generalize w1.setCell ⟨b, 3, none⟩ (.slice A' (n + m) c') = w2 at *
  obtain ⟨e0, e1, e2, e3, e4, e5, e6⟩ := h2.cells
  have fz2 := h2.fz
  go_wp2_with (go_at_call 83; refine (mark_any _ b _ _ _ _ _ _ _ _ _ (h2.set5 _)).mono ?_; rintro e w3 ⟨rfl, hk3, hq3⟩)
  go_ret
  refine ⟨rfl, (k2.set1 _).trans hk3, A', c', r2, r5, r6, ?_, ?_⟩
  · rw [bv_append]
    exact r4.keptQ h2 (((Kept.refl _ w2).set1 _).trans hk3) (by rw [← bv_append]; exact bv_u8 _)
  · exact hq3

set_option maxHeartbeats 400000 in
theorem next_any (w : World) (b : Nat) (lo hi rm qd gn : Int) (A : Option Addr) (n c : Nat) (ab : Bool) (xs : List UInt8) (m : Int) (h : QB w b lo hi rm (.slice A n c) ab qd gn) (hn : n ≤ 70000) (hnc : n ≤ c) (hnil : A = none → c = 0)
    (hx : Rd w A (bv xs)) (hxl : xs.length = n) :
    Calls Tryz.prog 60 #[.pointer (some ⟨b, 0, none⟩), .int .i64 m] w (CloneP w (takeN m n) (xs.take (takeN m n))) := by
  obtain ⟨c0, c1, c2, c3, c4, c5, c6⟩ := h.cells
  have hn0 : (0 : Int) ≤ n := Int.natCast_nonneg _
  have hn1 : (n : Int) ≤ c := by omega
  rcases Int.lt_or_le m 0 with hm | hm
  · have ht : takeN m n = 0 := by unfold takeN; omega
    rw [ht]
    go_enter Tryz.func60, Tryz.ntmps60
    go_wp2
    refine wp_region_text (by kernel_rfl) (by kernel_rfl) ?_
    go_wp2_with (go_at_call 84; refine (clone_any _ A 0 c (xs.take 0) (Rd.nil _ _) rfl (by omega) hnil).mono ?_; rintro e w1 ⟨A', c', rfl, q1, q2, q3, q4⟩)
    refine nrm ?_
    go_wp2
    go_ret
    exact ⟨A', c', rfl, q1, (Kept.drewN (Kept.refl _ w) _).trans q2, q3, q4⟩
  · obtain ⟨k, rfl⟩ := Int.eq_ofNat_of_zero_le hm
    rcases Nat.lt_or_ge n k with hk | hk
    · have ht : takeN k n = n := by unfold takeN; omega
      rw [ht]
      have hk' : (n : Int) < k := by omega
      go_enter Tryz.func60, Tryz.ntmps60
      go_wp2
      refine wp_region_text (by kernel_rfl) (by kernel_rfl) ?_
      go_wp2_with (go_at_call 84; refine (clone_any _ A n c (xs.take n) (by rw [List.take_of_length_le (by omega)]; exact hx) (by simp; omega) (by omega) hnil).mono ?_; rintro e w1 ⟨A', c', rfl, q1, q2, q3, q4⟩)
      refine nrm ?_
      go_wp2
      go_ret
      exact ⟨A', c', rfl, q1, (Kept.drewN (Kept.refl _ w) _).trans q2, q3, q4⟩
    · have ht : takeN k n = k := by unfold takeN; omega
      rw [ht]
      have hk' : (k : Int) ≤ n := by omega
      go_enter Tryz.func60, Tryz.ntmps60
      go_wp2
      refine wp_region_text (by kernel_rfl) (by kernel_rfl) ?_
      go_wp2_with (go_at_call 84; refine (clone_any _ A k c (xs.take k) (by rw [bv_take]; exact hx.take k) (by simp; omega) (by omega) hnil).mono ?_; rintro e w1 ⟨A', c', rfl, q1, q2, q3, q4⟩)
      refine nrm ?_
      go_wp2
      go_ret
      exact ⟨A', c', rfl, q1, (Kept.drewN (Kept.refl _ w) _).trans q2, q3, q4⟩

theorem at_map {A : Option Addr} {k g : Nat} (h : At (A.map (·.add k)) g) : At A g := by
  obtain ⟨ad, he, rfl⟩ := h
  cases A with
  | none => cases he
  | some a =>
    cases he
    refine ⟨a, rfl, ?_⟩
    show a.block = (a.add k).block
    unfold Addr.add
    split <;> rfl
def TookP (w : World) (b : Nat) (lo hi rm : Int) (A : Option Addr) (n c : Nat) (ab : Bool) (qd gn : Int) (xs : List UInt8) (k : Nat) (e : Ending) (w' : World) : Prop :=
  e = .returned (.int .i64 k) ∧ Kept (· = b) w w' ∧ ∃ A', (A' = none → c - k = 0) ∧ (∀ g, At A' g → At A g) ∧ Rd w' A' (bv (xs.drop k)) ∧ QB w' b lo hi rm (.slice A' (n - k) (c - k)) (markB lo hi (n - k : Nat) ab) qd (gn + k)
set_option maxHeartbeats 400000 in
theorem took_any (w : World) (b : Nat) (lo hi rm qd gn : Int) (A : Option Addr) (n c : Nat) (ab : Bool) (xs : List UInt8) (m : Int) (hQ : QB w b lo hi rm (.slice A n c) ab qd gn) (hn : n ≤ 70000) (hnc : n ≤ c) (hnil : A = none → c = 0)
    (hx : Rd w A (bv xs)) (hxl : xs.length = n) (hg0 : 0 ≤ gn) (hg1 : gn ≤ 1000000) :
    Calls Tryz.prog 61 #[.pointer (some ⟨b, 0, none⟩), .int .i64 m] w (TookP w b lo hi rm A n c ab qd gn xs (takeN m n)) := by
  obtain ⟨c0, c1, c2, c3, c4, c5, c6⟩ := hQ.cells
  have fz := hQ.fz
  have hn0 : (0 : Int) ≤ n := Int.natCast_nonneg _
  have hn1 : (n : Int) ≤ c := by omega

  rcases Int.lt_or_le m 0 with hm | hm
  · have ht : takeN m n = 0 := by unfold takeN; omega
    rw [ht]
    go_enter Tryz.func61, Tryz.ntmps61
    go_wp2_with (go_at_call 83; refine (mark_any _ b lo hi rm qd _ _ _ _ ab ((hQ.set3 _).set6 _)).mono ?_; rintro e w3 ⟨rfl, hk3, hq3⟩)
    go_ret
    have hk4 : Kept (· = b) w w3 := (((Kept.refl _ w).set1 _).set1 _).trans hk3
    exact ⟨rfl, hk4, A, fun e => by rw [hnil e], fun _ h => h, hx.keptQ hQ hk4 (bv_u8 _), by simpa using hq3⟩
  · obtain ⟨k, rfl⟩ := Int.eq_ofNat_of_zero_le hm
    rcases Nat.lt_or_ge n k with hk | hk
    · have ht : takeN k n = n := by unfold takeN; omega
      rw [ht]
      have hk' : (n : Int) < k := by omega
      have hxd := hx.drop n c (by rw [bv_length]; omega)
      rw [← bv_drop] at hxd
      by_cases hck : c = n
      · subst hck
        rw [if_pos rfl] at hxd
        go_enter Tryz.func61, Tryz.ntmps61
        go_wp2_with (go_at_call 83; refine (mark_any _ b lo hi rm qd _ _ _ _ ab ((hQ.set3 _).set6 _)).mono ?_; rintro e w3 ⟨rfl, hk3, hq3⟩)
        go_ret
        have hk4 : Kept (· = b) w w3 := (((Kept.refl _ w).set1 _).set1 _).trans hk3
        exact ⟨rfl, hk4, A, fun e => Nat.sub_self _, fun _ h => h, hxd.keptQ hQ hk4 (bv_u8 _), by simpa using hq3⟩
      · rw [if_neg hck] at hxd
        go_enter Tryz.func61, Tryz.ntmps61
        go_wp2_with (go_at_call 83; refine (mark_any _ b lo hi rm qd _ _ _ _ ab ((hQ.set3 _).set6 _)).mono ?_; rintro e w3 ⟨rfl, hk3, hq3⟩)
        go_ret
        have hk4 : Kept (· = b) w w3 := (((Kept.refl _ w).set1 _).set1 _).trans hk3
        exact ⟨rfl, hk4, A.map (·.add n), fun e => by have := hnil (by simpa using e); omega, fun _ h => at_map h, hxd.keptQ hQ hk4 (bv_u8 _), by simpa [hck] using hq3⟩
    · have ht : takeN k n = k := by unfold takeN; omega
      rw [ht]
      have hk' : (k : Int) ≤ n := by omega
      have hxd := hx.drop k c (by rw [bv_length]; omega)
      rw [← bv_drop] at hxd
      by_cases hck : c = k
      · subst hck
        rw [if_pos rfl] at hxd
        obtain rfl : n = c := by omega
        go_enter Tryz.func61, Tryz.ntmps61
        go_wp2_with (go_at_call 83; refine (mark_any _ b lo hi rm qd _ _ _ _ ab ((hQ.set3 _).set6 _)).mono ?_; rintro e w3 ⟨rfl, hk3, hq3⟩)
        go_ret
        have hk4 : Kept (· = b) w w3 := (((Kept.refl _ w).set1 _).set1 _).trans hk3
        exact ⟨rfl, hk4, A, fun e => Nat.sub_self _, fun _ h => h, hxd.keptQ hQ hk4 (bv_u8 _), by simpa using hq3⟩
      · rw [if_neg hck] at hxd
        go_enter Tryz.func61, Tryz.ntmps61
        go_wp2_with (go_at_call 83; refine (mark_any _ b lo hi rm qd _ _ _ _ ab ((hQ.set3 _).set6 _)).mono ?_; rintro e w3 ⟨rfl, hk3, hq3⟩)
        go_ret
        have hk4 : Kept (· = b) w w3 := (((Kept.refl _ w).set1 _).set1 _).trans hk3
        exact ⟨rfl, hk4, A.map (·.add k), fun e => by have := hnil (by simpa using e); omega, fun _ h => at_map h, hxd.keptQ hQ hk4 (bv_u8 _), by simpa [hck] using hq3⟩
end Go.Proofs.YtagjdeekiiffjaaGreatDoor

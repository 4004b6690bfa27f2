/- Laws on memory that the walks of this claim use: slices that read as lists, append onto a slice whose spare cells may be written or that has none, bytes to a string and back. No conditions. -/
import Derived.Test.YtagjdeekiiffjaaGreatDoorBase
import Derived.Test.YtagjdeekiiffjaaGreatDoorText
import Derived.Deep.RegionLaw
import Derived.Deep.RegionHeld3
import Derived.Deep.QuietTactic
import Derived.BigQuiet
import Derived.OwnWalk
import Derived.Maps.AppendAt
import Derived.Deep.Upon
import Derived.ArgAppend
namespace Go.Proofs.YtagjdeekiiffjaaGreatDoor
open Go.RowKit

/-- The slice's head A reads as the cells xs. -/
def Rd (w : World) (A : Option Addr) (xs : List Value) : Prop :=
  xs ≠ [] → ∃ g off, A = some ⟨g, off, none⟩ ∧ ∀ j u, xs[j]? = some u → w.cell? ⟨g, off + j, none⟩ = some u

/-- The cells lo .. hi-1 behind the slice's head may be written. -/
def Sp (w : World) (A : Option Addr) (lo hi : Nat) : Prop :=
  lo < hi → ∃ g off, A = some ⟨g, off, none⟩ ∧ ∀ j, lo ≤ j → j < hi → (w.cell? ⟨g, off + j, none⟩).isSome = true ∧ w.frozen? ⟨g, off + j, none⟩ = false

/-- The bytes as cells. -/
def bv (l : List UInt8) : List Value := l.map fun b => .int .u8 b.toNat

/-- The block of the slice's head. -/
def At (A : Option Addr) (g : Nat) : Prop := ∃ ad, A = some ad ∧ ad.block = g

section
variable {w w' : World} {A : Option Addr} {xs ys : List Value} {S : Nat → Prop}
theorem Rd.nil (w : World) (A : Option Addr) : Rd w A [] := fun h => absurd rfl h
theorem Rd.kept (h : Rd w A xs) (hk : Kept S w w') (hs : ∀ g, At A g → ¬ S g) : Rd w' A xs := fun hn => by
  obtain ⟨g, off, rfl, hc⟩ := h hn
  refine ⟨g, off, rfl, fun j u hu => ?_⟩
  have hc' := hc j u hu
  have hlt : g < w.heap.size := World.block_lt_of_cell? w _ hc'
  rw [World.cell?_of_block (w := w) (hk.block g hlt (hs g ⟨_, rfl, rfl⟩))]
  exact hc'
theorem Rd.same (h : Rd w A xs) (hk : Kept (fun _ => False) w w') : Rd w' A xs := h.kept hk fun _ _ => id
theorem Rd.drew (h : Rd w A xs) : Rd w.drew A xs := h
theorem Rd.drewN (h : Rd w A xs) (n : Nat) : Rd (w.drewN n) A xs := h
theorem Rd.alloc (h : Rd w A xs) (o : Obj) : Rd (w.alloc o) A xs := h.same ((Kept.refl _ w).alloc o)
theorem Rd.lt (h : Rd w A xs) (hn : xs ≠ []) : ∃ g off, A = some ⟨g, off, none⟩ ∧ g < w.heap.size := by
  obtain ⟨g, off, rfl, hc⟩ := h hn
  have : 0 < xs.length := List.length_pos_iff.2 hn
  exact ⟨g, off, rfl, World.block_lt_of_cell? w _ (hc 0 _ (List.getElem?_eq_getElem this))⟩
/-- A read at one place. -/
theorem Rd.get (h : Rd w A xs) {j : Nat} {u : Value} (hu : xs[j]? = some u) : ∃ g off, A = some ⟨g, off, none⟩ ∧ w.cell? ⟨g, off + j, none⟩ = some u := by
  obtain ⟨g, off, rfl, hc⟩ := h (by rintro rfl; simp at hu)
  exact ⟨g, off, rfl, hc j u hu⟩
theorem Rd.zero (h : Rd w A xs) (hA : A = none) : xs.length = 0 := by
  cases xs with
  | nil => rfl
  | cons x r =>
    obtain ⟨g, off, h1, _⟩ := h (by simp)
    rw [hA] at h1
    cases h1
theorem Rd.take (h : Rd w A xs) (k : Nat) : Rd w A (xs.take k) := fun hn => by
  obtain ⟨g, off, rfl, hc⟩ := h (by rintro rfl; simp at hn)
  refine ⟨g, off, rfl, fun j u hu => hc j u ?_⟩
  rw [List.getElem?_take] at hu
  split at hu
  · exact hu
  · cases hu
theorem Rd.drop (h : Rd w A xs) (k c : Nat) (hc : xs.length ≤ c) : Rd w (if c = k then A else A.map (·.add k)) (xs.drop k) := fun hn => by
  have hlt : k < xs.length := by
    rcases Nat.lt_or_ge k xs.length with h1 | h1
    · exact h1
    · exact absurd (List.drop_eq_nil_of_le h1) hn
  obtain ⟨g, off, rfl, hcl⟩ := h (by rintro rfl; simp at hlt)
  rw [if_neg (by omega)]
  refine ⟨g, off + k, ?_, fun j u hu => ?_⟩
  · simp only [Option.map_some, Addr.add]
    split
    · subst k; rfl
    · rfl
  · rw [Nat.add_assoc]
    exact hcl _ u (by rw [← hu, List.getElem?_drop])
theorem Sp.none_ (w : World) (A : Option Addr) (n : Nat) : Sp w A n n := fun h => absurd h (Nat.lt_irrefl _)
theorem Sp.kept {lo hi : Nat} (h : Sp w A lo hi) (hk : Kept S w w') (hs : ∀ g, At A g → ¬ S g) : Sp w' A lo hi := fun hn => by
  obtain ⟨g, off, rfl, hc⟩ := h hn
  refine ⟨g, off, rfl, fun j h1 h2 => ?_⟩
  have hc' := hc j h1 h2
  have hlt : g < w.heap.size := by
    obtain ⟨u, hu⟩ := Option.isSome_iff_exists.1 hc'.1
    exact World.block_lt_of_cell? w _ hu
  have hb := hk.block g hlt (hs g ⟨_, rfl, rfl⟩)
  rw [World.cell?_of_block (w := w) hb, World.frozen?_of_block (w := w) hb]
  exact hc'
end

theorem bv_length (l : List UInt8) : (bv l).length = l.length := by simp [bv]
theorem bv_append (l m : List UInt8) : bv (l ++ m) = bv l ++ bv m := by simp [bv]
theorem bv_take (l : List UInt8) (k : Nat) : bv (l.take k) = (bv l).take k := by simp [bv, List.map_take]
theorem bv_drop (l : List UInt8) (k : Nat) : bv (l.drop k) = (bv l).drop k := by simp [bv, List.map_drop]
theorem bv_one (l : List UInt8) : ∀ u ∈ bv l, u.oneCell' = true := by
  intro u hu
  simp only [bv, List.mem_map] at hu
  obtain ⟨b, _, rfl⟩ := hu
  rfl
theorem bv_u8 (l : List UInt8) : ∀ u ∈ bv l, ∃ k, u = .int .u8 k := by
  intro u hu
  simp only [bv, List.mem_map] at hu
  obtain ⟨x, _, rfl⟩ := hu
  exact ⟨_, rfl⟩
theorem bv_get (l : List UInt8) (j : Nat) (h : j < l.length) : (bv l)[j]? = some (.int .u8 (l[j]).toNat) := by simp [bv, h]

theorem Kept.setCells {w w' : World} {S : Nat → Prop} (h : Kept S w w') (g o : Nat) (vs : List Value) (hg : S g ∨ w.heap.size ≤ g) (hlt : ∀ i, i < w.heap.size → i < w'.heap.size) : Kept S w (w'.setCells g o vs) := by
  induction vs generalizing w' o with
  | nil => exact h
  | cons v vs ih => exact ih (w' := w'.setCell ⟨g, o, none⟩ v) (h.setCell (p := ⟨g, o, none⟩) hg v) (o + 1) (fun i hi => by simpa [World.setCell] using hlt i hi)

section
variable {P : Program} (w : World)
/-- append, whatever the source: onto a slice whose spare cells may be written (or that has none). -/
theorem run_append_rd (t ty e : TypeId) (i : TypeInfo) (z : Value) (size bytes : Nat) (ht : P.underlying t = some (.slice e)) (hi : P.info? e = some i) (hz : i.zero = some z)
    (hsize : i.size = size) (hby : i.bytes = bytes) (hzs : z.cells.size = size) (hsz : 0 < size)
    (A : Option Addr) (n c : Nat) (xs : List Value) (hxl : xs.length = n * size) (hx : Rd w A xs) (hnc : n ≤ c) (hsp : Sp w A (n * size) (c * size)) (hA : A = none → c = 0)
    (B : Option Addr) (m d : Nat) (ys : List Value) (hyl : ys.length = m * size) (hy : Rd w B ys) (h1 : ∀ u ∈ ys, u.oneCell' = true)
    (h63 : n + m ≤ maxLen) (hbytes : (n + m) * bytes ≤ 140737488355328) :
    ∃ A' c' w', (Builtin.append_ #[t, t] ty #[.slice A n c, .slice B m d]).run P w = .ok (.slice A' (n + m) c') w' ∧ Rd w' A' (xs ++ ys) ∧ Sp w' A' ((n + m) * size) (c' * size) ∧ n + m ≤ c' ∧ (A' = none → c' = 0) ∧
      ((A' = A ∧ c' = c ∧ Kept (fun k => n < c ∧ At A k) w w') ∨ (∃ g, A' = some ⟨g, 0, none⟩ ∧ w.heap.size ≤ g ∧ Grew w w' g)) := by
  subst hsize
  subst hby
  have hsmall : n + m ≤ 9223372036854775807 := by simp only [maxLen] at h63; omega
  have hlen : (xs ++ ys).length = (n + m) * i.size := by rw [List.length_append, hxl, hyl, Nat.add_mul]
  have hBm : B = none → m = 0 := by
    rintro rfl
    rcases Nat.eq_zero_or_pos m with h0 | h0
    · exact h0
    · have : ys ≠ [] := by
        rintro rfl
        have := Nat.mul_pos h0 hsz
        simp at hyl
        omega
      obtain ⟨g, off, h, _⟩ := hy this
      cases h
  have hnews : ∀ ad, B = some ad → ∀ j u, ys[j]? = some u → w.cell? (ad.add j) = some u := by
    rintro ad rfl j u hu
    obtain ⟨g, off, h, hc⟩ := hy.get hu
    cases h
    rw [Addr.add]
    split
    · subst j; simpa using hc
    · exact hc
  have holds : ∀ ad, A = some ad → ∀ j u, xs[j]? = some u → w.cell? (ad.add j) = some u := by
    rintro ad rfl j u hu
    obtain ⟨g, off, h, hc⟩ := hx.get hu
    cases h
    rw [Addr.add]
    split
    · subst j; simpa using hc
    · exact hc
  by_cases hroom : n + m ≤ c
  · -- there is room
    rcases Nat.eq_zero_or_pos m with hm | hm
    · -- nothing is appended
      subst hm
      obtain rfl : ys = [] := List.eq_nil_of_length_eq_zero (by simpa using hyl)
      refine ⟨A, c, w, ?_, by simpa using hx, by simpa using hsp, by simpa using hnc, hA, .inl ⟨rfl, rfl, Kept.refl _ _⟩⟩
      have hnc' : n + 0 ≤ c := hroom
      cases A with
      | none => cases B <;> simp [Builtin.append_, run_underlying ht, sizeOf, typeInfo, hi, Builtin.lenOf, hnc, Builtin.firstCells, loadCells, loadCellsFrom]
      | some ad => cases B <;> simp [Builtin.append_, run_underlying ht, sizeOf, typeInfo, hi, Builtin.lenOf, hnc, Builtin.firstCells, loadCells, loadCellsFrom, storeCells]
    · have hncl : n < c := by omega
      have hlt : n * i.size < c * i.size := Nat.mul_lt_mul_of_pos_right hncl hsz
      obtain ⟨g, off, rfl, hcell⟩ := hsp hlt
      have hys : ys ≠ [] := by
        rintro rfl
        have := Nat.mul_pos hm hsz
        simp at hyl
        omega
      obtain ⟨gb, offb, rfl, hcb⟩ := hy hys
      have hfit : n * i.size + ys.length ≤ c * i.size := by rw [hyl, ← Nat.add_mul]; exact Nat.mul_le_mul_right _ hroom
      have hr := run_append_room_cells (P := P) w t ty e i ht hi g off n c ⟨gb, offb, none⟩ m d ys hyl (hnews _ rfl) h1 hroom
        (fun j hj => by rw [Nat.add_assoc]; exact (hcell (n * i.size + j) (by omega) (by omega)).1) (fun j hj => by rw [Nat.add_assoc]; exact (hcell (n * i.size + j) (by omega) (by omega)).2)
      refine ⟨_, _, _, hr, ?_, ?_, hroom, by simp, .inl ⟨rfl, rfl, ?_⟩⟩
      · intro _
        refine ⟨g, off, rfl, fun j u hu => ?_⟩
        rcases Nat.lt_or_ge j xs.length with hj | hj
        · rw [World.cell?_setCells_out g ys _ w ⟨g, off + j, none⟩ (fun _ _ => .inl (by simp; omega))]
          rw [List.getElem?_append_left hj] at hu
          obtain ⟨g2, off2, h2, hc2⟩ := hx.get hu
          cases h2
          exact hc2
        · rw [List.getElem?_append_right hj] at hu
          have hjl : j - xs.length < ys.length := (List.getElem?_eq_some_iff.1 hu).1
          have := World.cell?_setCells_in g ys (off + n * i.size) w (fun k hk => by rw [Nat.add_assoc]; exact (hcell (n * i.size + k) (by omega) (by omega)).1) (j - xs.length) hjl
          rw [show off + n * i.size + (j - xs.length) = off + j by omega] at this
          rw [this, ← hu, List.getElem?_eq_getElem hjl]
      · intro _
        refine ⟨g, off, rfl, fun j h2 h3 => ?_⟩
        rw [World.frozen?_setCells, World.cell?_setCells_out g ys _ w ⟨g, off + j, none⟩ (fun _ _ => .inr (by simp only; rw [hyl, Nat.add_assoc, ← Nat.add_mul]; omega))]
        rw [Nat.add_mul] at h2
        exact hcell j (by omega) h3
      · exact (Kept.refl _ w).setCells g _ ys (.inl ⟨hncl, _, rfl, rfl⟩) (fun _ h => h)
  · -- it grows
    have hm : 0 < m := by omega
    have hys : ys ≠ [] := by
      rintro rfl
      have := Nat.mul_pos hm hsz
      simp at hyl
      omega
    obtain ⟨gb, offb, rfl, hcb⟩ := hy hys
    have hge := grownCap_ge w (n + m) c e
    have key : (Builtin.append_ #[t, t] ty #[.slice A n c, .slice (some ⟨gb, offb, none⟩) m d]).run P w =
        .ok (.slice (some ⟨w.heap.size, 0, none⟩) (n + m) (grownCap w (n + m) c e))
          (w.drew.alloc (.cells (xs.toArray ++ ys.toArray ++ Builtin.zeroCells z.cells (grownCap w (n + m) c e - (n + m))) e)) := by
      cases A with
      | some ad => exact run_append_grow (P := P) w t ty e i z ht hi hz ad n c xs hxl (holds _ rfl) _ m d ys hyl (hnews _ rfl) (by omega) (by omega) (growslice_fits (by omega) hbytes)
      | none =>
        obtain rfl : c = 0 := hA rfl
        obtain rfl : n = 0 := by omega
        obtain rfl : xs = [] := List.eq_nil_of_length_eq_zero (by simpa using hxl)
        have := run_append_nil (P := P) w t ty e i z ht hi hz ⟨gb, offb, none⟩ m d ys hyl (hnews _ rfl) hm (by omega) (by simp at hbytes; omega)
        simpa using this
    refine ⟨_, _, _, key, ?_, ?_, hge, by simp, .inr ⟨w.heap.size, rfl, Nat.le_refl _, ⟨((Kept.refl _ w).drew).alloc _, fun i => frozen_of_row _ _ _ _ _ (heap_alloc_new w.drew _), by simp⟩⟩⟩
    · intro _
      refine ⟨_, _, rfl, fun j u hu => ?_⟩
      rw [World.cell?_alloc_at _ _ _ _ (by simp)]
      have hj : j < (xs ++ ys).length := (List.getElem?_eq_some_iff.1 hu).1
      rw [Nat.zero_add, Array.getElem?_append_left (by simpa using hj), List.append_toArray]
      simpa using hu
    · intro _
      refine ⟨_, _, rfl, fun j h2 h3 => ?_⟩
      rw [World.cell?_alloc_at _ _ _ _ (by simp), World.frozen?_alloc_at _ _ _ _ (by simp)]
      refine ⟨?_, rfl⟩
      rw [Array.getElem?_eq_getElem (by
        simp only [Array.size_append, List.size_toArray, size_zeroCells, hzs, hxl, hyl, ← Nat.add_mul]
        have : n + m + (grownCap w (n + m) c e - (n + m)) = grownCap w (n + m) c e := by omega
        rw [this]; omega)]
      rfl

/-- One step of a region that draws its order: append. -/
theorem wp_append_rd {o : Oper} {a : Act} {K : Act → World → Prop} {Q : Exit → Act → World → Prop} (s x : Operand) (t : TypeId)
    (ho : o.op = .call { callee := .builtin .append, args := #[s, x], argTypes := #[t, t] })
    (e : TypeId) (i : TypeInfo) (z : Value) (size bytes : Nat) (ht : P.underlying t = some (.slice e)) (hi : P.info? e = some i) (hz : i.zero = some z)
    (hsize : i.size = size) (hby : i.bytes = bytes) (hzs : z.cells.size = size) (hsz : 0 < size)
    (A : Option Addr) (n c : Nat) (hs : a.eval s = .slice A n c) (xs : List Value) (hxl : xs.length = n * size) (hx : Rd w A xs) (hnc : n ≤ c) (hsp : Sp w A (n * size) (c * size)) (hA : A = none → c = 0)
    (B : Option Addr) (m d : Nat) (hev : a.eval x = .slice B m d) (ys : List Value) (hyl : ys.length = m * size) (hy : Rd w B ys) (h1 : ∀ u ∈ ys, u.oneCell' = true)
    (h63 : n + m ≤ maxLen) (hbytes : (n + m) * bytes ≤ 140737488355328)
    (h : ∀ A' c' w', Rd w' A' (xs ++ ys) → Sp w' A' ((n + m) * size) (c' * size) → n + m ≤ c' → (A' = none → c' = 0) →
      ((A' = A ∧ c' = c ∧ Kept (fun k => n < c ∧ At A k) w w') ∨ (∃ g, A' = some ⟨g, 0, none⟩ ∧ w.heap.size ≤ g ∧ Grew w w' g)) → K (a.put o.dst (.slice A' (n + m) c')) w') : o.wp P a w K Q := by
  obtain ⟨A', c', w', hrun, r1, r2, r3, r4, r5⟩ := run_append_rd (P := P) w t o.type e i z size bytes ht hi hz hsize hby hzs hsz A n c xs hxl hx hnc hsp hA B m d ys hyl hy h1 h63 hbytes
  unfold Oper.wp execOp
  simp only [ho, resolve, invoke, builtin, Sem.run_bind, Sem.run_pure, Result.andThen_ok, List.map_toArray, List.map_cons, List.map_nil, hs, hev, hrun]
  exact h A' c' w' r1 r2 r3 r4 r5
theorem wpList_append_rd {ops : Array Oper} {rest : List Oper} {o : Oper} {a : Act} {Q : Exit → Act → World → Prop} (hgd : o.guard = none) (s x : Operand) (t : TypeId)
    (ho : o.op = .call { callee := .builtin .append, args := #[s, x], argTypes := #[t, t] })
    (e : TypeId) (i : TypeInfo) (z : Value) (size bytes : Nat) (ht : P.underlying t = some (.slice e)) (hi : P.info? e = some i) (hz : i.zero = some z)
    (hsize : i.size = size) (hby : i.bytes = bytes) (hzs : z.cells.size = size) (hsz : 0 < size)
    (A : Option Addr) (n c : Nat) (hs : a.eval s = .slice A n c) (xs : List Value) (hxl : xs.length = n * size) (hx : Rd w A xs) (hnc : n ≤ c) (hsp : Sp w A (n * size) (c * size)) (hA : A = none → c = 0)
    (B : Option Addr) (m d : Nat) (hev : a.eval x = .slice B m d) (ys : List Value) (hyl : ys.length = m * size) (hy : Rd w B ys) (h1 : ∀ u ∈ ys, u.oneCell' = true)
    (h63 : n + m ≤ maxLen) (hbytes : (n + m) * bytes ≤ 140737488355328)
    (h : ∀ A' c' w', Rd w' A' (xs ++ ys) → Sp w' A' ((n + m) * size) (c' * size) → n + m ≤ c' → (A' = none → c' = 0) →
      ((A' = A ∧ c' = c ∧ Kept (fun k => n < c ∧ At A k) w w') ∨ (∃ g, A' = some ⟨g, 0, none⟩ ∧ w.heap.size ≤ g ∧ Grew w w' g)) → wpList P ops Q rest (a.put o.dst (.slice A' (n + m) c')) w') : wpList P ops Q (o :: rest) a w :=
  wpList_plain hgd fun _ hK => wp_append_rd w s x t ho e i z size bytes ht hi hz hsize hby hzs hsz A n c hs xs hxl hx hnc hsp hA B m d hev ys hyl hy h1 h63 hbytes fun A' c' w' r1 r2 r3 r4 r5 => hK _ _ (h A' c' w' r1 r2 r3 r4 r5)

theorem step_append_rd {ops : Array Oper} {o : Oper} {a : Act} {K : Act → World → Prop} {Q : Exit → Act → World → Prop} {E : Prop} (hgd : o.guard = none) (s x : Operand) (t : TypeId)
    (ho : o.op = .call { callee := .builtin .append, args := #[s, x], argTypes := #[t, t] })
    (e : TypeId) (i : TypeInfo) (z : Value) (size bytes : Nat) (ht : P.underlying t = some (.slice e)) (hi : P.info? e = some i) (hz : i.zero = some z)
    (hsize : i.size = size) (hby : i.bytes = bytes) (hzs : z.cells.size = size) (hsz : 0 < size)
    (A : Option Addr) (n c : Nat) (hs : a.eval s = .slice A n c) (xs : List Value) (hxl : xs.length = n * size) (hx : Rd w A xs) (hnc : n ≤ c) (hsp : Sp w A (n * size) (c * size)) (hA : A = none → c = 0)
    (B : Option Addr) (m d : Nat) (hev : a.eval x = .slice B m d) (ys : List Value) (hyl : ys.length = m * size) (hy : Rd w B ys) (h1 : ∀ u ∈ ys, u.oneCell' = true)
    (h63 : n + m ≤ maxLen) (hbytes : (n + m) * bytes ≤ 140737488355328)
    (h : ∀ A' c' w', Rd w' A' (xs ++ ys) → Sp w' A' ((n + m) * size) (c' * size) → n + m ≤ c' → (A' = none → c' = 0) →
      ((A' = A ∧ c' = c ∧ Kept (fun k => n < c ∧ At A k) w w') ∨ (∃ g, A' = some ⟨g, 0, none⟩ ∧ w.heap.size ≤ g ∧ Grew w w' g)) → K (a.put o.dst (.slice A' (n + m) c')) w') :
    if Region.wanted o (yielded ops a.tmps) = true then Oper.wp P o a w K Q else E := by
  have hw : Region.wanted o (yielded ops a.tmps) = true := by simp [Region.wanted, hgd]
  rw [if_pos hw]
  exact wp_append_rd w s x t ho e i z size bytes ht hi hz hsize hby hzs hsz A n c hs xs hxl hx hnc hsp hA B m d hev ys hyl hy h1 h63 hbytes h

theorem Rd.none_zero {w : World} {A : Option Addr} {xs : List Value} {n size : Nat} (h : Rd w A xs) (hsz : 0 < size) (hl : xs.length = n * size) : A = none → n = 0 := fun e => by
  have h0 := h.zero e
  rw [hl] at h0
  rcases Nat.mul_eq_zero.1 h0 with h1 | h1
  · exact h1
  · omega
/-- append onto a slice that has no spare cell. -/
theorem wp_append_full {o : Oper} {a : Act} {K : Act → World → Prop} {Q : Exit → Act → World → Prop} (s x : Operand) (t : TypeId)
    (ho : o.op = .call { callee := .builtin .append, args := #[s, x], argTypes := #[t, t] })
    (e : TypeId) (i : TypeInfo) (z : Value) (size bytes : Nat) (ht : P.underlying t = some (.slice e)) (hi : P.info? e = some i) (hz : i.zero = some z)
    (hsize : i.size = size) (hby : i.bytes = bytes) (hzs : z.cells.size = size) (hsz : 0 < size)
    (A : Option Addr) (n : Nat) (hs : a.eval s = .slice A n n) (xs : List Value) (hxl : xs.length = n * size) (hx : Rd w A xs)
    (B : Option Addr) (m d : Nat) (hev : a.eval x = .slice B m d) (ys : List Value) (hyl : ys.length = m * size) (hy : Rd w B ys) (h1 : ∀ u ∈ ys, u.oneCell' = true)
    (h63 : n + m ≤ maxLen) (hbytes : (n + m) * bytes ≤ 140737488355328)
    (h : ∀ A' c' w', Rd w' A' (xs ++ ys) → n + m ≤ c' → Kept (fun _ => False) w w' → (∀ g, At A' g → At A g ∨ w.heap.size ≤ g) → (A' = none → c' = 0) → K (a.put o.dst (.slice A' (n + m) c')) w') : o.wp P a w K Q :=
  wp_append_rd w s x t ho e i z size bytes ht hi hz hsize hby hzs hsz A n n hs xs hxl hx (Nat.le_refl _) (Sp.none_ _ _ _) (hx.none_zero hsz hxl) B m d hev ys hyl hy h1 h63 hbytes fun A' c' w' r1 _ r3 r6 r5 => h A' c' w' r1 r3 (by
    rcases r5 with ⟨_, _, hk⟩ | ⟨_, _, _, hk⟩
    · exact hk.mono fun _ _ hc => by omega
    · exact hk.toKept) (by
    rcases r5 with ⟨rfl, _, _⟩ | ⟨g', rfl, hg, _⟩
    · exact fun g hg => .inl hg
    · rintro g ⟨_, he, rfl⟩; cases he; exact .inr hg) r6
theorem wpList_append_full {ops : Array Oper} {rest : List Oper} {o : Oper} {a : Act} {Q : Exit → Act → World → Prop} (hgd : o.guard = none) (s x : Operand) (t : TypeId)
    (ho : o.op = .call { callee := .builtin .append, args := #[s, x], argTypes := #[t, t] })
    (e : TypeId) (i : TypeInfo) (z : Value) (size bytes : Nat) (ht : P.underlying t = some (.slice e)) (hi : P.info? e = some i) (hz : i.zero = some z)
    (hsize : i.size = size) (hby : i.bytes = bytes) (hzs : z.cells.size = size) (hsz : 0 < size)
    (A : Option Addr) (n : Nat) (hs : a.eval s = .slice A n n) (xs : List Value) (hxl : xs.length = n * size) (hx : Rd w A xs)
    (B : Option Addr) (m d : Nat) (hev : a.eval x = .slice B m d) (ys : List Value) (hyl : ys.length = m * size) (hy : Rd w B ys) (h1 : ∀ u ∈ ys, u.oneCell' = true)
    (h63 : n + m ≤ maxLen) (hbytes : (n + m) * bytes ≤ 140737488355328)
    (h : ∀ A' c' w', Rd w' A' (xs ++ ys) → n + m ≤ c' → Kept (fun _ => False) w w' → (∀ g, At A' g → At A g ∨ w.heap.size ≤ g) → (A' = none → c' = 0) → wpList P ops Q rest (a.put o.dst (.slice A' (n + m) c')) w') : wpList P ops Q (o :: rest) a w :=
  wpList_plain hgd fun _ hK => wp_append_full w s x t ho e i z size bytes ht hi hz hsize hby hzs hsz A n hs xs hxl hx B m d hev ys hyl hy h1 h63 hbytes fun A' c' w' r1 r2 r3 r4 r5 => hK _ _ (h A' c' w' r1 r2 r3 r4 r5)
theorem step_append_full {ops : Array Oper} {o : Oper} {a : Act} {K : Act → World → Prop} {Q : Exit → Act → World → Prop} {E : Prop} (hgd : o.guard = none) (s x : Operand) (t : TypeId)
    (ho : o.op = .call { callee := .builtin .append, args := #[s, x], argTypes := #[t, t] })
    (e : TypeId) (i : TypeInfo) (z : Value) (size bytes : Nat) (ht : P.underlying t = some (.slice e)) (hi : P.info? e = some i) (hz : i.zero = some z)
    (hsize : i.size = size) (hby : i.bytes = bytes) (hzs : z.cells.size = size) (hsz : 0 < size)
    (A : Option Addr) (n : Nat) (hs : a.eval s = .slice A n n) (xs : List Value) (hxl : xs.length = n * size) (hx : Rd w A xs)
    (B : Option Addr) (m d : Nat) (hev : a.eval x = .slice B m d) (ys : List Value) (hyl : ys.length = m * size) (hy : Rd w B ys) (h1 : ∀ u ∈ ys, u.oneCell' = true)
    (h63 : n + m ≤ maxLen) (hbytes : (n + m) * bytes ≤ 140737488355328)
    (h : ∀ A' c' w', Rd w' A' (xs ++ ys) → n + m ≤ c' → Kept (fun _ => False) w w' → (∀ g, At A' g → At A g ∨ w.heap.size ≤ g) → (A' = none → c' = 0) → K (a.put o.dst (.slice A' (n + m) c')) w') :
    if Region.wanted o (yielded ops a.tmps) = true then Oper.wp P o a w K Q else E := by
  have hw : Region.wanted o (yielded ops a.tmps) = true := by simp [Region.wanted, hgd]
  rw [if_pos hw]
  exact wp_append_full w s x t ho e i z size bytes ht hi hz hsize hby hzs hsz A n hs xs hxl hx B m d hev ys hyl hy h1 h63 hbytes h
end

theorem foldl_push (l : List UInt8) : ∀ r : ByteArray, (l.map fun b => ((b.toNat : Nat) : Int)).foldl (fun r n => r.push (UInt8.ofNat n.toNat)) r = r ++ ⟨l.toArray⟩ := by
  induction l with
  | nil => intro r; apply ByteArray.ext; simp [ByteArray.data_append]
  | cons x l ih =>
    intro r
    simp only [List.map_cons, List.foldl_cons]
    rw [ih]
    apply ByteArray.ext
    simp [ByteArray.data_append, ByteArray.data_push]
theorem Rd.load {P : Program} {w : World} {A : Option Addr} {xs : List Value} {ad : Addr} (h : Rd w A xs) (hA : A = some ad) : (loadCells ad xs.length).run P w = .ok xs.toArray w := by
  subst hA
  refine run_loadCells_list (P := P) w ad xs fun j u hu => ?_
  obtain ⟨g, off, h1, hc⟩ := h.get hu
  cases h1
  rw [Addr.add]
  split
  · subst j; simpa using hc
  · exact hc
/-- string(b). -/
theorem run_str {P : Program} {w : World} {A : Option Addr} {l : List UInt8} {n c : Nat} {src dst e : TypeId} (hs : P.underlying src = some (.slice e)) (he : P.underlying e = some (.int .u8)) (hd : P.underlying dst = some .string)
    (h : Rd w A (bv l)) (hl : l.length = n) : (convert src dst (.slice A n c)).run P w = .ok (.string ⟨l.toArray⟩) w := by
  rw [run_convert_bytes_string w src dst e A n c hs he hd]
  cases A with
  | none =>
    have h0 := h.zero rfl
    rw [bv_length] at h0
    obtain rfl : l = [] := List.eq_nil_of_length_eq_zero h0
    simp [Conv.bytesToString, Sem.run_pure]
    rfl
  | some ad =>
    have hld := h.load (P := P) rfl
    rw [bv_length, hl] at hld
    have hm : bv l = (l.map fun b => ((b.toNat : Nat) : Int)).map (Value.int .u8) := by simp [bv]
    rw [hm] at hld
    rw [run_bytesToString w ad n c _ hld, foldl_push]
    simp
/-- A row that was laid just now. -/
theorem Rd.new (w : World) (C : Array Value) (e : TypeId) (fr : Nat × Nat) : Rd (w.alloc (.cells C e fr)) (some ⟨w.heap.size, 0, none⟩) C.toList := fun _ =>
  ⟨_, _, rfl, fun j u hu => by rw [World.cell?_alloc_mark, Nat.zero_add]; simpa using hu⟩
/-- make([]byte, n). -/
def zeros (n : Nat) : Array Value := (bv (List.replicate n 0)).toArray
theorem madeCells_one (z : Value) (n : Nat) : madeCells #[z] n = (List.replicate n z).toArray := by
  apply Array.ext
  · simp [madeCells]
  · intro i h1 h2
    simp [madeCells, Nat.mod_one]
theorem run_make_u8 {P : Program} (w : World) (t e : TypeId) (i : TypeInfo) (ht : P.underlying t = some (.slice e)) (hi : P.info? e = some i) (hz : i.zero = some (.int .u8 0)) (hs : i.size = 1) (hb : i.bytes = 1)
    (n : Nat) (hn : n ≤ 1048576) : (Instr.makeSlice t (.int .i64 n) (.int .i64 n)).run P w = .ok (.slice (some ⟨w.heap.size, 0, none⟩) n n) (w.alloc (.cells (zeros n) e)) := by
  have hr := run_make (P := P) w t e i _ ht hi hz .i64 .i64 n n (by omega) (by omega) (by rw [hb]; omega) (by omega)
  simp only [Int.toNat_natCast, hs, Nat.mul_one] at hr
  rw [hr]
  have : madeCells (Value.cells (.int .u8 0)) n = zeros n := by
    show madeCells #[.int .u8 0] n = _
    rw [madeCells_one]
    simp [zeros, bv]
  rw [this]
theorem Rd.zeros (w : World) (n : Nat) (e : TypeId) : Rd (w.alloc (.cells (zeros n) e)) (some ⟨w.heap.size, 0, none⟩) (bv (List.replicate n 0)) := by
  have := Rd.new w (Proofs.YtagjdeekiiffjaaGreatDoor.zeros n) e (0, 0)
  simpa [Proofs.YtagjdeekiiffjaaGreatDoor.zeros] using this
end Go.Proofs.YtagjdeekiiffjaaGreatDoor

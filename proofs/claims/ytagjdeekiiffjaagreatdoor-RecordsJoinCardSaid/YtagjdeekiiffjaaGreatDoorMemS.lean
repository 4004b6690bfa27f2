/- append of a text's bytes, whatever the slice. No conditions. -/
import Derived.Test.YtagjdeekiiffjaaGreatDoorMem
import Derived.Lib.AppendStr
namespace Go.Proofs.YtagjdeekiiffjaaGreatDoor
open Go.RowKit

section
variable {P : Program} (w : World)
theorem bv_str (s : List UInt8) : Lib.strCells ⟨s.toArray⟩ = bv s := by
  simp [Lib.strCells, bv]
theorem run_append_rd_str (t u ty e : TypeId) (i : TypeInfo) (z : Value) (ht : P.underlying t = some (.slice e)) (hu : P.underlying u = some .string) (hi : P.info? e = some i) (hz : i.zero = some z)
    (hsize : i.size = 1) (hby : i.bytes = 1) (hzs : z.cells.size = 1)
    (A : Option Addr) (n c : Nat) (xs : List Value) (hxl : xs.length = n) (hx : Rd w A xs) (hnc : n ≤ c) (hsp : Sp w A n c) (hA : A = none → c = 0)
    (s : List UInt8) (h63 : n + s.length ≤ 1000000) :
    ∃ A' c' w', (Builtin.append_ #[t, u] ty #[.slice A n c, .string ⟨s.toArray⟩]).run P w = .ok (.slice A' (n + s.length) c') w' ∧ Rd w' A' (xs ++ bv s) ∧ Sp w' A' (n + s.length) c' ∧ n + s.length ≤ c' ∧ (A' = none → c' = 0) ∧
      ((A' = A ∧ c' = c ∧ Kept (fun k => n < c ∧ At A k) w w') ∨ (∃ g, A' = some ⟨g, 0, none⟩ ∧ w.heap.size ≤ g ∧ Grew w w' g)) := by
  have hss : (⟨s.toArray⟩ : ByteArray).size = s.length := by simp [ByteArray.size]
  have hlen : (xs ++ bv s).length = n + s.length := by rw [List.length_append, hxl, bv_length]
  have hsmall : n + s.length ≤ 9223372036854775807 := by omega
  have holds : ∀ ad, A = some ad → ∀ j u, xs[j]? = some u → w.cell? (ad.add j) = some u := by
    rintro ad rfl j u hu
    obtain ⟨g, off, h, hc⟩ := hx.get hu
    cases h
    rw [Addr.add]
    split
    · subst j; simpa using hc
    · exact hc
  by_cases hroom : n + s.length ≤ c
  · rcases Nat.eq_zero_or_pos s.length with hm | hm
    · obtain rfl : s = [] := List.eq_nil_of_length_eq_zero hm
      refine ⟨A, c, w, ?_, by simpa [bv] using hx, by simpa using hsp, by simpa using hnc, hA, .inl ⟨rfl, rfl, Kept.refl _ _⟩⟩
      have hf := Lib.run_firstCells_string (P := P) w 1 ⟨#[]⟩
      have hz0 : (⟨#[]⟩ : ByteArray).size = 0 := rfl
      rw [hz0] at hf
      cases A <;> simp [Builtin.append_, run_underlying ht, run_underlying hu, sizeOf, typeInfo, hi, hsize, Builtin.lenOf, hnc, Builtin.firstCells, loadCells, loadCellsFrom, storeCells, hz0]
    · have hncl : n < c := by omega
      obtain ⟨g, off, rfl, hcell⟩ := hsp hncl
      have hf := Lib.run_firstCells_string (P := P) w 1 ⟨s.toArray⟩
      rw [bv_str] at hf
      have hst := run_storeCells_cells (P := P) g (off + n) (bv s) 0 w (fun j hj => by rw [bv_length] at hj; simpa [Nat.add_assoc] using (hcell (n + j) (by omega) (by omega)).1) (fun j hj => by rw [bv_length] at hj; simpa [Nat.add_assoc] using (hcell (n + j) (by omega) (by omega)).2) (bv_one s)
      simp only [Nat.add_zero] at hst
      have hr : (Builtin.append_ #[t, u] ty #[.slice (some ⟨g, off, none⟩) n c, .string ⟨s.toArray⟩]).run P w = .ok (.slice (some ⟨g, off, none⟩) (n + s.length) c) (w.setCells g (off + n) (bv s)) := by
        simp only [hss] at hf
        simp [Builtin.append_, run_underlying ht, run_underlying hu, sizeOf, typeInfo, hi, hsize, Builtin.lenOf, hss, hroom, hf, Addr.add_lit, hst]
      refine ⟨_, _, _, hr, ?_, ?_, hroom, by simp, .inl ⟨rfl, rfl, ?_⟩⟩
      · intro _
        refine ⟨g, off, rfl, fun j u hu => ?_⟩
        rcases Nat.lt_or_ge j xs.length with hj | hj
        · rw [World.cell?_setCells_out g (bv s) _ w ⟨g, off + j, none⟩ (fun _ _ => .inl (by simp; omega))]
          rw [List.getElem?_append_left hj] at hu
          obtain ⟨g2, off2, h2, hc2⟩ := hx.get hu
          cases h2
          exact hc2
        · rw [List.getElem?_append_right hj] at hu
          have hjl : j - xs.length < (bv s).length := (List.getElem?_eq_some_iff.1 hu).1
          have := World.cell?_setCells_in g (bv s) (off + n) w (fun k hk => by rw [bv_length] at hk; rw [Nat.add_assoc]; exact (hcell (n + k) (by omega) (by omega)).1) (j - xs.length) hjl
          rw [show off + n + (j - xs.length) = off + j by omega] at this
          rw [this, ← hu, List.getElem?_eq_getElem hjl]
      · intro _
        refine ⟨g, off, rfl, fun j h2 h3 => ?_⟩
        rw [World.frozen?_setCells, World.cell?_setCells_out g (bv s) _ w ⟨g, off + j, none⟩ (fun _ _ => .inr (by simp only; rw [bv_length]; omega))]
        exact hcell j (by omega) h3
      · exact (Kept.refl _ w).setCells g _ (bv s) (.inl ⟨hncl, _, rfl, rfl⟩) (fun _ h => h)
  · have hm : 0 < s.length := by omega
    have hge := grownCap_ge w (n + s.length) c e
    have key : (Builtin.append_ #[t, u] ty #[.slice A n c, .string ⟨s.toArray⟩]).run P w =
        .ok (.slice (some ⟨w.heap.size, 0, none⟩) (n + s.length) (grownCap w (n + s.length) c e))
          (w.drew.alloc (.cells (xs.toArray ++ (bv s).toArray ++ Builtin.zeroCells z.cells (grownCap w (n + s.length) c e - (n + s.length))) e)) := by
      cases A with
      | some ad =>
        have := Lib.run_append_grow_string (P := P) w t u ty e i z ht hu hi hz ad n c xs (by rw [hxl, hsize, Nat.mul_one]) (holds _ rfl) ⟨s.toArray⟩ (by rw [hss]; omega) (by rw [hss]; omega) (by rw [hss]; exact growslice_fits (by omega) (by rw [hby]; omega))
        rw [hss, bv_str] at this
        exact this
      | none =>
        obtain rfl : c = 0 := hA rfl
        obtain rfl : n = 0 := by omega
        obtain rfl : xs = [] := List.eq_nil_of_length_eq_zero hxl
        have := run_append_nil_string (P := P) w t u ty e i z ht hu hi hz ⟨s.toArray⟩ (by rw [hss]; omega) (by rw [hss]; omega) (by rw [hss, hby]; omega)
        rw [hss] at this
        simp only [Nat.zero_add]
        rw [this]
        simp [bv]
    refine ⟨_, _, _, key, ?_, ?_, hge, by simp, .inr ⟨w.heap.size, rfl, Nat.le_refl _, ⟨((Kept.refl _ w).drew).alloc _, fun i => frozen_of_row _ _ _ _ _ (heap_alloc_new w.drew _), by simp⟩⟩⟩
    · intro _
      refine ⟨_, _, rfl, fun j u hu => ?_⟩
      rw [World.cell?_alloc_at _ _ _ _ (by simp)]
      have hj : j < (xs ++ bv s).length := (List.getElem?_eq_some_iff.1 hu).1
      rw [Nat.zero_add, Array.getElem?_append_left (by simpa using hj), List.append_toArray]
      simpa using hu
    · intro _
      refine ⟨_, _, rfl, fun j h2 h3 => ?_⟩
      rw [World.cell?_alloc_at _ _ _ _ (by simp), World.frozen?_alloc_at _ _ _ _ (by simp)]
      refine ⟨?_, rfl⟩
      rw [Array.getElem?_eq_getElem (by
        simp only [Array.size_append, List.size_toArray, size_zeroCells, hzs, hxl, bv_length, Nat.mul_one]
        omega)]
      rfl
theorem wpList_append_rd_str {ops : Array Oper} {rest : List Oper} {o : Oper} {a : Act} {Q : Exit → Act → World → Prop} (hgd : o.guard = none) (s x : Operand) (t u : TypeId)
    (ho : o.op = .call { callee := .builtin .append, args := #[s, x], argTypes := #[t, u] })
    (e : TypeId) (i : TypeInfo) (z : Value) (ht : P.underlying t = some (.slice e)) (hu : P.underlying u = some .string) (hi : P.info? e = some i) (hz : i.zero = some z)
    (hsize : i.size = 1) (hby : i.bytes = 1) (hzs : z.cells.size = 1)
    (A : Option Addr) (n c : Nat) (hs : a.eval s = .slice A n c) (xs : List Value) (hxl : xs.length = n) (hx : Rd w A xs) (hnc : n ≤ c) (hsp : Sp w A n c) (hA : A = none → c = 0)
    (v : List UInt8) (hev : a.eval x = .string ⟨v.toArray⟩) (h63 : n + v.length ≤ 1000000)
    (h : ∀ A' c' w', Rd w' A' (xs ++ bv v) → Sp w' A' (n + v.length) c' → n + v.length ≤ c' → (A' = none → c' = 0) →
      ((A' = A ∧ c' = c ∧ Kept (fun k => n < c ∧ At A k) w w') ∨ (∃ g, A' = some ⟨g, 0, none⟩ ∧ w.heap.size ≤ g ∧ Grew w w' g)) → wpList P ops Q rest (a.put o.dst (.slice A' (n + v.length) c')) w') : wpList P ops Q (o :: rest) a w := by
  refine wpList_plain hgd fun K hK => ?_
  obtain ⟨A', c', w', hrun, r1, r2, r3, r4, r5⟩ := run_append_rd_str (P := P) w t u o.type e i z ht hu hi hz hsize hby hzs A n c xs hxl hx hnc hsp hA v h63
  unfold Oper.wp execOp
  simp only [ho, resolve, invoke, builtin, Sem.run_bind, Sem.run_pure, Result.andThen_ok, List.map_toArray, List.map_cons, List.map_nil, hs, hev, hrun]
  exact hK _ _ (h A' c' w' r1 r2 r3 r4 r5)
end
end Go.Proofs.YtagjdeekiiffjaaGreatDoor

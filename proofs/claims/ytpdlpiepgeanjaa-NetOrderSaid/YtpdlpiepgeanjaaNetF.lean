/- The contract of adding a connection. No conditions. -/
import Derived.Test.YtpdlpiepgeanjaaNetC
import Derived.Deep.RegionLaw
namespace Go.Proofs.Ytpdlpiepgeanjaa
open Go.RowKit

theorem Rd.newAt {w : World} {C : Array Value} {e : TypeId} {fr : Nat × Nat} {g : Nat} (hg : g = w.heap.size) : Rd (w.alloc (.cells C e fr)) (some ⟨g, 0, none⟩) C.toList := by subst hg; exact Rd.new w C e fr

theorem Own.retag {w : World} {tag tag' : Tags} {t : Tag} {A : Option Addr} {c : Nat} {xs : List Value} (h : Own w tag t A c xs) (ht : ∀ k, tag k = some t → tag' k = some t) : Own w tag' t A c xs := ⟨h.rd, h.sp, h.le, h.nil, fun hc g hg => ht g (h.tg hc g hg), h.fz⟩
theorem WireAt.retag {w : World} {tag tag' : Tags} {i g : Nat} {v : WV} (h : WireAt w tag i g v) (ht : ∀ k t, tag k = some t → tag' k = some t) : WireAt w tag' i g v := by
  obtain ⟨iA, iC, gA, gC, h1, h2, h3, h4⟩ := h
  exact ⟨iA, iC, gA, gC, h1, h2.retag fun k => ht k _, h3.retag fun k => ht k _, ht g _ h4⟩
/-- What adding leaves. -/
def AddP (w : World) (b : Nat) (tag : Tags) (n : NV) (g : Nat) (v : WV) (told : Bool) (w' : World) : Prop :=
  ∃ tag' lA lC tA tC gs, NetAt w' b tag' { n with ws := n.ws ++ [v], told := n.told ++ [told] } lA lC tA tC gs ∧ Kept (fun k => tag k ≠ none) w w' ∧ ∀ k, k < w.heap.size → k ≠ g → tag' k = tag k

theorem add_end (w W w1 W2 w2 : World) (b : Nat) (tag tag1 tag2 : Tags) (n : NV) (lA tA A1 A2 : Option Addr) (lC tC c1 c2 : Nat) (gs : List Nat) (g : Nat) (v : WV) (told : Bool) (h : NetAt w b tag n lA lC tA tC gs)
    (hg : WB w g v none 0 none 0) (hi : v.inn = []) (hgt : v.got = []) (ht : tag g = none) (hf : n.ws.length < 64) (hok : v.ok)
    (kW : Kept (fun _ => False) w W) (o1 : Own w1 tag1 .arr A1 c1 (ptrs gs ++ [.pointer (some ⟨g, 0, none⟩)])) (o2 : Kept (fun k => tag k = some .arr) W w1) (o3 : ∀ k, k < W.heap.size → tag1 k = tag k)
    (kW2 : Kept (fun _ => False) w1 W2) (p1 : Own w2 tag2 .told A2 c2 (n.told.map .bool ++ [.bool told])) (p2 : Kept (fun k => tag1 k = some .told) W2 w2) (p3 : ∀ k, k < W2.heap.size → tag2 k = tag1 k) (p4 : ∀ k, tag2 k ≠ none → k < w2.heap.size) :
    AddP w b tag n g v told ((w2.setCell ⟨b, 1, none⟩ (.slice A1 (n.ws.length + 1) c1)).setCell ⟨b, 2, none⟩ (.slice A2 (n.ws.length + 1) c2)) := by
  have s1 := kW.size
  have s2 := o2.size
  have s3 := kW2.size
  have s4 := p2.size
  have hbl := h.blk.lt
  have hgl := hg.lt
  have t1 : ∀ k, k < w.heap.size → tag2 k = tag k := fun k hk => (p3 k (by omega)).trans (o3 k (by omega))
  have hgb : g ≠ b := fun e => by rw [e, h.tb] at ht; cases ht
  have k1 : Kept (fun k => tag k = some .arr ∨ tag k = some .told) w w2 :=
    (kW.weak.over o2 fun k _ hk => .inl hk).over ((kW2.weak (S := fun k => tag1 k = some .told)).trans p2) fun k hk hh => .inr (by rw [← o3 k (by omega)]; exact hh)
  have k2 : Kept (fun k => tag k = some .arr ∨ tag k = some .told ∨ tag k = some .net) w ((w2.setCell ⟨b, 1, none⟩ (.slice A1 (n.ws.length + 1) c1)).setCell ⟨b, 2, none⟩ (.slice A2 (n.ws.length + 1) c2)) :=
    ((k1.mono fun k _ hk => by rcases hk with hk | hk <;> simp [hk]).setCell (.inl (.inr (.inr h.tb))) _).setCell (.inl (.inr (.inr h.tb))) _
  have kb : Kept (· = b) w2 ((w2.setCell ⟨b, 1, none⟩ (.slice A1 (n.ws.length + 1) c1)).setCell ⟨b, 2, none⟩ (.slice A2 (n.ws.length + 1) c2)) := ((Kept.refl _ w2).set1 _).set1 _
  have hB2 : Blk w2 b 57 #[.int .i64 n.now, .slice lA n.ws.length lC, .slice tA n.ws.length tC] := h.blk.kept k1 (by rw [h.tb]; simp)
  have b2 : tag2 b = some .net := (t1 b hbl).trans h.tb
  have nb : ∀ (t : Tag), t ≠ .net → ∀ x, x = b → tag2 x ≠ some t := fun t hne x hx => by subst hx; rw [b2]; intro e; cases e; exact hne rfl
  have oa : Own w2 tag2 .arr A1 c1 (ptrs gs ++ [.pointer (some ⟨g, 0, none⟩)]) :=
    (o1.kept (tag' := tag1) kW2 (fun _ hh => hh.elim) fun _ _ => rfl).kept p2 (fun x hx => by rw [hx]; simp) p3
  let tag3 : Tags := fun k => if k = g then some (.wire n.ws.length) else tag2 k
  have g3 : tag3 g = some (.wire n.ws.length) := if_pos rfl
  have ne3 : ∀ k, k ≠ g → tag3 k = tag2 k := fun k hk => if_neg hk
  have t2g : tag2 g = none := (t1 g hgl).trans ht
  have rt : ∀ k t, tag2 k = some t → tag3 k = some t := fun k t hk => by rw [ne3 k (fun e => by rw [e, t2g] at hk; cases hk)]; exact hk
  have up : ∀ (t : Tag) (A : Option Addr) (c : Nat) (xs : List Value), Own w2 tag2 t A c xs → t ≠ .net → Own ((w2.setCell ⟨b, 1, none⟩ (.slice A1 (n.ws.length + 1) c1)).setCell ⟨b, 2, none⟩ (.slice A2 (n.ws.length + 1) c2)) tag3 t A c xs := by
    intro t A c xs ho hne
    exact (ho.kept (tag' := tag2) kb (nb t hne) fun _ _ => rfl).retag fun k hk => rt k t hk
  refine ⟨tag3, A1, c1, A2, c2, gs ++ [g], ⟨?_, ?_, ?_, ?_, ?_, ?_, ?_, ?_, ?_, h.now0, h.now1, ?_⟩, k2.mono fun k _ hk => by rcases hk with hk | hk | hk <;> rw [hk] <;> simp, fun k hk hne => (ne3 k hne).trans (t1 k hk)⟩
  · have := Blk.set_ (Blk.set_ hB2 1 (.slice A1 (n.ws.length + 1) c1)) 2 (.slice A2 (n.ws.length + 1) c2)
    simpa using this
  · have := up _ _ _ _ oa (by simp)
    simpa [ptrs] using this
  · have := up _ _ _ _ p1 (by simp)
    simpa using this
  · simp [h.len]
  · simp [h.len2]
  · intro i k u hk hu
    rcases Nat.lt_trichotomy i n.ws.length with hlt | rfl | hgr
    · rw [List.getElem?_append_left (by rw [h.len]; exact hlt)] at hk
      rw [List.getElem?_append_left hlt] at hu
      exact ((h.wire i k u hk hu).kept (tag' := tag2) k2 (fun x hx => by rcases hx with hx | hx | hx <;> rw [hx] <;> simp) t1).retag rt
    · rw [List.getElem?_append_right (by rw [h.len]; exact Nat.le_refl _), h.len, Nat.sub_self] at hk
      rw [List.getElem?_append_right (Nat.le_refl _), Nat.sub_self] at hu
      cases hk
      cases hu
      refine ⟨none, 0, none, 0, hg.kept k2 (by rw [ht]; simp), ?_, ?_, g3⟩
      · rw [hi]; exact Own.none_ _ _ _
      · rw [hgt]; exact Own.none_ _ _ _
    · rw [List.getElem?_eq_none (by simp; omega)] at hu
      cases hu
  · rw [ne3 b (Ne.symm hgb)]; exact b2
  · intro k hk
    by_cases he : k = g
    · subst he; simpa [World.setCell] using Nat.lt_of_lt_of_le hgl (by omega)
    · rw [ne3 k he] at hk
      simpa [World.setCell] using p4 k hk
  · simp; omega
  · intro u hu
    rcases List.mem_append.1 hu with hu | hu
    · exact h.ok u hu
    · simp at hu; subst hu; exact hok

theorem infoptr : (Try.prog.info? 59).map (fun i => (i.zero, i.size, i.bytes)) = some (some (.pointer none), 1, 8) := by kernel_rfl
theorem infobool : (Try.prog.info? 4).map (fun i => (i.zero, i.size, i.bytes)) = some (some (.bool false), 1, 1) := by kernel_rfl
theorem ptrs_length (gs : List Nat) : (ptrs gs).length = gs.length := by simp [ptrs]
theorem add_l {w W w1 : World} {b : Nat} {tag : Tags} {n : NV} {lA tA A1 : Option Addr} {lC tC d1 : Nat} {gs : List Nat} {p : Value} (h : NetAt w b tag n lA lC tA tC gs) (kW : Kept (fun _ => False) w W)
    (r1 : Rd w1 A1 (ptrs gs ++ [p])) (r2 : Sp w1 A1 ((n.ws.length + 1) * 1) (d1 * 1)) (r3 : n.ws.length + 1 ≤ d1) (r4 : A1 = none → d1 = 0)
    (r5 : (A1 = lA ∧ d1 = lC ∧ Kept (fun k => n.ws.length < lC ∧ At lA k) W w1) ∨ (∃ g, A1 = some ⟨g, 0, none⟩ ∧ W.heap.size ≤ g ∧ Grew W w1 g)) :
    ∃ tag1, Own w1 tag1 .arr A1 d1 (ptrs gs ++ [p]) ∧ Kept (fun k => tag k = some .arr) W w1 ∧ (∀ k, k < W.heap.size → tag1 k = tag k) ∧ (∀ k, tag1 k ≠ none → k < w1.heap.size) ∧
      Blk w1 b 57 #[.int .i64 n.now, .slice lA n.ws.length lC, .slice tA n.ws.length tC] ∧ Own w1 tag1 .told tA tC (n.told.map .bool) ∧ Kept (fun _ => False) w W ∧ ∀ A l, Rd W A l → (∀ q, At A q → w.heap.size ≤ q) → Rd w1 A l := by
  have hl : (ptrs gs).length = n.ws.length := by rw [ptrs_length, h.len]
  have ha : Own W tag .arr lA lC (ptrs gs) := h.arr.kept kW (fun _ hh => hh.elim) fun _ _ => rfl
  obtain ⟨tag1, o1, o2, o3, o4⟩ := ha.append (ys := [p]) (fun k hk => Nat.lt_of_lt_of_le (h.lt k hk) kW.size) r1 (by rw [List.length_append, hl]; simpa using r2) (by rw [List.length_append, hl]; exact r3) r4 (by rw [hl]; exact r5)
  refine ⟨tag1, o1, o2, o3, o4, (h.blk.kept kW id).kept o2 (by rw [h.tb]; simp), ?_, kW, fun A l hr hq => hr.kept o2 fun q hA hc => ?_⟩
  · have ht : Own W tag .told tA tC (n.told.map .bool) := h.told.kept kW (fun _ hh => hh.elim) fun _ _ => rfl
    exact ht.kept o2 (fun x hx => by rw [hx]; simp) o3
  · have h1 := h.lt q (by rw [hc]; simp)
    have h2 := hq q hA
    omega
theorem add_t {W2 w2 : World} {tag1 : Tags} {tA A2 : Option Addr} {tC d2 m : Nat} {ts : List Bool} {t : Value} {w1 : World} (hT : Own w1 tag1 .told tA tC (ts.map .bool)) (hm : ts.length = m) (hlt : ∀ k, tag1 k ≠ none → k < w1.heap.size) (kW : Kept (fun _ => False) w1 W2)
    (r1 : Rd w2 A2 (ts.map .bool ++ [t])) (r2 : Sp w2 A2 ((m + 1) * 1) (d2 * 1)) (r3 : m + 1 ≤ d2) (r4 : A2 = none → d2 = 0)
    (r5 : (A2 = tA ∧ d2 = tC ∧ Kept (fun k => m < tC ∧ At tA k) W2 w2) ∨ (∃ g, A2 = some ⟨g, 0, none⟩ ∧ W2.heap.size ≤ g ∧ Grew W2 w2 g)) :
    ∃ tag2, Own w2 tag2 .told A2 d2 (ts.map .bool ++ [t]) ∧ Kept (fun k => tag1 k = some .told) W2 w2 ∧ (∀ k, k < W2.heap.size → tag2 k = tag1 k) ∧ (∀ k, tag2 k ≠ none → k < w2.heap.size) ∧ Kept (fun _ => False) w1 W2 := by
  have ha : Own W2 tag1 .told tA tC (ts.map .bool) := hT.kept kW (fun _ hh => hh.elim) fun _ _ => rfl
  obtain ⟨tag2, o1, o2, o3, o4⟩ := ha.append (ys := [t]) (fun k hk => Nat.lt_of_lt_of_le (hlt k hk) kW.size) r1 (by rw [List.length_append, List.length_map, hm]; simpa using r2) (by rw [List.length_append, List.length_map, hm]; exact r3) r4 (by rw [List.length_map, hm]; exact r5)
  exact ⟨tag2, o1, o2, o3, o4, kW⟩
set_option maxRecDepth 100000 in
set_option maxHeartbeats 32000000 in
theorem add_any (w : World) (b : Nat) (tag : Tags) (n : NV) (lA tA : Option Addr) (lC tC : Nat) (gs : List Nat) (g : Nat) (v : WV) (told : Bool) (h : NetAt w b tag n lA lC tA tC gs)
    (hg : WB w g v none 0 none 0) (hi : v.inn = []) (hgt : v.got = []) (ht : tag g = none) (hf : n.ws.length < 64) (hok : v.ok) :
    Calls Try.prog 20 #[.pointer (some ⟨b, 0, none⟩), .pointer (some ⟨g, 0, none⟩), .bool told] w fun e w' => e = .returned (.int .i64 (n.ws.length + 1)) ∧ AddP w b tag n g v told w' := by
  have hN := h
  obtain ⟨c0, c1, c2, fz⟩ := h.cells
  obtain ⟨i0, hi0, hz0, hz1, hz2⟩ := info_parts infoptr
  obtain ⟨j0, hj0, jz0, jz1, jz2⟩ := info_parts infobool
  have hArr := h.arr
  have hTold := h.told
  have hl1 := h.len
  have hl2 := h.len2
  have hLT := h.lt
  have hbl := h.blk.lt
  go_enter Try.func20, Try.ntmps20
  go_wp2_with fail
  have hspA : Sp w lA (n.ws.length * 1) (lC * 1) := by have := hArr.sp; rw [ptrs_length, hl1] at this; simpa using this
  go_region_law
    (first
      | (refine step_append_rd _ rfl (.tmp 12) (.tmp 14) _ rfl 59 i0 _ 1 8 Try.underlying55 hi0 hz0 hz1 hz2 rfl (by omega) lA n.ws.length lC rfl (ptrs gs) (by simp [ptrs_length, hl1]) (hArr.rd.same (by repeat (first | refine Kept.alloc ?_ _ | refine Kept.drew ?_ | exact Kept.refl _ _))) (by have := hArr.le; rw [ptrs_length] at this; omega) (hspA.kept (S := fun _ => False) (by repeat (first | refine Kept.alloc ?_ _ | refine Kept.drew ?_ | exact Kept.refl _ _)) fun _ _ => id) hArr.nil _ 1 1 rfl [.pointer (some ⟨g, 0, none⟩)] rfl (by first | exact Rd.newAt (by simp) | exact (Rd.newAt (by simp)).alloc _) (by simp [Value.oneCell']) (by simp only [maxLen]; omega) (by omega) ?_; intro A1 d1 w1 r1 r2 r3 r4 r5; obtain ⟨tag1, o1, o2, o3, o4, hB1, hT1, kW, hRd⟩ := add_l hN (by repeat (first | refine Kept.alloc ?_ _ | refine Kept.drew ?_ | exact Kept.refl _ _)) r1 r2 r3 r4 r5; have e1 := hB1.cell 1; have e2 := hB1.cell 2; have f1 := hB1.frozen 1; have f2 := hB1.frozen 2; have hlt1 := hB1.lt)
      | (refine step_append_rd _ rfl (.tmp 19) (.tmp 21) _ rfl 4 j0 _ 1 1 Try.underlying22 hj0 jz0 jz1 jz2 rfl (by omega) tA n.ws.length tC rfl (n.told.map .bool) (by simp [hl2]) (hT1.rd.same (by repeat (first | refine Kept.alloc ?_ _ | refine Kept.drew ?_ | exact Kept.refl _ _))) (by have := hT1.le; rw [List.length_map] at this; omega) (by have h0 := hT1.sp; rw [List.length_map, hl2] at h0; have h1 : Sp w1 tA (n.ws.length * 1) (tC * 1) := (by simpa using h0); exact h1.kept (S := fun _ => False) (by repeat (first | refine Kept.alloc ?_ _ | refine Kept.drew ?_ | exact Kept.refl _ _)) fun _ _ => id) hT1.nil _ 1 1 rfl [.bool told] rfl (by first | exact Rd.newAt (by simp) | exact hRd _ _ (Rd.newAt (by simp)) (by rintro _ ⟨_, hh, rfl⟩; cases hh; simp) | exact hRd _ _ ((Rd.newAt (by simp)).alloc _) (by rintro _ ⟨_, hh, rfl⟩; cases hh; simp)) (by simp [Value.oneCell']) (by simp only [maxLen]; omega) (by omega) ?_; intro A2 d2 w2 s1 s2 s3 s4 s5; obtain ⟨tag2, p1, p2, p3, p4, kW2⟩ := add_t hT1 hl2 o4 (by repeat (first | refine Kept.alloc ?_ _ | refine Kept.drew ?_ | exact Kept.refl _ _)) s1 s2 s3 s4 s5; have hB2 := (hB1.kept kW2 id).kept p2 (by rw [o3 b (Nat.lt_of_lt_of_le hbl kW.size), hN.tb]; simp); have g1 := hB2.cell 1; have g2 := hB2.cell 2; have v1 := hB2.frozen 1; have v2 := hB2.frozen 2; have hlt2 := hB2.lt))
  all_goals
    go_wp2_with fail
    go_ret
    exact ⟨by first | rfl | simp, add_end w _ w1 _ w2 b tag tag1 tag2 n lA tA A1 A2 lC tC d1 d2 gs g v told hN hg hi hgt ht hf hok kW o1 o2 o3 kW2 p1 p2 p3 p4⟩
end Go.Proofs.Ytpdlpiepgeanjaa

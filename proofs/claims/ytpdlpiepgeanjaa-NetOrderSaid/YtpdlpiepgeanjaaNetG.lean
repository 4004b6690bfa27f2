/- Contracts of a new net, its time and length, and of the copy of a connection. No conditions. -/
import Derived.Test.YtpdlpiepgeanjaaNetE
import Derived.Test.YtpdlpiepgeanjaaEager
import Derived.Handy
namespace Go.Proofs.Ytpdlpiepgeanjaa
open Go.RowKit

theorem NetAt.kept {w w' : World} {b : Nat} {tag : Tags} {n : NV} {lA tA : Option Addr} {lC tC : Nat} {gs : List Nat} {S : Nat → Prop} (h : NetAt w b tag n lA lC tA tC gs) (hk : Kept S w w') (hS : ∀ k, S k → tag k = none) : NetAt w' b tag n lA lC tA tC gs :=
  ⟨h.blk.kept hk (fun hs => by have := h.tb; rw [hS b hs] at this; cases this), h.arr.kept hk (fun k hs => by rw [hS k hs]; simp) fun _ _ => rfl, h.told.kept hk (fun k hs => by rw [hS k hs]; simp) fun _ _ => rfl, h.len, h.len2,
    fun i g v hg hv => (h.wire i g v hg hv).kept hk (fun k hs => by rw [hS k hs]; simp) fun _ _ => rfl, h.tb, fun k hk2 => Nat.lt_of_lt_of_le (h.lt k hk2) hk.size, h.few, h.now0, h.now1, h.ok⟩
def tag0 (b : Nat) : Tags := fun k => if k = b then some .net else none
theorem NetAt.new {w : World} {b : Nat} (h : Blk w b 57 #[.int .i64 0, .slice none 0 0, .slice none 0 0]) : NetAt w b (tag0 b) ⟨0, [], []⟩ none 0 none 0 [] := by
  refine ⟨h, Own.none_ _ _ _, Own.none_ _ _ _, rfl, rfl, fun i g v hg => by simp at hg, if_pos rfl, fun k hk => ?_, by simp, Int.le_refl _, by simp, fun v hv => by simp at hv⟩
  unfold tag0 at hk
  by_cases he : k = b
  · rw [he]; exact h.lt
  · rw [if_neg he] at hk; exact absurd rfl hk
set_option maxRecDepth 100000 in
theorem netnew_any (w : World) : Calls Try.prog 8 #[] w fun e w' => e = .returned (.pointer (some ⟨w.heap.size, 0, none⟩)) ∧ Kept (fun _ => False) w w' ∧ Blk w' w.heap.size 57 #[.int .i64 0, .slice none 0 0, .slice none 0 0] := by
  go_enter Try.func8, Try.ntmps8
  go_wp2
  go_ret
  exact ⟨rfl, (Kept.refl _ w).alloc _, Blk.new w _ _⟩
set_option maxRecDepth 100000 in
theorem netlen_any (w : World) (b : Nat) (tag : Tags) (n : NV) (lA tA : Option Addr) (lC tC : Nat) (gs : List Nat) (h : NetAt w b tag n lA lC tA tC gs) :
    Calls Try.prog 12 #[.pointer (some ⟨b, 0, none⟩)] w fun e w' => e = .returned (.int .i64 n.ws.length) ∧ w = w' := by
  obtain ⟨c0, c1, c2, fz⟩ := h.cells
  go_enter Try.func12, Try.ntmps12
  go_wp2
  go_ret
  exact ⟨rfl, rfl⟩

/-- The copy of a connection. -/
def WireP (w : World) (v : WV) (e : Ending) (w' : World) : Prop :=
  ∃ I ic G gc, e = .returned (.tuple #[.agg #[.int .i64 v.st, .string v.name, .slice I v.inn.length ic, .int .i64 v.win, .slice G v.got.length gc, .bool v.ended, .bool v.shut, .bool v.reset], .bool true]) ∧ Rd w' I (bv v.inn) ∧ Rd w' G (bv v.got) ∧ Kept (fun _ => False) w w'
set_option maxRecDepth 100000 in
set_option maxHeartbeats 800000 in
theorem netwire_some (w : World) (b : Nat) (tag : Tags) (n : NV) (lA tA : Option Addr) (lC tC : Nat) (gs : List Nat) (h : NetAt w b tag n lA lC tA tC gs) (i g : Nat) (v : WV) (conn : Int) (hc : conn = i + 1) (hi : i < n.ws.length) (hg : gs[i]? = some g) (hv : n.ws[i]? = some v) (hgl : v.got.length ≤ 70000) :
    Calls Try.prog 14 #[.pointer (some ⟨b, 0, none⟩), .int .i64 conn] w (WireP w v) := by
  subst hc
  obtain ⟨hv1, hv2, hv3⟩ := h.ok v (List.mem_of_getElem? hv)
  obtain ⟨iA, iC, gA, gC, hB, hI, hG, hT⟩ := h.wire i g v hg hv
  obtain ⟨c0, c1, c2, c3, c4, c5, c6, c7, fz⟩ := hB.cells
  have hgw := hB.lt
  have ka := (Kept.refl (fun _ => False) w).alloc (.cells #[.int .i64 0, .string ⟨#[]⟩, .slice none 0 0, .int .i64 0, .slice none 0 0, .bool false, .bool false, .bool false] 41)
  have hwr := wire_some _ b tag n lA tA lC tC gs (h.kept ka fun _ hh => hh.elim) i g _ rfl hi hg
  go_enter Try.func14, Try.ntmps14
  go_wp2_with fail
  refine hwr.mono ?_
  clear hwr
  rintro e w1 ⟨rfl, rfl⟩
  go_wp2_with fail
  refine wp_region_eager [(false, [0, 1, 2, 3, 5, 6, 7, 8]), (true, [4]), (false, [10]), (true, [9]), (false, [11, 12, 13])] (by kernel_rfl) (by kernel_rfl) ?_
  simp only [wpSegs, List.filterMap_cons, List.filterMap_nil, List.getElem?_toArray, List.getElem?_cons_zero, List.getElem?_cons_succ]
  go_wp2_with fail
  refine nrm ⟨(fun hh => by cases hh), ?_⟩
  have kb := (ka.alloc (.cells #[.int .i64 v.st, .string v.name, .slice iA v.inn.length iC, .int .i64 v.win, .slice gA v.got.length gC, .bool v.ended, .bool v.shut, .bool v.reset] 41)).drew
  have hx := Blk.drew (Blk.new' (g := w.heap.size + 1) (w := w.alloc (.cells #[.int .i64 0, .string ⟨#[]⟩, .slice none 0 0, .int .i64 0, .slice none 0 0, .bool false, .bool false, .bool false] 41)) (t := 41) (cs := #[.int .i64 v.st, .string v.name, .slice iA v.inn.length iC, .int .i64 v.win, .slice gA v.got.length gC, .bool v.ended, .bool v.shut, .bool v.reset]) (by simp))
  have hr := Blk.drew (Blk.alloc (Blk.new w 41 #[.int .i64 0, .string ⟨#[]⟩, .slice none 0 0, .int .i64 0, .slice none 0 0, .bool false, .bool false, .bool false]) (.cells #[.int .i64 v.st, .string v.name, .slice iA v.inn.length iC, .int .i64 v.win, .slice gA v.got.length gC, .bool v.ended, .bool v.shut, .bool v.reset] 41))
  go_wp2_with fail
  refine (clone_any _ iA v.inn.length iC v.inn (hI.rd.same kb) rfl (by omega) hI.nil).mono ?_
  rintro e w2 ⟨I, ic, rfl, hic, k2, rI, bI⟩
  go_wp2_with fail
  refine nrm ⟨fun _ => k2, ?_⟩
  go_wp2_with fail
  refine nrm ⟨(fun hh => by cases hh), ?_⟩
  go_wp2_with fail
  refine (clone_any _ gA v.got.length gC v.got (hG.rd.same (kb.trans k2)) rfl hgl hG.nil).mono ?_
  rintro e w3 ⟨G, gc, rfl, hgc, k3, rG, bG⟩
  have hx3 := (hx.kept k2 id).kept k3 id
  have d0 := hx3.cell 0
  have d1 := hx3.cell 1
  have d2 := hx3.cell 2
  have d3 := hx3.cell 3
  have d4 := hx3.cell 4
  have d5 := hx3.cell 5
  have d6 := hx3.cell 6
  have d7 := hx3.cell 7
  have fx := hx3.frozen
  have hr3 := (hr.kept k2 id).kept k3 id
  have z0 := hr3.cell 0
  have z1 := hr3.cell 1
  have z2 := hr3.cell 2
  have z3 := hr3.cell 3
  have z4 := hr3.cell 4
  have z5 := hr3.cell 5
  have z6 := hr3.cell 6
  have z7 := hr3.cell 7
  have fr := hr3.frozen
  have lr3 := hr3.lt
  have lx3 := hx3.lt
  go_wp2_with fail
  refine nrm ⟨fun _ => k3, ?_⟩
  go_wp2_with fail
  refine nrm ⟨(fun hh => by cases hh), ?_⟩
  go_wp2_with fail
  have hr5 := Blk.set_ (Blk.set_ (Blk.set_ (Blk.set_ (Blk.set_ (Blk.set_ (Blk.set_ (Blk.set_ ((hr3.far (p := ⟨w.heap.size + 1, 2, none⟩) (by simp) (.slice I v.inn.length ic)).far (p := ⟨w.heap.size + 1, 4, none⟩) (by simp) (.slice G v.got.length gc)) 0 (.int .i64 v.st)) 1 (.string v.name)) 2 (.slice I v.inn.length ic)) 3 (.int .i64 v.win)) 4 (.slice G v.got.length gc)) 5 (.bool v.ended)) 6 (.bool v.shut)) 7 (.bool v.reset)
  have q0 := hr5.cell 0
  have q1 := hr5.cell 1
  have q2 := hr5.cell 2
  have q3 := hr5.cell 3
  have q4 := hr5.cell 4
  have q5 := hr5.cell 5
  have q6 := hr5.cell 6
  have q7 := hr5.cell 7
  simp at q0 q1 q2 q3 q4 q5 q6 q7
  (try simp only [Exit.inBlock, Exit.then])
  refine bodyPost_ret (v := .tuple #[.agg #[.int .i64 v.st, .string v.name, .slice I v.inn.length ic, .int .i64 v.win, .slice G v.got.length gc, .bool v.ended, .bool v.shut, .bool v.reset], .bool true]) (by simp [results, Try.results14, go_sem, *]) rfl ?_
  have kf := ((((((((((Kept.refl (fun k => k = w.heap.size ∨ k = w.heap.size + 1) w3).setCell (p := ⟨w.heap.size + 1, 2, none⟩) (.inl (.inr rfl)) (.slice I v.inn.length ic)).setCell (p := ⟨w.heap.size + 1, 4, none⟩) (.inl (.inr rfl)) (.slice G v.got.length gc)).setCell (p := ⟨w.heap.size, 0, none⟩) (.inl (.inl rfl)) (.int .i64 v.st)).setCell (p := ⟨w.heap.size, 1, none⟩) (.inl (.inl rfl)) (.string v.name)).setCell (p := ⟨w.heap.size, 2, none⟩) (.inl (.inl rfl)) (.slice I v.inn.length ic)).setCell (p := ⟨w.heap.size, 3, none⟩) (.inl (.inl rfl)) (.int .i64 v.win)).setCell (p := ⟨w.heap.size, 4, none⟩) (.inl (.inl rfl)) (.slice G v.got.length gc)).setCell (p := ⟨w.heap.size, 5, none⟩) (.inl (.inl rfl)) (.bool v.ended)).setCell (p := ⟨w.heap.size, 6, none⟩) (.inl (.inl rfl)) (.bool v.shut)).setCell (p := ⟨w.heap.size, 7, none⟩) (.inl (.inl rfl)) (.bool v.reset)
  have sb := kb.size
  have s2 := k2.size
  simp at bI
  have b2 : w.heap.size + 2 ≤ w2.heap.size := by simpa using s2
  refine ⟨I, ic, G, gc, rfl, (rI.same k3).kept kf (fun q hq hS => ?_), rG.kept kf (fun q hq hS => ?_), ((kb.trans k2).trans k3).over kf fun q hq hS => by omega⟩
  · have := bI q hq
    omega
  · have := bG q hq
    omega
end Go.Proofs.Ytpdlpiepgeanjaa

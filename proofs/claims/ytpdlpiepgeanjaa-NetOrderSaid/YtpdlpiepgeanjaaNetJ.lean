/- The contract of what happens to a net. No conditions. -/
import Derived.Test.YtpdlpiepgeanjaaNetI
namespace Go.Proofs.Ytpdlpiepgeanjaa
open Go.RowKit

set_option maxRecDepth 100000 in
set_option maxHeartbeats 800000 in
theorem nhappen_kind (w : World) (b : Nat) (tag : Tags) (n : NV) (h : NetIs w b tag n) (e : EV) (hk : e.kind < 0 ∨ 7 < e.kind) :
    Calls Try.prog 10 #[.pointer (some ⟨b, 0, none⟩), e.val] w fun x w' => x = .returned (errV 25) ∧ NetTo w b tag n w' := by
  obtain ⟨kind, conn, m, bs, A, c⟩ := e
  simp only at hk
  have ka := (Kept.refl (fun _ => False) w).alloc (.cells #[.int .i64 kind, .int .i64 conn, .int .i64 m, .slice A bs.length c] 34)
  rcases hk with hk | hk
  all_goals
    go_enter Try.func10, Try.ntmps10
    go_wp2_with fail
    go_ret
    exact ⟨rfl, NetTo.still h ka⟩

set_option maxRecDepth 100000 in
set_option maxHeartbeats 800000 in
theorem nhappen_none (w : World) (b : Nat) (tag : Tags) (n : NV) (h : NetIs w b tag n) (e : EV) (hk : 1 ≤ e.kind ∧ e.kind ≤ 6) (hw : n.wire? e.conn = none) :
    Calls Try.prog 10 #[.pointer (some ⟨b, 0, none⟩), e.val] w fun x w' => x = .returned (errV 16) ∧ NetTo w b tag n w' := by
  obtain ⟨kind, conn, m, bs, A, c⟩ := e
  simp only at hk hw
  have hn := h
  obtain ⟨lA, lC, tA, tC, gs, hN⟩ := h
  have ka := (Kept.refl (fun _ => False) w).alloc (.cells #[.int .i64 kind, .int .i64 conn, .int .i64 m, .slice A bs.length c] 34)
  have hwr := wire_none _ b tag n lA tA lC tC gs (hN.kept ka fun _ hh => hh.elim) conn (NV.wire_none hw)
  obtain ⟨k1, k6⟩ := hk
  have k0 : (kind == 0) = false := by simp; omega
  have k7 : (kind == 7) = false := by simp; omega
  go_enter Try.func10, Try.ntmps10
  go_wp2_with fail
  refine hwr.mono ?_
  clear hwr
  rintro x w1 ⟨rfl, rfl⟩
  go_wp2_with fail
  go_ret
  exact ⟨rfl, NetTo.still hn ka⟩

set_option maxRecDepth 100000 in
set_option maxHeartbeats 800000 in
theorem nhappen_wrong (w : World) (b : Nat) (tag : Tags) (n : NV) (h : NetIs w b tag n) (e : EV) (v : WV) (hk : 1 ≤ e.kind ∧ e.kind ≤ 6) (hw : n.wire? e.conn = some v) (hr : e.right = false) :
    Calls Try.prog 10 #[.pointer (some ⟨b, 0, none⟩), e.val] w fun x w' => x = .returned (errV 1) ∧ NetTo w b tag n w' := by
  have hR := fun w => right_any w e
  rw [hr] at hR
  clear hr
  obtain ⟨kind, conn, m, bs, A, c⟩ := e
  simp only at hk hw
  have hn := h
  obtain ⟨lA, lC, tA, tC, gs, hN⟩ := h
  have ka := (Kept.refl (fun _ => False) w).alloc (.cells #[.int .i64 kind, .int .i64 conn, .int .i64 m, .slice A bs.length c] 34)
  obtain ⟨i, hi, hil, hv⟩ := NV.wire_some hw
  obtain ⟨g, hg, -⟩ := hN.get hil
  have hwr := wire_some _ b tag n lA tA lC tC gs (hN.kept ka fun _ hh => hh.elim) i g conn hi hil hg
  obtain ⟨k1, k6⟩ := hk
  have k0 : (kind == 0) = false := by simp; omega
  have k7 : (kind == 7) = false := by simp; omega
  clear hw hi
  go_enter Try.func10, Try.ntmps10
  go_wp2_with fail
  refine hwr.mono ?_
  clear hwr
  rintro x w1 ⟨rfl, rfl⟩
  go_wp2_with fail
  refine (hR _).mono ?_
  clear hR
  rintro x w1 ⟨rfl, k2⟩
  go_wp2_with fail
  go_ret
  exact ⟨rfl, NetTo.still hn (ka.trans k2)⟩

set_option maxRecDepth 100000 in
set_option maxHeartbeats 800000 in
theorem nhappen_wire (w : World) (b : Nat) (tag : Tags) (n : NV) (h : NetIs w b tag n) (e : EV) (v : WV) (hk : 1 ≤ e.kind ∧ e.kind ≤ 6) (hw : n.wire? e.conn = some v) (hr : e.right = true) (he : Rd w e.A (bv e.bs)) :
    Calls Try.prog 10 #[.pointer (some ⟨b, 0, none⟩), e.val] w fun x w' => x = .returned (errV (v.happen e).2) ∧ NetTo w b tag (n.turn e.conn (v.happen e).1) w' := by
  have hR := fun w => right_any w e
  have hr' := hr
  rw [hr] at hR
  clear hr
  obtain ⟨i, hi, hil, hv⟩ := NV.wire_some hw
  have hok : v.ok := by obtain ⟨_, _, _, _, _, hN⟩ := h; exact hN.ok v (List.mem_of_getElem? hv)
  have hok2 := WV.happen_ok hok e hr'
  have hn := h
  obtain ⟨lA, lC, tA, tC, gs, hN⟩ := h
  obtain ⟨g, hg, -⟩ := hN.get hil
  have hh := fun w' (k : Kept (fun _ => False) w w') => happen_any w' tag i g v e ((hN.wire i g v hg hv).kept k (fun _ hh => hh.elim) fun _ _ => rfl) (fun x hx => Nat.lt_of_lt_of_le (hN.lt x hx) k.size) hok (he.same k) hr' hk
  have hto : ∀ w1 w', Kept (fun _ => False) w w1 → Turned w1 tag i g (v.happen e).1 w' → NetTo w b tag (n.turn e.conn (v.happen e).1) w' := by
    intro w1 w' k hT
    have : n.turn e.conn (v.happen e).1 = { n with ws := n.ws.set i (v.happen e).1 } := by unfold NV.turn; rw [hi]; congr 2; omega
    rw [this]
    exact (NetTo.turned (hN.kept k fun _ hh => hh.elim) hT hg hok2).back k
  generalize v.happen e = r at *
  obtain ⟨kind, conn, m, bs, A, c⟩ := e
  simp only at hk hw hi hto
  have ka := (Kept.refl (fun _ => False) w).alloc (.cells #[.int .i64 kind, .int .i64 conn, .int .i64 m, .slice A bs.length c] 34)
  have hwr := wire_some _ b tag n lA tA lC tC gs (hN.kept ka fun _ hh => hh.elim) i g conn hi hil hg
  obtain ⟨k1, k6⟩ := hk
  have k0 : (kind == 0) = false := by simp; omega
  have k7 : (kind == 7) = false := by simp; omega
  clear hw hi
  go_enter Try.func10, Try.ntmps10
  go_wp2_with fail
  refine hwr.mono ?_
  clear hwr
  rintro x w1 ⟨rfl, rfl⟩
  go_wp2_with fail
  refine (hR _).mono ?_
  clear hR
  rintro x w1 ⟨rfl, k2⟩
  have hB : Blk w1 w.heap.size 34 #[.int .i64 kind, .int .i64 conn, .int .i64 m, .slice A bs.length c] := (Blk.new w _ _).kept k2 id
  have d0 := hB.cell 0
  have d1 := hB.cell 1
  have d2 := hB.cell 2
  have d3 := hB.cell 3
  simp at d0 d1 d2 d3
  go_wp2_with fail
  refine (hh _ (ka.trans k2)).mono ?_
  clear hh
  rintro x w2 ⟨rfl, tag', t1, t2⟩
  go_wp2_with fail
  go_ret
  exact ⟨rfl, hto _ _ (ka.trans k2) ⟨tag', t1, t2⟩⟩
end Go.Proofs.Ytpdlpiepgeanjaa

/- The contract of what happens to a net, whole; of accepting. No conditions. -/
import Derived.Test.YtpdlpiepgeanjaaNetJ
namespace Go.Proofs.Ytpdlpiepgeanjaa
open Go.RowKit

/-- wire, whatever the number. -/
theorem wire_any (w : World) (b : Nat) (tag : Tags) (n : NV) (h : NetIs w b tag n) (conn : Int) :
    Calls Try.prog 21 #[.pointer (some ⟨b, 0, none⟩), .int .i64 conn] w fun e w' => (∃ p, e = .returned (.pointer p)) ∧ w = w' := by
  obtain ⟨lA, lC, tA, tC, gs, hN⟩ := h
  by_cases hc : conn < 1 ∨ n.ws.length < conn
  · refine (wire_none w b tag n lA tA lC tC gs hN conn hc).mono ?_
    rintro e w' ⟨rfl, rfl⟩
    exact ⟨⟨_, rfl⟩, rfl⟩
  · obtain ⟨g, hg, -⟩ := hN.get (i := (conn - 1).toNat) (by omega)
    refine (wire_some w b tag n lA tA lC tC gs hN (conn - 1).toNat g conn (by omega) (by omega) hg).mono ?_
    rintro e w' ⟨rfl, rfl⟩
    exact ⟨⟨_, rfl⟩, rfl⟩

set_option maxRecDepth 100000 in
set_option maxHeartbeats 800000 in
theorem nhappen_free_wrong (w : World) (b : Nat) (tag : Tags) (n : NV) (h : NetIs w b tag n) (e : EV) (hk : e.kind = 0 ∨ e.kind = 7) (hr : e.right = false) :
    Calls Try.prog 10 #[.pointer (some ⟨b, 0, none⟩), e.val] w fun x w' => x = .returned (errV 1) ∧ NetTo w b tag n w' := by
  have hR := fun w => right_any w e
  rw [hr] at hR
  clear hr
  obtain ⟨kind, conn, m, bs, A, c⟩ := e
  simp only at hk
  have ka := (Kept.refl (fun _ => False) w).alloc (.cells #[.int .i64 kind, .int .i64 conn, .int .i64 m, .slice A bs.length c] 34)
  have hwr := wire_any _ b tag n (h.kept ka fun _ hh => hh.elim) conn
  rcases hk with rfl | rfl
  all_goals
    go_enter Try.func10, Try.ntmps10
    go_wp2_with fail
    refine hwr.mono ?_
    clear hwr
    rintro x w1 ⟨⟨p, rfl⟩, rfl⟩
    go_wp2_with fail
    all_goals
      refine (hR _).mono ?_
      clear hR
      rintro x w1 ⟨rfl, k2⟩
      go_wp2_with fail
      go_ret
      exact ⟨rfl, NetTo.still h (ka.trans k2)⟩

theorem NetAt.tick {w : World} {b : Nat} {tag : Tags} {n : NV} {lA tA : Option Addr} {lC tC : Nat} {gs : List Nat} (h : NetAt w b tag n lA lC tA tC gs) (t : Int) (h0 : 0 ≤ t) (h1 : t ≤ 1099511627776) :
    NetAt (w.setCell ⟨b, 0, none⟩ (.int .i64 t)) b tag { n with now := t } lA lC tA tC gs := by
  have k := (Kept.refl (· = b) w).set1 (b := b) (i := 0) (.int .i64 t)
  have nb : ∀ (u : Tag), u ≠ .net → ∀ x, x = b → tag x ≠ some u := fun u hne x hx => by subst hx; rw [h.tb]; intro e; cases e; exact hne rfl
  exact ⟨Blk.set_ h.blk 0 _, h.arr.kept k (nb _ (by simp)) fun _ _ => rfl, h.told.kept k (nb _ (by simp)) fun _ _ => rfl, h.len, h.len2,
    fun i g v hg hv => (h.wire i g v hg hv).kept k (fun x hx => by subst hx; rw [h.tb]; simp) fun _ _ => rfl, h.tb, fun x hx => Nat.lt_of_lt_of_le (h.lt x hx) k.size, h.few, h0, h1, h.ok⟩

set_option maxRecDepth 100000 in
set_option maxHeartbeats 1600000 in
theorem nhappen_tick (w : World) (b : Nat) (tag : Tags) (n : NV) (h : NetIs w b tag n) (e : EV) (hk : e.kind = 7) (hr : e.right = true) :
    Calls Try.prog 10 #[.pointer (some ⟨b, 0, none⟩), e.val] w fun x w' => x = .returned (errV 0) ∧ NetTo w b tag { n with now := min (n.now + e.n) 1099511627776 } w' := by
  have hR := fun w => right_any w e
  rw [hr] at hR
  obtain ⟨kind, conn, m, bs, A, c⟩ := e
  simp only at hk
  subst hk
  have hm : 1 ≤ m ∧ m ≤ 1048576 := by simpa [EV.right] using hr
  clear hr
  obtain ⟨hm1, hm2⟩ := hm
  have ka := (Kept.refl (fun _ => False) w).alloc (.cells #[.int .i64 7, .int .i64 conn, .int .i64 m, .slice A bs.length c] 34)
  have hwr := wire_any _ b tag n (h.kept ka fun _ hh => hh.elim) conn
  obtain ⟨lA, lC, tA, tC, gs, hN⟩ := h
  have hn0 := hN.now0
  have hn1 := hN.now1
  go_enter Try.func10, Try.ntmps10
  go_wp2_with fail
  refine hwr.mono ?_
  clear hwr
  rintro x w1 ⟨⟨p, rfl⟩, rfl⟩
  go_wp2_with fail
  all_goals
    refine (hR _).mono ?_
    clear hR
    rintro x w1 ⟨rfl, k2⟩
    have hB : Blk w1 w.heap.size 34 #[.int .i64 7, .int .i64 conn, .int .i64 m, .slice A bs.length c] := (Blk.new w _ _).kept k2 id
    have d0 := hB.cell 0
    have d2 := hB.cell 2
    simp at d0 d2
    have hN1 := hN.kept (ka.trans k2) fun _ hh => hh.elim
    obtain ⟨c0, c1, c2, fz⟩ := hN1.cells
    have hto : ∀ t, 0 ≤ t → t ≤ 1099511627776 → NetTo w b tag { n with now := t } ((w1.setCell ⟨b, 0, none⟩ (.int .i64 t)).drew) := fun t h0 h1 =>
      ⟨tag, NetIs.kept ⟨_, _, _, _, _, hN1.tick t h0 h1⟩ (Kept.refl (fun _ => False) _).drew (fun _ hh => hh.elim), (((ka.trans k2).weak).setCell (.inl (by simp [hN.tb])) _).drew, fun _ _ h => h⟩
    go_wp2_with fail
    go_region
    all_goals
      go_wp2_with fail
      all_goals
        go_ret
        refine ⟨rfl, ?_⟩
        first
          | (rw [show min (n.now + m) 1099511627776 = 1099511627776 by omega]; exact hto _ (by omega) (by omega))
          | (rw [show min (n.now + m) 1099511627776 = n.now + m by omega]; exact hto _ (by omega) (by omega))

set_option maxRecDepth 100000 in
set_option maxHeartbeats 1600000 in
theorem nhappen_full (w : World) (b : Nat) (tag : Tags) (n : NV) (h : NetIs w b tag n) (e : EV) (hk : e.kind = 0) (hr : e.right = true) (hf : n.ws.length = 64) :
    Calls Try.prog 10 #[.pointer (some ⟨b, 0, none⟩), e.val] w fun x w' => x = .returned (errV 17) ∧ NetTo w b tag n w' := by
  have hR := fun w => right_any w e
  rw [hr] at hR
  obtain ⟨kind, conn, m, bs, A, c⟩ := e
  simp only at hk
  subst hk
  clear hr
  have ka := (Kept.refl (fun _ => False) w).alloc (.cells #[.int .i64 0, .int .i64 conn, .int .i64 m, .slice A bs.length c] 34)
  have hwr := wire_any _ b tag n (h.kept ka fun _ hh => hh.elim) conn
  have hn := h
  obtain ⟨lA, lC, tA, tC, gs, hN⟩ := h
  have hf' : ((n.ws.length : Int) == 64) = true := by rw [hf]; rfl
  have HF := Lib.hid hf
  clear hf
  go_enter Try.func10, Try.ntmps10
  go_wp2_with fail
  refine hwr.mono ?_
  clear hwr
  rintro x w1 ⟨⟨p, rfl⟩, rfl⟩
  go_wp2_with fail
  all_goals
    refine (hR _).mono ?_
    clear hR
    rintro x w1 ⟨rfl, k2⟩
    have hB : Blk w1 w.heap.size 34 #[.int .i64 0, .int .i64 conn, .int .i64 m, .slice A bs.length c] := (Blk.new w _ _).kept k2 id
    have d0 := hB.cell 0
    simp at d0
    have hN1 := hN.kept (ka.trans k2) fun _ hh => hh.elim
    obtain ⟨c0, c1, c2, fz⟩ := hN1.cells
    go_wp2_with fail
    go_ret
    exact ⟨rfl, NetTo.still hn (ka.trans k2)⟩

set_option maxRecDepth 100000 in
set_option maxHeartbeats 1600000 in
theorem nhappen_add (w : World) (b : Nat) (tag : Tags) (n : NV) (h : NetIs w b tag n) (e : EV) (hk : e.kind = 0) (hr : e.right = true) (hf : n.ws.length ≠ 64) :
    Calls Try.prog 10 #[.pointer (some ⟨b, 0, none⟩), e.val] w fun x w' => x = .returned (errV 0) ∧ NetTo w b tag { n with ws := n.ws ++ [⟨1, ByteArray.mk #[], [], e.n, [], false, false, false⟩], told := n.told ++ [false] } w' := by
  have hR := fun w => right_any w e
  rw [hr] at hR
  obtain ⟨kind, conn, m, bs, A, c⟩ := e
  simp only at hk
  subst hk
  have hm : 0 ≤ m ∧ m ≤ 65536 := by simpa [EV.right, winB] using hr
  clear hr
  obtain ⟨hm1, hm2⟩ := hm
  have ka := (Kept.refl (fun _ => False) w).alloc (.cells #[.int .i64 0, .int .i64 conn, .int .i64 m, .slice A bs.length c] 34)
  have hwr := wire_any _ b tag n (h.kept ka fun _ hh => hh.elim) conn
  obtain ⟨lA, lC, tA, tC, gs, hN⟩ := h
  have hfew := hN.few
  have hf' : ((n.ws.length : Int) == 64) = false := by simp; omega
  go_enter Try.func10, Try.ntmps10
  go_wp2_with fail
  refine hwr.mono ?_
  clear hwr
  rintro x w1 ⟨⟨p, rfl⟩, rfl⟩
  go_wp2_with fail
  all_goals
    refine (hR _).mono ?_
    clear hR
    rintro x w1 ⟨rfl, k2⟩
    have hB : Blk w1 w.heap.size 34 #[.int .i64 0, .int .i64 conn, .int .i64 m, .slice A bs.length c] := (Blk.new w _ _).kept k2 id
    have d0 := hB.cell 0
    have d2 := hB.cell 2
    simp at d0 d2
    have hN1 := hN.kept (ka.trans k2) fun _ hh => hh.elim
    obtain ⟨c0, c1, c2, fz⟩ := hN1.cells
    have kb := (Kept.refl (fun _ => False) w1).alloc (.cells #[.int .i64 1, .string ⟨#[]⟩, .slice none 0 0, .int .i64 m, .slice none 0 0, .bool false, .bool false, .bool false] 41)
    have htg : tag w1.heap.size = none := by
      cases ht : tag w1.heap.size with
      | none => rfl
      | some t => exact absurd (hN1.lt _ (by rw [ht]; simp)) (Nat.lt_irrefl _)
    have hadd := add_any _ b tag n lA tA lC tC gs w1.heap.size ⟨1, ByteArray.mk #[], [], m, [], false, false, false⟩ false (hN1.kept kb fun _ hh => hh.elim) (Blk.new w1 41 #[.int .i64 1, .string ⟨#[]⟩, .slice none 0 0, .int .i64 m, .slice none 0 0, .bool false, .bool false, .bool false]) rfl rfl htg (by omega) ⟨hm1, by simp; omega, by simp⟩
    have hS := (ka.trans k2).size
    go_wp2_with fail
    refine hadd.mono ?_
    clear hadd
    rintro x w2 ⟨rfl, hA⟩
    go_wp2_with fail
    go_ret
    exact ⟨rfl, NetTo.added (hA.back ((ka.trans k2).trans kb)) (by have := (ka.trans k2).size; omega)⟩

theorem nhappen_any (w : World) (b : Nat) (tag : Tags) (n : NV) (h : NetIs w b tag n) (e : EV) (he : Rd w e.A (bv e.bs)) :
    Calls Try.prog 10 #[.pointer (some ⟨b, 0, none⟩), e.val] w fun x w' => x = .returned (errV (n.happen e).2) ∧ NetTo w b tag (n.happen e).1 w' := by
  unfold NV.happen
  by_cases h1 : e.kind < 0 ∨ 7 < e.kind
  · rw [if_pos h1]; exact nhappen_kind w b tag n h e h1
  · rw [if_neg h1]
    by_cases h2 : e.kind = 0 ∨ e.kind = 7
    · rw [if_pos h2]
      by_cases h3 : e.right = false
      · rw [if_pos h3]; exact nhappen_free_wrong w b tag n h e h2 h3
      · rw [if_neg h3]
        have h3' : e.right = true := by simpa using h3
        by_cases h4 : e.kind = 7
        · rw [if_pos h4]; exact nhappen_tick w b tag n h e h4 h3'
        · rw [if_neg h4]
          by_cases h5 : n.ws.length = 64
          · rw [if_pos h5]; exact nhappen_full w b tag n h e (by omega) h3' h5
          · rw [if_neg h5]; exact nhappen_add w b tag n h e (by omega) h3' h5
    · rw [if_neg h2]
      cases hw : n.wire? e.conn with
      | none => exact nhappen_none w b tag n h e (by omega) hw
      | some v =>
        by_cases h3 : e.right = false
        · simp only; rw [if_pos h3]; exact nhappen_wrong w b tag n h e v (by omega) hw h3
        · simp only; rw [if_neg h3]; exact nhappen_wire w b tag n h e v (by omega) hw (by simpa using h3) he
end Go.Proofs.Ytpdlpiepgeanjaa

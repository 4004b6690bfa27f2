/- The contract of writing to a connection. No conditions. -/
import Derived.Test.YtpdlpiepgeanjaaNetD
namespace Go.Proofs.Ytpdlpiepgeanjaa
open Go.RowKit

/-- How many of the bytes go. -/
def WV.room (v : WV) (m : Nat) : Nat := min m v.win.toNat
def WV.writeW (v : WV) (bs : List UInt8) : WV := { v with got := v.got ++ bs.take (v.room bs.length), win := v.win - v.room bs.length }
def writeC (v : WV) : Int := if stateC v ≠ 0 then stateC v else if v.shut = true then 18 else 0
set_option maxRecDepth 100000 in
set_option maxHeartbeats 800000 in
theorem write_none (w : World) (b : Nat) (tag : Tags) (n : NV) (lA tA : Option Addr) (lC tC : Nat) (gs : List Nat) (h : NetAt w b tag n lA lC tA tC gs) (conn : Int) (B : Option Addr) (m d : Nat) (hc : conn < 1 ∨ n.ws.length < conn) :
    Calls Try.prog 13 #[.pointer (some ⟨b, 0, none⟩), .int .i64 conn, .slice B m d] w fun e w' => e = .returned (.tuple #[.int .i64 0, errV 16]) ∧ w = w' := by
  go_enter Try.func13, Try.ntmps13
  go_wp2_with fail
  refine (state_none _ b tag n lA tA lC tC gs h conn hc).mono ?_
  rintro e w1 ⟨rfl, rfl⟩
  unfold errV
  go_wp2
  go_ret2
  exact ⟨rfl, rfl⟩
set_option maxRecDepth 100000 in
set_option maxHeartbeats 800000 in
theorem write_not (w : World) (b : Nat) (tag : Tags) (n : NV) (lA tA : Option Addr) (lC tC : Nat) (gs : List Nat) (h : NetAt w b tag n lA lC tA tC gs) (i g : Nat) (v : WV) (conn : Int) (B : Option Addr) (m d : Nat) (hc : conn = i + 1) (hi : i < n.ws.length) (hg : gs[i]? = some g) (hv : n.ws[i]? = some v) (hs : writeC v ≠ 0) :
    Calls Try.prog 13 #[.pointer (some ⟨b, 0, none⟩), .int .i64 conn, .slice B m d] w fun e w' => e = .returned (.tuple #[.int .i64 0, errV (writeC v)]) ∧ w = w' := by
  subst hc
  have hst := state_some w b tag n lA tA lC tC gs h i g v _ rfl hi hg hv
  obtain ⟨iA, iC, gA, gC, hB, hI, hG, hT⟩ := h.wire i g v hg hv
  obtain ⟨c0, c1, c2, c3, c4, c5, c6, c7, fz⟩ := hB.cells
  have h3 : (stateC v = 19 ∧ writeC v = 19) ∨ (stateC v = 21 ∧ writeC v = 21) ∨ (stateC v = 0 ∧ v.shut = true ∧ writeC v = 18) := by
    unfold writeC at hs ⊢
    have h4 : stateC v = 0 ∨ stateC v = 19 ∨ stateC v = 21 := by unfold stateC; split; simp; split <;> simp
    rcases h4 with h4 | h4 | h4 <;> rw [h4] at hs ⊢ <;> simp_all
  go_enter Try.func13, Try.ntmps13
  go_wp2_with fail
  refine hst.mono ?_
  clear hst
  rintro e w1 ⟨rfl, rfl⟩
  rcases h3 with ⟨h3, h4⟩ | ⟨h3, h4⟩ | ⟨h3, hsh, h4⟩
  · rw [h3]
    unfold errV
    go_wp2_with fail
    go_ret2
    exact ⟨by rw [h4]; rfl, rfl⟩
  · rw [h3]
    unfold errV
    go_wp2_with fail
    go_ret2
    exact ⟨by rw [h4]; rfl, rfl⟩
  · rw [h3]
    unfold errV
    rw [hsh] at c6
    go_wp2_with fail
    go_ret2
    exact ⟨by rw [h4]; rfl, rfl⟩
set_option maxRecDepth 100000 in
set_option maxHeartbeats 800000 in
theorem write_some (w : World) (b : Nat) (tag : Tags) (n : NV) (lA tA : Option Addr) (lC tC : Nat) (gs : List Nat) (h : NetAt w b tag n lA lC tA tC gs) (i g : Nat) (v : WV) (conn : Int) (B : Option Addr) (bs : List UInt8) (d : Nat) (hc : conn = i + 1) (hi : i < n.ws.length) (hg : gs[i]? = some g) (hv : n.ws[i]? = some v) (hs : writeC v = 0)
    (hy : Rd w B (bv bs)) (hd : bs.length ≤ d) (hb : bs.length ≤ 1048576) (hgot : v.got.length ≤ 1073741824) :
    Calls Try.prog 13 #[.pointer (some ⟨b, 0, none⟩), .int .i64 conn, .slice B bs.length d] w fun e w' => e = .returned (.tuple #[.int .i64 (v.room bs.length), .nilIface]) ∧ Turned w tag i g (v.writeW bs) w' := by
  subst hc
  have hst := state_some w b tag n lA tA lC tC gs h i g v _ rfl hi hg hv
  obtain ⟨hv1, hv2, hv3⟩ := h.ok v (List.mem_of_getElem? hv)
  obtain ⟨iA, iC, gA, gC, hB, hI, hG, hT⟩ := h.wire i g v hg hv
  obtain ⟨c0, c1, c2, c3, c4, c5, c6, c7, fz⟩ := hB.cells
  have hLT := h.lt
  have hle := hG.le
  rw [bv_length] at hle
  obtain ⟨i0, hi0, hz0, hz1, hz2⟩ := info_parts infou8
  have h3 : stateC v = 0 ∧ v.shut = false := by
    unfold writeC at hs
    by_cases h4 : stateC v = 0
    · simp [h4] at hs; exact ⟨h4, hs⟩
    · simp [h4] at hs
  obtain ⟨h3, hsh⟩ := h3
  rw [hsh] at c6
  rw [h3] at hst
  go_enter Try.func13, Try.ntmps13
  go_wp2_with fail
  refine hst.mono ?_
  clear hst
  rintro e w1 ⟨rfl, rfl⟩
  unfold errV
  go_wp2_with fail
  · have hk : v.room bs.length = v.win.toNat := by unfold WV.room; omega
    have hkl : v.win.toNat ≤ bs.length := by omega
    have ka := (Kept.refl (fun _ => False) w).drew
    have hG2 : Own _ tag (.got i) gA gC (bv v.got) := hG.kept ka (fun _ hh => hh.elim) fun _ _ => rfl
    have hy2 : Rd w.drew B (bv (bs.take (v.win.toNat))) := by rw [bv_take]; exact (hy.take _).same ka
    refine wp_region_text (by kernel_rfl) (by kernel_rfl) ?_
    go_wp2_with (at_builtin; refine wpList_append_rd _ rfl (.tmp 36) (.tmp 39) _ rfl 5 i0 _ 1 1 Try.underlying32 hi0 hz0 hz1 hz2 rfl (by omega) gA v.got.length gC rfl (bv v.got) (by simp [bv_length]) hG2.rd (by simpa [bv_length] using hG2.le) (by simpa [bv_length] using hG2.sp) hG2.nil B (v.win.toNat) d rfl (bv (bs.take (v.win.toNat))) (by simp [bv_length]; try omega) hy2 (bv_one _) (by simp only [maxLen]; omega) (by omega) ?_; intro A' c' w1 r1 r2 r3 r4 r5; obtain ⟨tag', o1, o2, o3, o4⟩ := hG2.append hLT r1 (by rw [List.length_append, bv_length, bv_length, List.length_take, Nat.min_eq_left hkl]; simpa using r2) (by rw [List.length_append, bv_length, bv_length, List.length_take, Nat.min_eq_left hkl]; simpa using r3) r4 (by simpa [bv_length] using r5); have hB2 : WB w1 g v iA iC gA gC := (hB.kept ka id).kept o2 (by rw [hT]; simp); have d3 := hB2.cells.2.2.2.1; have d4 := hB2.cells.2.2.2.2.1; have f3 := Blk.frozen hB2 3; have f4 := Blk.frozen hB2 4; have hg1 := hB2.lt)
    refine nrm ?_
    go_wp2_with fail
    go_ret2
    have hap : v.writeW bs = { v with got := v.got ++ bs.take (v.win.toNat), win := v.win - (v.win.toNat : Nat) } := by unfold WV.writeW; rw [hk]
    have e1 : (v.got ++ bs.take (v.win.toNat)).length = v.got.length + (v.win.toNat) := by simp; try omega
    have hTg : tag' g = some (.wire i) := (o3 g hB.lt).trans hT
    have kk : Kept (· = g) w1 _ := ((Kept.refl (· = g) w1).set1 (i := 4) (.slice A' (v.got.length + (v.win.toNat)) c')).set1 (i := 3) (.int .i64 0)
    have hI3 : Own w1 tag' (.inn i) iA iC (bv v.inn) := (hI.kept (tag' := tag) ka (fun _ hh => hh.elim) fun _ _ => rfl).kept o2 (fun x hx => by rw [hx]; simp) o3
    rw [hap]
    refine ⟨by rw [hk]; rw [Int.toNat_of_nonneg hv1]; rfl, tag', ⟨((ka.weak.trans (o2.mono fun _ _ hh => .inr (.inr hh))).setCell (.inl (.inl hT)) _).setCell (.inl (.inl hT)) _, fun k hk => o3 k (Nat.lt_of_lt_of_le hk ka.size), fun k hk => by simpa [World.setCell] using o4 k hk⟩, iA, iC, A', c', ?_, ?_, ?_, hTg⟩
    · unfold WB
      simp only [e1]
      rw [Int.toNat_of_nonneg hv1, Int.sub_self]
      exact Blk.set_ (Blk.set_ hB2 4 _) 3 _
    · exact hI3.kept kk (fun x hx => by subst hx; rw [hTg]; simp) fun _ _ => rfl
    · rw [bv_append]
      exact o1.kept kk (fun x hx => by subst hx; rw [hTg]; simp) fun _ _ => rfl
  · have hk : v.room bs.length = bs.length := by unfold WV.room; omega
    have hkl : bs.length ≤ bs.length := by omega
    have ka := (Kept.refl (fun _ => False) w).drew
    have hG2 : Own _ tag (.got i) gA gC (bv v.got) := hG.kept ka (fun _ hh => hh.elim) fun _ _ => rfl
    have hy2 : Rd w.drew B (bv (bs.take (bs.length))) := by rw [bv_take]; exact (hy.take _).same ka
    refine wp_region_text (by kernel_rfl) (by kernel_rfl) ?_
    go_wp2_with (at_builtin; refine wpList_append_rd _ rfl (.tmp 36) (.tmp 39) _ rfl 5 i0 _ 1 1 Try.underlying32 hi0 hz0 hz1 hz2 rfl (by omega) gA v.got.length gC rfl (bv v.got) (by simp [bv_length]) hG2.rd (by simpa [bv_length] using hG2.le) (by simpa [bv_length] using hG2.sp) hG2.nil B (bs.length) d rfl (bv (bs.take (bs.length))) (by simp [bv_length]; try omega) hy2 (bv_one _) (by simp only [maxLen]; omega) (by omega) ?_; intro A' c' w1 r1 r2 r3 r4 r5; obtain ⟨tag', o1, o2, o3, o4⟩ := hG2.append hLT r1 (by rw [List.length_append, bv_length, bv_length, List.length_take, Nat.min_eq_left hkl]; simpa using r2) (by rw [List.length_append, bv_length, bv_length, List.length_take, Nat.min_eq_left hkl]; simpa using r3) r4 (by simpa [bv_length] using r5); have hB2 : WB w1 g v iA iC gA gC := (hB.kept ka id).kept o2 (by rw [hT]; simp); have d3 := hB2.cells.2.2.2.1; have d4 := hB2.cells.2.2.2.2.1; have f3 := Blk.frozen hB2 3; have f4 := Blk.frozen hB2 4; have hg1 := hB2.lt)
    refine nrm ?_
    go_wp2_with fail
    go_ret2
    have hap : v.writeW bs = { v with got := v.got ++ bs.take (bs.length), win := v.win - (bs.length : Nat) } := by unfold WV.writeW; rw [hk]
    have e1 : (v.got ++ bs.take (bs.length)).length = v.got.length + (bs.length) := by simp; try omega
    have hTg : tag' g = some (.wire i) := (o3 g hB.lt).trans hT
    have kk : Kept (· = g) w1 _ := ((Kept.refl (· = g) w1).set1 (i := 4) (.slice A' (v.got.length + (bs.length)) c')).set1 (i := 3) (.int .i64 (v.win - bs.length))
    have hI3 : Own w1 tag' (.inn i) iA iC (bv v.inn) := (hI.kept (tag' := tag) ka (fun _ hh => hh.elim) fun _ _ => rfl).kept o2 (fun x hx => by rw [hx]; simp) o3
    rw [hap]
    refine ⟨by rw [hk]; rfl, tag', ⟨((ka.weak.trans (o2.mono fun _ _ hh => .inr (.inr hh))).setCell (.inl (.inl hT)) _).setCell (.inl (.inl hT)) _, fun k hk => o3 k (Nat.lt_of_lt_of_le hk ka.size), fun k hk => by simpa [World.setCell] using o4 k hk⟩, iA, iC, A', c', ?_, ?_, ?_, hTg⟩
    · unfold WB
      simp only [e1]
      exact Blk.set_ (Blk.set_ hB2 4 _) 3 _
    · exact hI3.kept kk (fun x hx => by subst hx; rw [hTg]; simp) fun _ _ => rfl
    · rw [bv_append]
      exact o1.kept kk (fun x hx => by subst hx; rw [hTg]; simp) fun _ _ => rfl
end Go.Proofs.Ytpdlpiepgeanjaa

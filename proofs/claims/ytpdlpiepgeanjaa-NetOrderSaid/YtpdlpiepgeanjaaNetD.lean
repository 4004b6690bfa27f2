/- Contracts of shutting and of resetting a connection. No conditions. -/
import Derived.Test.YtpdlpiepgeanjaaNetC
namespace Go.Proofs.Ytpdlpiepgeanjaa
open Go.RowKit

/-- What a method that turns connection i leaves. -/
def Turned (w : World) (tag : Tags) (i g : Nat) (v' : WV) (w' : World) : Prop := ∃ tag', StepW tag tag' i w w' ∧ WireAt w' tag' i g v'

def WV.shutW (v : WV) : WV × Int := if stateC v ≠ 0 then (v, stateC v) else if v.shut = true then (v, 18) else (({ v with shut := true } : WV).settle, 0)
set_option maxRecDepth 100000 in
set_option maxHeartbeats 800000 in
theorem shut_none (w : World) (b : Nat) (tag : Tags) (n : NV) (lA tA : Option Addr) (lC tC : Nat) (gs : List Nat) (h : NetAt w b tag n lA lC tA tC gs) (conn : Int) (hc : conn < 1 ∨ n.ws.length < conn) :
    Calls Try.prog 17 #[.pointer (some ⟨b, 0, none⟩), .int .i64 conn] w fun e w' => e = .returned (errV 16) ∧ w = w' := by
  go_enter Try.func17, Try.ntmps17
  go_wp2_with fail
  refine (state_none _ b tag n lA tA lC tC gs h conn hc).mono ?_
  rintro e w1 ⟨rfl, rfl⟩
  unfold errV
  go_wp2
  go_ret
  exact ⟨rfl, rfl⟩
set_option maxRecDepth 100000 in
set_option maxHeartbeats 800000 in
theorem shut_some (w : World) (b : Nat) (tag : Tags) (n : NV) (lA tA : Option Addr) (lC tC : Nat) (gs : List Nat) (h : NetAt w b tag n lA lC tA tC gs) (i g : Nat) (v : WV) (conn : Int) (hc : conn = i + 1) (hi : i < n.ws.length) (hg : gs[i]? = some g) (hv : n.ws[i]? = some v) :
    Calls Try.prog 17 #[.pointer (some ⟨b, 0, none⟩), .int .i64 conn] w fun e w' => e = .returned (errV v.shutW.2) ∧ Turned w tag i g v.shutW.1 w' := by
  subst hc
  have hW := h.wire i g v hg hv
  obtain ⟨iA, iC, gA, gC, hB, hI, hG, hT⟩ := h.wire i g v hg hv
  obtain ⟨c0, c1, c2, c3, c4, c5, c6, c7, fz⟩ := hB.cells
  have hst := state_some w b tag n lA tA lC tC gs h i g v _ rfl hi hg hv
  have h3 : stateC v = 0 ∨ stateC v = 19 ∨ stateC v = 21 := by unfold stateC; split; simp; split <;> simp
  have still : Turned w tag i g v w := ⟨tag, StepW.still h.lt (Kept.refl _ _), hW⟩
  go_enter Try.func17, Try.ntmps17
  go_wp2_with fail
  refine hst.mono ?_
  clear hst
  rintro e w1 ⟨rfl, rfl⟩
  rcases h3 with h3 | h3 | h3
  · rw [h3]
    unfold errV
    cases hsh : v.shut
    · rw [hsh] at c6
      go_wp2_with fail
      refine (settle_any _ g { v with shut := true } iA gA iC gC (Blk.set_ hB 6 _)).mono ?_
      rintro _ w1 ⟨rfl, k1, hB1⟩
      go_wp2_with fail
      go_ret
      have hap : v.shutW = (({ v with shut := true } : WV).settle, 0) := by unfold WV.shutW; simp [*]
      rw [hap]
      have kk : Kept (· = g) w w1 := ((Kept.refl _ w).set1 _).trans k1
      refine ⟨rfl, tag, StepW.one (i := i) h.lt kk hT, iA, iC, gA, gC, hB1, ?_, ?_, hT⟩
      · have e : (({ v with shut := true } : WV).settle).inn = v.inn := by unfold WV.settle; split <;> rfl
        rw [e]
        exact hI.kept kk (fun x hx => by subst hx; rw [hT]; simp) fun _ _ => rfl
      · have e : (({ v with shut := true } : WV).settle).got = v.got := by unfold WV.settle; split <;> rfl
        rw [e]
        exact hG.kept kk (fun x hx => by subst hx; rw [hT]; simp) fun _ _ => rfl
    · rw [hsh] at c6
      go_wp2_with fail
      go_ret
      have hap : v.shutW = (v, 18) := by unfold WV.shutW; simp [*]
      rw [hap]
      exact ⟨rfl, still⟩
  all_goals
    have hap : v.shutW = (v, stateC v) := by unfold WV.shutW; simp [h3]
    rw [h3]
    unfold errV
    go_wp2_with fail
    go_ret
    rw [hap, h3]
    exact ⟨rfl, still⟩

def WV.dropW (v : WV) : WV × Int := if v.st = 2 then (v, 21) else (v.cut, 0)
set_option maxRecDepth 100000 in
set_option maxHeartbeats 800000 in
theorem drop_none (w : World) (b : Nat) (tag : Tags) (n : NV) (lA tA : Option Addr) (lC tC : Nat) (gs : List Nat) (h : NetAt w b tag n lA lC tA tC gs) (conn : Int) (hc : conn < 1 ∨ n.ws.length < conn) :
    Calls Try.prog 18 #[.pointer (some ⟨b, 0, none⟩), .int .i64 conn] w fun e w' => e = .returned (errV 16) ∧ w = w' := by
  go_enter Try.func18, Try.ntmps18
  go_wp2_with fail
  refine (wire_none _ b tag n lA tA lC tC gs h conn hc).mono ?_
  rintro e w1 ⟨rfl, rfl⟩
  go_wp2
  go_ret
  exact ⟨rfl, rfl⟩
set_option maxRecDepth 100000 in
set_option maxHeartbeats 800000 in
theorem drop_some (w : World) (b : Nat) (tag : Tags) (n : NV) (lA tA : Option Addr) (lC tC : Nat) (gs : List Nat) (h : NetAt w b tag n lA lC tA tC gs) (i g : Nat) (v : WV) (conn : Int) (hc : conn = i + 1) (hi : i < n.ws.length) (hg : gs[i]? = some g) (hv : n.ws[i]? = some v) :
    Calls Try.prog 18 #[.pointer (some ⟨b, 0, none⟩), .int .i64 conn] w fun e w' => e = .returned (errV v.dropW.2) ∧ Turned w tag i g v.dropW.1 w' := by
  subst hc
  have hW := h.wire i g v hg hv
  obtain ⟨iA, iC, gA, gC, hB, hI, hG, hT⟩ := h.wire i g v hg hv
  obtain ⟨c0, c1, c2, c3, c4, c5, c6, c7, fz⟩ := hB.cells
  have still : Turned w tag i g v w := ⟨tag, StepW.still h.lt (Kept.refl _ _), hW⟩
  have hwr := wire_some w b tag n lA tA lC tC gs h i g _ rfl hi hg
  go_enter Try.func18, Try.ntmps18
  go_wp2_with fail
  refine hwr.mono ?_
  clear hwr
  rintro e w1 ⟨rfl, rfl⟩
  by_cases h2 : v.st = 2
  · rw [h2] at c0
    go_wp2_with fail
    go_ret
    have hap : v.dropW = (v, 21) := by unfold WV.dropW; simp [*]
    rw [hap]
    exact ⟨rfl, still⟩
  · have h2' : (v.st == 2) = false := by simpa using h2
    go_wp2_with fail
    refine (cut_any _ g v iA gA iC gC hB).mono ?_
    rintro _ w1 ⟨rfl, k1, hB1⟩
    go_wp2_with fail
    go_ret
    have hap : v.dropW = (v.cut, 0) := by unfold WV.dropW; simp [*]
    rw [hap]
    exact ⟨rfl, tag, StepW.one (i := i) h.lt k1 hT, none, 0, gA, gC, hB1, Own.none_ _ _ _, hG.kept k1 (fun x hx => by subst hx; rw [hT]; simp) fun _ _ => rfl, hT⟩

theorem bv_ne {l : List UInt8} (h : ¬ l = []) : bv l ≠ [] := by simpa [bv] using h
def WV.readW (v : WV) (most : Int) : WV := ({ v with inn := v.inn.drop (takeN most v.inn.length) } : WV).settle
set_option maxRecDepth 100000 in
set_option maxHeartbeats 800000 in
theorem read_none (w : World) (b : Nat) (tag : Tags) (n : NV) (lA tA : Option Addr) (lC tC : Nat) (gs : List Nat) (h : NetAt w b tag n lA lC tA tC gs) (conn most : Int) (hc : conn < 1 ∨ n.ws.length < conn) :
    Calls Try.prog 16 #[.pointer (some ⟨b, 0, none⟩), .int .i64 conn, .int .i64 most] w fun e w' => e = .returned (.tuple #[.slice none 0 0, .bool false, errV 16]) ∧ w = w' := by
  go_enter Try.func16, Try.ntmps16
  go_wp2_with fail
  refine (state_none _ b tag n lA tA lC tC gs h conn hc).mono ?_
  rintro e w1 ⟨rfl, rfl⟩
  unfold errV
  go_wp2
  go_ret3
  exact ⟨rfl, rfl⟩
set_option maxRecDepth 100000 in
set_option maxHeartbeats 800000 in
theorem read_not (w : World) (b : Nat) (tag : Tags) (n : NV) (lA tA : Option Addr) (lC tC : Nat) (gs : List Nat) (h : NetAt w b tag n lA lC tA tC gs) (i g : Nat) (v : WV) (conn most : Int) (hc : conn = i + 1) (hi : i < n.ws.length) (hg : gs[i]? = some g) (hv : n.ws[i]? = some v) (hs : stateC v ≠ 0) :
    Calls Try.prog 16 #[.pointer (some ⟨b, 0, none⟩), .int .i64 conn, .int .i64 most] w fun e w' => e = .returned (.tuple #[.slice none 0 0, .bool false, errV (stateC v)]) ∧ w = w' := by
  subst hc
  have hst := state_some w b tag n lA tA lC tC gs h i g v _ rfl hi hg hv
  have h3 : stateC v = 19 ∨ stateC v = 21 := by unfold stateC at hs ⊢; split <;> simp_all
  go_enter Try.func16, Try.ntmps16
  go_wp2_with fail
  refine hst.mono ?_
  clear hst
  rintro e w1 ⟨rfl, rfl⟩
  rcases h3 with h3 | h3
  all_goals
    rw [h3]
    unfold errV
    go_wp2_with fail
    go_ret3
    exact ⟨by rw [h3]; rfl, rfl⟩
/-- What Read leaves. -/
def ReadP (w : World) (tag : Tags) (i g : Nat) (v : WV) (most : Int) (e : Ending) (w' : World) : Prop :=
  ∃ A' c', e = .returned (.tuple #[.slice A' (takeN most v.inn.length) c', .bool (v.ended && decide (v.inn.length ≤ takeN most v.inn.length)), .nilIface]) ∧ Rd w' A' (bv (v.inn.take (takeN most v.inn.length))) ∧
    (StepW tag tag i w w' ∧ WireAt w' tag i g (v.readW most)) ∧ ∀ q, At A' q → w.heap.size ≤ q ∧ q < w'.heap.size ∨ v.inn.take (takeN most v.inn.length) = []
set_option maxRecDepth 100000 in
set_option maxHeartbeats 800000 in
theorem read_some (w : World) (b : Nat) (tag : Tags) (n : NV) (lA tA : Option Addr) (lC tC : Nat) (gs : List Nat) (h : NetAt w b tag n lA lC tA tC gs) (i g : Nat) (v : WV) (conn most : Int) (hc : conn = i + 1) (hi : i < n.ws.length) (hg : gs[i]? = some g) (hv : n.ws[i]? = some v) (hs : stateC v = 0) :
    Calls Try.prog 16 #[.pointer (some ⟨b, 0, none⟩), .int .i64 conn, .int .i64 most] w (ReadP w tag i g v most) := by
  subst hc
  have hst := state_some w b tag n lA tA lC tC gs h i g v _ rfl hi hg hv
  obtain ⟨hv1, hv2, hv3⟩ := h.ok v (List.mem_of_getElem? hv)
  obtain ⟨iA, iC, gA, gC, hB, hI, hG, hT⟩ := h.wire i g v hg hv
  obtain ⟨c0, c1, c2, c3, c4, c5, c6, c7, fz⟩ := hB.cells
  have hLT := h.lt
  have hle := hI.le
  rw [bv_length] at hle
  rw [hs] at hst
  go_enter Try.func16, Try.ntmps16
  go_wp2_with fail
  refine hst.mono ?_
  clear hst
  rintro e w1 ⟨rfl, rfl⟩
  unfold errV
  go_wp2_with fail
  · have hk : takeN most v.inn.length = v.inn.length := by unfold takeN; omega
    have hkl : v.inn.length ≤ v.inn.length := by omega
    have o1 : iC = v.inn.length → Own w tag (.inn i) iA 0 (bv (v.inn.drop (v.inn.length))) := fun e => by have o := hI.drop (v.inn.length) (by rw [bv_length]; exact hkl); rw [if_pos e, ← bv_drop, e, Nat.sub_self] at o; exact o
    have o2 : ¬ iC = v.inn.length → Own w tag (.inn i) (iA.map (·.add (v.inn.length))) (iC - (v.inn.length)) (bv (v.inn.drop (v.inn.length))) := fun e => by have o := hI.drop (v.inn.length) (by rw [bv_length]; exact hkl); rw [if_neg e, ← bv_drop] at o; exact o
    have hgl := hB.lt
    have hrw : v.readW most = ({ v with inn := v.inn.drop (v.inn.length) } : WV).settle := by unfold WV.readW; rw [hk]
    have hdec : decide (v.inn.length ≤ v.inn.length) = true := by simp
    refine (clone_any _ iA (v.inn.length) iC (v.inn.take (v.inn.length)) (by rw [bv_take]; exact hI.rd.take _) (by simp; try omega) (by omega) hI.nil).mono ?_
    rintro e w1 ⟨A', c', rfl, hc', k1, r1, hA1⟩
    have hB1 := hB.kept k1 id
    obtain ⟨d0, d1, d2, d3, d4, d5, d6, d7, dz⟩ := hB1.cells
    cases hen : v.ended
    all_goals
      rw [hen] at d5
      go_wp2_with fail
    all_goals
      refine (settle_any _ g { v with inn := v.inn.drop (v.inn.length) } _ gA _ gC (by unfold WB; simp only [List.length_drop, Nat.sub_self]; exact Blk.set_ hB1 2 _)).mono ?_
      rintro _ w2 ⟨rfl, k2, hB2⟩
      go_wp2_with fail
      go_ret3
      unfold ReadP
      rw [hrw, hk]
      have kk : Kept (· = g) w w2 := (k1.weak.trans ((Kept.refl _ w1).set1 _)).trans k2
      have hne : ∀ x, x = g → tag x ≠ some (.inn i) := fun x hx => by subst hx; rw [hT]; simp
      have hap1 : (({ v with inn := v.inn.drop (v.inn.length) } : WV).settle).inn = v.inn.drop (v.inn.length) := by unfold WV.settle; split <;> rfl
      have hap2 : (({ v with inn := v.inn.drop (v.inn.length) } : WV).settle).got = v.got := by unfold WV.settle; split <;> rfl
      refine ⟨A', c', ?_, ?_, ⟨StepW.one (i := i) hLT kk hT, _, _, gA, gC, hB2, ?_, ?_, hT⟩, ?_⟩
      · rw [hen]; first | rfl | (rw [hdec]; rfl)
      · exact r1.kept (((Kept.refl (· = g) w1).set1 _).trans k2) (fun q hq e => by have := hA1 q hq; omega)
      · rw [hap1]; first | exact (o1 (by assumption)).kept kk hne fun _ _ => rfl | exact (o2 (by assumption)).kept kk hne fun _ _ => rfl
      · rw [hap2]; exact hG.kept kk (fun x hx => by subst hx; rw [hT]; simp) fun _ _ => rfl
      · intro q hq
        by_cases hx : v.inn.take (v.inn.length) = []
        · exact .inr hx
        · obtain ⟨g', off, he, hl⟩ := r1.lt (bv_ne hx)
          refine .inl ⟨hA1 q hq, ?_⟩
          obtain ⟨ad, he2, rfl⟩ := hq
          rw [he] at he2
          cases he2
          exact Nat.lt_of_lt_of_le hl (((Kept.refl (· = g) w1).set1 _).trans k2).size
  · have hk : takeN most v.inn.length = 0 := by unfold takeN; omega
    have hkl : 0 ≤ v.inn.length := by omega
    have o0 : Own w tag (.inn i) iA iC (bv (v.inn.drop 0)) := by simpa using hI
    have hgl := hB.lt
    have hrw : v.readW most = ({ v with inn := v.inn.drop (0) } : WV).settle := by unfold WV.readW; rw [hk]
    have hdec : decide (v.inn.length ≤ 0) = ((v.inn.length : Int) == 0) := by rw [Bool.eq_iff_iff]; simp
    refine (clone_any _ iA (0) iC (v.inn.take (0)) (by rw [bv_take]; exact hI.rd.take _) (by simp; try omega) (by omega) hI.nil).mono ?_
    rintro e w1 ⟨A', c', rfl, hc', k1, r1, hA1⟩
    have hB1 := hB.kept k1 id
    obtain ⟨d0, d1, d2, d3, d4, d5, d6, d7, dz⟩ := hB1.cells
    cases hen : v.ended
    all_goals
      rw [hen] at d5
      go_wp2_with fail
    all_goals
      refine (settle_any _ g { v with inn := v.inn.drop (0) } _ gA _ gC (by unfold WB; simp only [List.length_drop, Nat.sub_zero]; exact Blk.set_ hB1 2 _)).mono ?_
      rintro _ w2 ⟨rfl, k2, hB2⟩
      go_wp2_with fail
      go_ret3
      unfold ReadP
      rw [hrw, hk]
      have kk : Kept (· = g) w w2 := (k1.weak.trans ((Kept.refl _ w1).set1 _)).trans k2
      have hne : ∀ x, x = g → tag x ≠ some (.inn i) := fun x hx => by subst hx; rw [hT]; simp
      have hap1 : (({ v with inn := v.inn.drop (0) } : WV).settle).inn = v.inn.drop (0) := by unfold WV.settle; split <;> rfl
      have hap2 : (({ v with inn := v.inn.drop (0) } : WV).settle).got = v.got := by unfold WV.settle; split <;> rfl
      refine ⟨A', c', ?_, ?_, ⟨StepW.one (i := i) hLT kk hT, _, _, gA, gC, hB2, ?_, ?_, hT⟩, ?_⟩
      · rw [hen]; first | rfl | (rw [hdec]; rfl)
      · exact r1.kept (((Kept.refl (· = g) w1).set1 _).trans k2) (fun q hq e => by have := hA1 q hq; omega)
      · rw [hap1]; exact o0.kept kk hne fun _ _ => rfl
      · rw [hap2]; exact hG.kept kk (fun x hx => by subst hx; rw [hT]; simp) fun _ _ => rfl
      · intro q hq
        by_cases hx : v.inn.take (0) = []
        · exact .inr hx
        · obtain ⟨g', off, he, hl⟩ := r1.lt (bv_ne hx)
          refine .inl ⟨hA1 q hq, ?_⟩
          obtain ⟨ad, he2, rfl⟩ := hq
          rw [he] at he2
          cases he2
          exact Nat.lt_of_lt_of_le hl (((Kept.refl (· = g) w1).set1 _).trans k2).size
  · have hk : takeN most v.inn.length = most.toNat := by unfold takeN; omega
    have hkl : most.toNat ≤ v.inn.length := by omega
    have o1 : iC = most.toNat → Own w tag (.inn i) iA 0 (bv (v.inn.drop (most.toNat))) := fun e => by have o := hI.drop (most.toNat) (by rw [bv_length]; exact hkl); rw [if_pos e, ← bv_drop, e, Nat.sub_self] at o; exact o
    have o2 : ¬ iC = most.toNat → Own w tag (.inn i) (iA.map (·.add (most.toNat))) (iC - (most.toNat)) (bv (v.inn.drop (most.toNat))) := fun e => by have o := hI.drop (most.toNat) (by rw [bv_length]; exact hkl); rw [if_neg e, ← bv_drop] at o; exact o
    have hgl := hB.lt
    have hrw : v.readW most = ({ v with inn := v.inn.drop (most.toNat) } : WV).settle := by unfold WV.readW; rw [hk]
    have hdec : decide (v.inn.length ≤ most.toNat) = (((v.inn.length - most.toNat : Nat) : Int) == 0) := by rw [Bool.eq_iff_iff]; simp; omega
    refine (clone_any _ iA (most.toNat) iC (v.inn.take (most.toNat)) (by rw [bv_take]; exact hI.rd.take _) (by simp; try omega) (by omega) hI.nil).mono ?_
    rintro e w1 ⟨A', c', rfl, hc', k1, r1, hA1⟩
    have hB1 := hB.kept k1 id
    obtain ⟨d0, d1, d2, d3, d4, d5, d6, d7, dz⟩ := hB1.cells
    cases hen : v.ended
    all_goals
      rw [hen] at d5
      go_wp2_with fail
    all_goals
      refine (settle_any _ g { v with inn := v.inn.drop (most.toNat) } _ gA _ gC (by unfold WB; simp only [List.length_drop]; exact Blk.set_ hB1 2 _)).mono ?_
      rintro _ w2 ⟨rfl, k2, hB2⟩
      go_wp2_with fail
      go_ret3
      unfold ReadP
      rw [hrw, hk]
      have kk : Kept (· = g) w w2 := (k1.weak.trans ((Kept.refl _ w1).set1 _)).trans k2
      have hne : ∀ x, x = g → tag x ≠ some (.inn i) := fun x hx => by subst hx; rw [hT]; simp
      have hap1 : (({ v with inn := v.inn.drop (most.toNat) } : WV).settle).inn = v.inn.drop (most.toNat) := by unfold WV.settle; split <;> rfl
      have hap2 : (({ v with inn := v.inn.drop (most.toNat) } : WV).settle).got = v.got := by unfold WV.settle; split <;> rfl
      refine ⟨A', c', ?_, ?_, ⟨StepW.one (i := i) hLT kk hT, _, _, gA, gC, hB2, ?_, ?_, hT⟩, ?_⟩
      · rw [hen]; first | rfl | (rw [hdec]; rfl)
      · exact r1.kept (((Kept.refl (· = g) w1).set1 _).trans k2) (fun q hq e => by have := hA1 q hq; omega)
      · rw [hap1]; first | exact (o1 (by assumption)).kept kk hne fun _ _ => rfl | exact (o2 (by assumption)).kept kk hne fun _ _ => rfl
      · rw [hap2]; exact hG.kept kk (fun x hx => by subst hx; rw [hT]; simp) fun _ _ => rfl
      · intro q hq
        by_cases hx : v.inn.take (most.toNat) = []
        · exact .inr hx
        · obtain ⟨g', off, he, hl⟩ := r1.lt (bv_ne hx)
          refine .inl ⟨hA1 q hq, ?_⟩
          obtain ⟨ad, he2, rfl⟩ := hq
          rw [he] at he2
          cases he2
          exact Nat.lt_of_lt_of_le hl (((Kept.refl (· = g) w1).set1 _).trans k2).size
end Go.Proofs.Ytpdlpiepgeanjaa

/- What the net's law holds of each connection, in plain words. No conditions. -/
import Derived.Test.YtpdlpiepgeanjaaNetL
import Derived.Test.YtpdlpiepgeanjaaNetO
namespace Go.Proofs.Ytpdlpiepgeanjaa
open Go.RowKit

/-- What was sent to it, read of it and written to it. -/
structure WI (v : WV) (s r wr : List UInt8) : Prop where
  got : v.got = wr
  pre : r <+: s
  inn : v.reset = false → r ++ v.inn = s
  gone : v.reset = true → v.st = 2
theorem WI.settle {v : WV} {s r wr : List UInt8} (h : WI v s r wr) : WI v.settle s r wr := by
  unfold WV.settle
  split
  · exact ⟨h.got, h.pre, h.inn, fun _ => rfl⟩
  · exact h
theorem WI.cut {v : WV} {s r wr : List UInt8} (h : WI v s r wr) : WI v.cut s r wr := ⟨h.got, h.pre, (fun e => by simp [WV.cut] at e), fun _ => rfl⟩
theorem WI.shutW {v : WV} {s r wr : List UInt8} (h : WI v s r wr) : WI v.shutW.1 s r wr := by
  suffices key : ∀ p : WV × Int, v.shutW = p → WI p.1 s r wr from key _ rfl
  intro p hp
  unfold WV.shutW at hp
  repeat' (split at hp)
  all_goals first
    | (subst hp; exact h)
    | (subst hp; exact WI.settle ⟨h.got, h.pre, h.inn, h.gone⟩)
theorem WI.dropW {v : WV} {s r wr : List UInt8} (h : WI v s r wr) : WI v.dropW.1 s r wr := by
  suffices key : ∀ p : WV × Int, v.dropW = p → WI p.1 s r wr from key _ rfl
  intro p hp
  unfold WV.dropW at hp
  split at hp
  · subst hp; exact h
  · subst hp; exact h.cut
theorem WI.readW {v : WV} {s r wr : List UInt8} (h : WI v s r wr) (most : Int) (hs : stateC v = 0) : WI (v.readW most) s (r ++ v.inn.take (takeN most v.inn.length)) wr := by
  have hst : v.st ≠ 2 := by
    intro e
    unfold stateC at hs
    rw [e] at hs
    simp at hs
  have hr : v.reset = false := by
    cases hx : v.reset with
    | false => rfl
    | true => exact absurd (h.gone hx) hst
  have hi := h.inn hr
  refine WI.settle ⟨h.got, ?_, fun _ => ?_, fun e => ?_⟩
  · rw [← hi]
    exact (List.prefix_append_right_inj _).2 (List.take_prefix _ _)
  · rw [List.append_assoc, List.take_append_drop]; exact hi
  · simp only at e; rw [hr] at e; cases e
theorem WI.writeW {v : WV} {s r wr : List UInt8} (h : WI v s r wr) (bs : List UInt8) : WI (v.writeW bs) s r (wr ++ bs.take (v.room bs.length)) :=
  ⟨by simp [WV.writeW, h.got], h.pre, h.inn, h.gone⟩
/-- Of a happening: what is sent is more by the bytes, just where data came. -/
theorem WI.happen {v : WV} {s r wr : List UInt8} (h : WI v s r wr) (e : EV) : WI (v.happen e).1 (if (v.happen e).2 = 0 ∧ e.kind = 1 then s ++ e.bs else s) r wr := by
  suffices key : ∀ p : WV × Int, v.happen e = p → WI p.1 (if p.2 = 0 ∧ e.kind = 1 then s ++ e.bs else s) r wr from key _ rfl
  intro p hp
  unfold WV.happen at hp
  by_cases hc : v.st ≠ (if e.kind = 5 ∨ e.kind = 6 then (0 : Int) else 1) ∨ v.ended = true ∧ (e.kind = 1 ∨ e.kind = 2)
  · rw [if_pos hc] at hp
    subst hp
    rw [if_neg (by simp)]
    exact h
  · rw [if_neg hc] at hp
    have hst : v.st = if e.kind = 5 ∨ e.kind = 6 then (0 : Int) else 1 := by
      by_cases hx : v.st = if e.kind = 5 ∨ e.kind = 6 then (0 : Int) else 1
      · exact hx
      · exact absurd (.inl hx) hc
    have hr : v.reset = false := by
      cases hx : v.reset with
      | false => rfl
      | true => have := h.gone hx; rw [this] at hst; split at hst <;> omega
    split at hp
    · rename_i hk
      subst hp
      rw [if_neg (by simp; omega)]
      exact ⟨h.got, h.pre, h.inn, fun e => by simp only at e; rw [hr] at e; cases e⟩
    · split at hp
      · rename_i hk
        subst hp
        rw [if_neg (by simp; omega)]
        exact h.cut
      · split at hp
        · rename_i hk
          subst hp
          rw [if_neg (by simp; omega)]
          exact ⟨h.got, h.pre, h.inn, h.gone⟩
        · split at hp
          · rename_i hk
            subst hp
            rw [if_neg (by simp; omega)]
            exact WI.settle ⟨h.got, h.pre, h.inn, h.gone⟩
          · split at hp
            · rename_i hk
              split at hp
              · subst hp
                rw [if_neg (by simp)]
                exact h
              · subst hp
                rw [if_pos ⟨rfl, hk⟩]
                exact ⟨h.got, h.pre.trans (List.prefix_append _ _), fun _ => by rw [← List.append_assoc, h.inn hr], h.gone⟩
            · rename_i hk
              subst hp
              rw [if_neg (by simp; exact hk)]
              exact h

/-- What was sent to, read of and written to each connection; no list is longer than b. -/
structure NOrd (n : NV) (S R W : List (List UInt8)) (b : Nat) : Prop where
  ls : S.length = 100
  lr : R.length = 100
  lw : W.length = 100
  ok : ∀ i v, n.ws[i]? = some v → WI v (S.getD (i + 1) []) (R.getD (i + 1) []) (W.getD (i + 1) [])
  no : ∀ c, n.ws.length < c → S.getD c [] = [] ∧ R.getD c [] = [] ∧ W.getD c [] = []
  bnd : ∀ c, (S.getD c []).length ≤ b ∧ (W.getD c []).length ≤ b
theorem getD_set (S : List (List UInt8)) (c : Nat) (x : List UInt8) (hc : c < S.length) (i : Nat) : (S.set c x).getD i [] = if i = c then x else S.getD i [] := by
  simp only [List.getD_eq_getElem?_getD, List.getElem?_set]
  by_cases h : c = i
  · subst h; simp [hc]
  · rw [if_neg h, if_neg (Ne.symm h)]
theorem set_same (S : List (List UInt8)) (c : Nat) : S.set c (S.getD c []) = S := by
  apply List.ext_getElem?
  intro i
  simp only [List.getElem?_set, List.getD_eq_getElem?_getD]
  by_cases h : c = i
  · subst h
    by_cases hc : c < S.length
    · rw [if_pos rfl, if_pos hc, List.getElem?_eq_getElem hc]; rfl
    · rw [if_pos rfl, if_neg hc, List.getElem?_eq_none (by omega)]
  · rw [if_neg h]
theorem NOrd.turn {n : NV} {S R W : List (List UInt8)} {b b' : Nat} (h : NOrd n S R W b) (hf : n.ws.length ≤ 64) {conn : Int} {v v' : WV} (hw : n.wire? conn = some v) {s r wr : List UInt8} (hi : WI v' s r wr) (hb : b ≤ b') (h1 : s.length ≤ b') (h2 : wr.length ≤ b') :
    NOrd (n.turn conn v') (S.set conn.toNat s) (R.set conn.toNat r) (W.set conn.toNat wr) b' := by
  obtain ⟨i, rfl, hil, hv⟩ := NV.wire_some hw
  have hc : (((i : Nat) : Int) + 1).toNat = i + 1 := by omega
  rw [hc]
  have hS := fun j => getD_set S (i + 1) s (by rw [h.ls]; omega) j
  have hR := fun j => getD_set R (i + 1) r (by rw [h.lr]; omega) j
  have hW := fun j => getD_set W (i + 1) wr (by rw [h.lw]; omega) j
  have ht : n.turn ((i : Int) + 1) v' = { n with ws := n.ws.set i v' } := by unfold NV.turn; congr 2; omega
  rw [ht]
  refine ⟨by simp [h.ls], by simp [h.lr], by simp [h.lw], fun j u hu => ?_, fun c hcn => ?_, fun c => ?_⟩
  · rw [hS, hR, hW]
    simp only [List.getElem?_set] at hu
    by_cases hij : i = j
    · subst hij
      rw [if_pos rfl, if_pos hil] at hu
      cases hu
      simp only [if_true]
      exact hi
    · rw [if_neg hij] at hu
      rw [if_neg (by omega), if_neg (by omega), if_neg (by omega)]
      exact h.ok j u hu
  · simp only [List.length_set] at hcn
    rw [hS, hR, hW, if_neg (by omega), if_neg (by omega), if_neg (by omega)]
    exact h.no c hcn
  · rw [hS, hW]
    have := h.bnd c
    split
    · exact ⟨h1, h2⟩
    · omega
theorem NOrd.more {n : NV} {S R W : List (List UInt8)} {b b' : Nat} (h : NOrd n S R W b) (hb : b ≤ b') : NOrd n S R W b' := ⟨h.ls, h.lr, h.lw, h.ok, h.no, fun c => by have := h.bnd c; omega⟩
theorem NOrd.at_ {n : NV} {S R W : List (List UInt8)} {b : Nat} (h : NOrd n S R W b) {conn : Int} {v : WV} (hw : n.wire? conn = some v) : WI v (S.getD conn.toNat []) (R.getD conn.toNat []) (W.getD conn.toNat []) := by
  obtain ⟨i, rfl, hil, hv⟩ := NV.wire_some hw
  rw [show (((i : Nat) : Int) + 1).toNat = i + 1 by omega]
  exact h.ok i v hv
theorem NOrd.shut {n : NV} {S R W : List (List UInt8)} {b : Nat} (h : NOrd n S R W b) (hf : n.ws.length ≤ 64) (conn : Int) : NOrd (n.shut conn).1 S R W b := by
  unfold NV.shut
  cases hw : n.wire? conn with
  | none => exact h
  | some v =>
    have := h.turn hf hw (h.at_ hw).shutW (Nat.le_refl _) (h.bnd _).1 (h.bnd _).2
    rwa [set_same, set_same, set_same] at this
theorem NOrd.drop {n : NV} {S R W : List (List UInt8)} {b : Nat} (h : NOrd n S R W b) (hf : n.ws.length ≤ 64) (conn : Int) : NOrd (n.drop conn).1 S R W b := by
  unfold NV.drop
  cases hw : n.wire? conn with
  | none => exact h
  | some v =>
    have := h.turn hf hw (h.at_ hw).dropW (Nat.le_refl _) (h.bnd _).1 (h.bnd _).2
    rwa [set_same, set_same, set_same] at this
theorem NOrd.read {n : NV} {S R W : List (List UInt8)} {b : Nat} (h : NOrd n S R W b) (hf : n.ws.length ≤ 64) (conn most : Int) :
    NOrd (n.read conn most) S (if (n.readB conn most).2.2 = 0 then R.set conn.toNat (R.getD conn.toNat [] ++ (n.readB conn most).1) else R) W b := by
  unfold NV.read NV.readB
  cases hw : n.wire? conn with
  | none => simpa using h
  | some v =>
    by_cases hs : stateC v = 0
    · simp only [if_pos hs, if_true]
      have := h.turn hf hw ((h.at_ hw).readW most hs) (Nat.le_refl _) (h.bnd _).1 (h.bnd _).2
      rwa [set_same, set_same] at this
    · simp only [if_neg hs]
      exact h
theorem NOrd.write {n : NV} {S R W : List (List UInt8)} {b : Nat} (h : NOrd n S R W b) (hf : n.ws.length ≤ 64) (conn : Int) (bs : List UInt8) (hb : bs.length ≤ 100) :
    NOrd (n.write conn bs) S R (if n.writeC conn = 0 then W.set conn.toNat (W.getD conn.toNat [] ++ bs.take (n.writeK conn bs.length)) else W) (b + 100) := by
  unfold NV.write NV.writeC NV.writeK
  cases hw : n.wire? conn with
  | none => simpa using h.more (by omega)
  | some v =>
    by_cases hs : Proofs.Ytpdlpiepgeanjaa.writeC v = 0
    · simp only [if_pos hs, if_true]
      have hbd := h.bnd conn.toNat
      have := h.turn (b' := b + 100) hf hw ((h.at_ hw).writeW bs) (by omega) (by omega) (by rw [List.length_append, List.length_take]; omega)
      rwa [set_same, set_same] at this
    · simp only [if_neg hs]
      exact h.more (by omega)
theorem NOrd.happen {n : NV} {S R W : List (List UInt8)} {b : Nat} (h : NOrd n S R W b) (hf : n.ws.length ≤ 64) (e : EV) (hb : e.bs.length ≤ 100 ∨ 4096 < e.bs.length) :
    NOrd (n.happen e).1 (if (n.happen e).2 = 0 ∧ e.kind = 1 then S.set e.conn.toNat (S.getD e.conn.toNat [] ++ e.bs) else S) R W (b + 100) := by
  unfold NV.happen
  by_cases h1 : e.kind < 0 ∨ 7 < e.kind
  · rw [if_pos h1]; simp only; rw [if_neg (by simp)]; exact h.more (by omega)
  · rw [if_neg h1]
    by_cases h2 : e.kind = 0 ∨ e.kind = 7
    · rw [if_pos h2]
      by_cases h3 : e.right = false
      · rw [if_pos h3]; simp only; rw [if_neg (by simp)]; exact h.more (by omega)
      · rw [if_neg h3]
        by_cases h4 : e.kind = 7
        · rw [if_pos h4]; simp only; rw [if_neg (by omega)]
          exact ⟨h.ls, h.lr, h.lw, h.ok, h.no, fun c => by have := h.bnd c; omega⟩
        · rw [if_neg h4]
          by_cases h5 : n.ws.length = 64
          · rw [if_pos h5]; simp only; rw [if_neg (by simp)]; exact h.more (by omega)
          · rw [if_neg h5]; simp only; rw [if_neg (by omega)]
            refine ⟨h.ls, h.lr, h.lw, fun i v hv => ?_, fun c hc => h.no c (by simp at hc; omega), fun c => by have := h.bnd c; omega⟩
            rcases Nat.lt_trichotomy i n.ws.length with hlt | rfl | hgt
            · rw [List.getElem?_append_left hlt] at hv; exact h.ok i v hv
            · rw [List.getElem?_append_right (Nat.le_refl _), Nat.sub_self] at hv
              cases hv
              obtain ⟨e1, e2, e3⟩ := h.no (n.ws.length + 1) (by omega)
              rw [e1, e2, e3]
              exact ⟨rfl, List.prefix_refl _, fun _ => rfl, fun e => by cases e⟩
            · rw [List.getElem?_eq_none (by simp; omega)] at hv; cases hv
    · rw [if_neg h2]
      cases hw : n.wire? e.conn with
      | none => simp only; rw [if_neg (by simp)]; exact h.more (by omega)
      | some v =>
        by_cases h3 : e.right = false
        · simp only [if_pos h3]; rw [if_neg (by simp)]; exact h.more (by omega)
        · simp only [if_neg h3]
          have hbd := h.bnd e.conn.toNat
          have hwi := (h.at_ hw).happen e
          by_cases hd : (v.happen e).2 = 0 ∧ e.kind = 1
          · rw [if_pos hd] at hwi ⊢
            have hr : e.bs.length ≤ 4096 := by
              have h3' : e.right = true := by simpa using h3
              unfold EV.right at h3'
              rw [if_neg (by omega), if_pos hd.2] at h3'
              simpa using h3'
            have := h.turn (b' := b + 100) hf hw hwi (by omega) (by rw [List.length_append]; omega) (by omega)
            rwa [set_same, set_same] at this
          · rw [if_neg hd] at hwi ⊢
            have := h.turn (b' := b + 100) hf hw hwi (by omega) (by omega) (by omega)
            rwa [set_same, set_same, set_same] at this
theorem NOrd.new : NOrd ⟨0, [], []⟩ (List.replicate 100 []) (List.replicate 100 []) (List.replicate 100 []) 0 := by
  have hr : ∀ c, (List.replicate 100 ([] : List UInt8)).getD c [] = [] := by
    intro c
    simp only [List.getD_eq_getElem?_getD, List.getElem?_replicate]
    split <;> rfl
  exact ⟨by simp, by simp, by simp, fun i v hv => by simp at hv, fun c _ => by simp only [hr]; exact ⟨trivial, trivial, trivial⟩, fun c => by simp only [hr]; exact ⟨Nat.le_refl _, Nat.le_refl _⟩⟩
end Go.Proofs.Ytpdlpiepgeanjaa

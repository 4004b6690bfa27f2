/- What NetOrder's walk holds: the net, and three rows of strings. No conditions. -/
import Derived.Test.YtpdlpiepgeanjaaNetP
import Derived.Test.YtpdlpiepgeanjaaNetW
namespace Go.Proofs.Ytpdlpiepgeanjaa
open Go.RowKit

def strs (S : List (List UInt8)) : Array Value := (S.map fun l => Value.string ⟨l.toArray⟩).toArray
def noStrs : Array Value := strs (List.replicate 100 [])
theorem Blk.str {w : World} {g : Nat} {t : TypeId} {S : List (List UInt8)} (h : Blk w g t (strs S)) {c : Nat} (hc : c < S.length) : w.cell? ⟨g, c, none⟩ = some (.string ⟨(S.getD c []).toArray⟩) := by
  rw [h.cell c]
  simp [strs, List.getD_eq_getElem?_getD, hc]
theorem Blk.setStr {w : World} {g : Nat} {t : TypeId} {S : List (List UInt8)} (h : Blk w g t (strs S)) (c : Nat) (x : List UInt8) : Blk (w.setCell ⟨g, c, none⟩ (.string ⟨x.toArray⟩)) g t (strs (S.set c x)) := by
  have := h.set_ c (.string ⟨x.toArray⟩)
  have e : (strs S).setIfInBounds c (.string ⟨x.toArray⟩) = strs (S.set c x) := by
    apply Array.ext'
    simp [strs, List.map_set]
  rwa [e] at this
theorem infostr : (Try.prog.info? 9).map (fun i => (i.zero, i.size, i.bytes)) = some (some (.string ⟨#[]⟩), 1, 16) := by kernel_rfl
theorem make_strs (w : World) : (Instr.makeSlice 47 (.int .i64 100) (.int .i64 100)).run Try.prog w = .ok (.slice (some ⟨w.heap.size, 0, none⟩) 100 100) (w.alloc (.cells noStrs 9)) := by
  obtain ⟨i, hi, hz, hs, hb⟩ := info_parts infostr
  have hr := run_make (P := Try.prog) w 47 9 i _ Try.underlying47 hi hz .i64 .i64 100 100 (by omega) (by omega) (by rw [hb]; omega) (by omega)
  simp only [hs, Nat.mul_one] at hr
  have e : madeCells (Value.cells (.string ⟨#[]⟩)) 100 = noStrs := by
    show madeCells #[.string ⟨#[]⟩] 100 = _
    rw [madeCells_one]
    apply Array.ext'
    simp [noStrs, strs, List.map_replicate]
  rw [← e]
  exact hr

/-- A string's bytes, laid anew. -/
theorem strBytes {P : Program} (w : World) (src dst e : TypeId) (l : List UInt8) (hs : P.underlying src = some .string) (hd : P.underlying dst = some (.slice e)) (he : P.underlying e = some (.int .u8)) :
    ∃ c W, (convert src dst (.string ⟨l.toArray⟩)).run P w = .ok (.slice (some ⟨w.heap.size, 0, none⟩) l.length c) W ∧ Kept (fun _ => False) w W ∧ Rd W (some ⟨w.heap.size, 0, none⟩) (bv l) ∧ l.length ≤ c ∧ w.heap.size < W.heap.size := by
  refine ⟨_, _, run_bytes_of_string w src dst e _ hs hd he, ((Kept.refl _ w).drew).alloc _, ?_, ?_, by simp⟩
  · intro _
    refine ⟨_, 0, rfl, fun j u hu => ?_⟩
    have hj : j < l.length := by rw [← bv_length l]; exact (List.getElem?_eq_some_iff.1 hu).1
    rw [bv_get l j hj] at hu
    cases hu
    have h1 := bytesRow_at (⟨l.toArray⟩ : ByteArray) (grownCap w (⟨l.toArray⟩ : ByteArray).size 0 e) j (by simpa using hj)
    rw [Nat.zero_add]
    have h2 := World.cell?_alloc_mark w.drew (bytesRow ⟨l.toArray⟩ (grownCap w (⟨l.toArray⟩ : ByteArray).size 0 e)) e ((bytesRow ⟨l.toArray⟩ (grownCap w (⟨l.toArray⟩ : ByteArray).size 0 e)).size, (bytesRow ⟨l.toArray⟩ (grownCap w (⟨l.toArray⟩ : ByteArray).size 0 e)).size + 1) j
    have h3 : w.drew.heap.size = w.heap.size := rfl
    rw [h3] at h2
    rw [h2, h1]
    simp
  · exact grownCap_ge w (⟨l.toArray⟩ : ByteArray).size 0 e
theorem takeStr (l : List UInt8) (k : Nat) : (⟨l.toArray⟩ : ByteArray).extract 0 k = ⟨(l.take k).toArray⟩ := by
  apply ByteArray.ext
  simp [ByteArray.data_extract]

/-- The law's net and its three rows of strings, in memory. -/
structure OrdS (w W : World) (b q0 q1 q2 : Nat) (tag : Tags) (n : NV) (S R Wr : List (List UInt8)) : Prop where
  net : NetIs W b tag n
  kept : Kept (fun _ => False) w W
  tn : ∀ k, k < w.heap.size → tag k = none
  lo0 : w.heap.size ≤ q0
  lo1 : w.heap.size ≤ q1
  lo2 : w.heap.size ≤ q2
  n01 : q0 ≠ q1
  n02 : q0 ≠ q2
  n12 : q1 ≠ q2
  t0 : tag q0 = none
  t1 : tag q1 = none
  t2 : tag q2 = none
  bs : Blk W q0 9 (strs S)
  br : Blk W q1 9 (strs R)
  bw : Blk W q2 9 (strs Wr)
section
variable {w W W1 W2 : World} {b q0 q1 q2 : Nat} {tag : Tags} {n n' : NV} {S R Wr : List (List UInt8)}
theorem OrdS.still (h : OrdS w W b q0 q1 q2 tag n S R Wr) (k : Kept (fun _ => False) W W1) : OrdS w W1 b q0 q1 q2 tag n S R Wr :=
  ⟨h.net.kept k fun _ hh => hh.elim, h.kept.trans k, h.tn, h.lo0, h.lo1, h.lo2, h.n01, h.n02, h.n12, h.t0, h.t1, h.t2, h.bs.kept k id, h.br.kept k id, h.bw.kept k id⟩
theorem OrdS.drew (h : OrdS w W b q0 q1 q2 tag n S R Wr) : OrdS w W.drew b q0 q1 q2 tag n S R Wr := h.still (Kept.drew (Kept.refl _ W))
theorem OrdS.over (h : OrdS w W b q0 q1 q2 tag n S R Wr) (k : Kept (fun k => tag k ≠ none) W W1) (hn : NetIs W1 b tag n') : OrdS w W1 b q0 q1 q2 tag n' S R Wr :=
  ⟨hn, h.kept.over k fun x hx hS => hS (h.tn x hx), h.tn, h.lo0, h.lo1, h.lo2, h.n01, h.n02, h.n12, h.t0, h.t1, h.t2, h.bs.kept k (fun hS => hS h.t0), h.br.kept k (fun hS => hS h.t1), h.bw.kept k (fun hS => hS h.t2)⟩
theorem OrdS.to (h : OrdS w W b q0 q1 q2 tag n S R Wr) (hto : NetTo W b tag n' W1) : ∃ tag', OrdS w W1 b q0 q1 q2 tag' n' S R Wr ∧ Kept (fun k => tag k ≠ none) W W1 := by
  obtain ⟨tag', h1, k, h3⟩ := hto
  exact ⟨tag', ⟨h1, h.kept.over k fun x hx hS => hS (h.tn x hx), fun x hx => h3 x (Nat.lt_of_lt_of_le hx h.kept.size) (h.tn x hx), h.lo0, h.lo1, h.lo2, h.n01, h.n02, h.n12, h3 _ h.bs.lt h.t0, h3 _ h.br.lt h.t1, h3 _ h.bw.lt h.t2,
    h.bs.kept k (fun hS => hS h.t0), h.br.kept k (fun hS => hS h.t1), h.bw.kept k (fun hS => hS h.t2)⟩, k⟩
theorem OrdS.put_ (h : OrdS w W b q0 q1 q2 tag n S R Wr) {g : Nat} (hg : w.heap.size ≤ g) (ht : tag g = none) (c : Nat) (u : Value) : NetIs (W.setCell ⟨g, c, none⟩ u) b tag n ∧ Kept (fun _ => False) w (W.setCell ⟨g, c, none⟩ u) :=
  ⟨h.net.kept ((Kept.refl (· = g) W).setCell (p := ⟨g, c, none⟩) (.inl rfl) u) (fun k hk => by subst hk; exact ht), h.kept.setCell (p := ⟨g, c, none⟩) (.inr hg) u⟩
theorem OrdS.putS (h : OrdS w W b q0 q1 q2 tag n S R Wr) (c : Nat) (x : List UInt8) : OrdS w (W.setCell ⟨q0, c, none⟩ (.string ⟨x.toArray⟩)) b q0 q1 q2 tag n (S.set c x) R Wr := by
  obtain ⟨h1, h2⟩ := h.put_ h.lo0 h.t0 c (.string ⟨x.toArray⟩)
  exact ⟨h1, h2, h.tn, h.lo0, h.lo1, h.lo2, h.n01, h.n02, h.n12, h.t0, h.t1, h.t2, h.bs.setStr c x, h.br.far (Ne.symm h.n01) _, h.bw.far (Ne.symm h.n02) _⟩
theorem OrdS.putR (h : OrdS w W b q0 q1 q2 tag n S R Wr) (c : Nat) (x : List UInt8) : OrdS w (W.setCell ⟨q1, c, none⟩ (.string ⟨x.toArray⟩)) b q0 q1 q2 tag n S (R.set c x) Wr := by
  obtain ⟨h1, h2⟩ := h.put_ h.lo1 h.t1 c (.string ⟨x.toArray⟩)
  exact ⟨h1, h2, h.tn, h.lo0, h.lo1, h.lo2, h.n01, h.n02, h.n12, h.t0, h.t1, h.t2, h.bs.far h.n01 _, h.br.setStr c x, h.bw.far (Ne.symm h.n12) _⟩
theorem OrdS.putW (h : OrdS w W b q0 q1 q2 tag n S R Wr) (c : Nat) (x : List UInt8) : OrdS w (W.setCell ⟨q2, c, none⟩ (.string ⟨x.toArray⟩)) b q0 q1 q2 tag n S R (Wr.set c x) := by
  obtain ⟨h1, h2⟩ := h.put_ h.lo2 h.t2 c (.string ⟨x.toArray⟩)
  exact ⟨h1, h2, h.tn, h.lo0, h.lo1, h.lo2, h.n01, h.n02, h.n12, h.t0, h.t1, h.t2, h.bs.far h.n02 _, h.br.far h.n12 _, h.bw.setStr c x⟩
theorem OrdS.few (h : OrdS w W b q0 q1 q2 tag n S R Wr) : n.ws.length ≤ 64 := by obtain ⟨_, _, _, _, _, h⟩ := h.net; exact h.few
/-- What was laid since: no part of the net. -/
theorem OrdS.free (h : OrdS w W b q0 q1 q2 tag n S R Wr) {g : Nat} (hg : W.heap.size ≤ g) : tag g = none := by
  cases ht : tag g with
  | none => rfl
  | some t => have := h.net.lt g (by rw [ht]; simp); omega
/-- Behind the three rows' making, in whichever order they were made. -/
theorem OrdS.start {w w3 : World} {b : Nat} (n3 : NetIs w3 b (tag0 b) ⟨0, [], []⟩) (k : Kept (fun _ => False) w w3) (hb : w.heap.size ≤ b) (hb3 : b < w3.heap.size) (i0 i1 i2 : Nat) (h0 : i0 < 3) (h1 : i1 < 3) (h2 : i2 < 3) (h01 : i0 ≠ i1) (h02 : i0 ≠ i2) (h12 : i1 ≠ i2) :
    OrdS w ((((w3.alloc (.cells noStrs 9)).alloc (.cells noStrs 9)).alloc (.cells noStrs 9)).drew) b (w3.heap.size + i0) (w3.heap.size + i1) (w3.heap.size + i2) (tag0 b) ⟨0, [], []⟩ (List.replicate 100 []) (List.replicate 100 []) (List.replicate 100 []) := by
  have k3 := k.size
  have ht : ∀ d : Nat, tag0 b (w3.heap.size + d) = none := fun d => by unfold tag0; rw [if_neg (by omega)]
  have hB : ∀ d, d < 3 → Blk ((((w3.alloc (.cells noStrs 9)).alloc (.cells noStrs 9)).alloc (.cells noStrs 9)).drew) (w3.heap.size + d) 9 noStrs := by
    intro d hd
    refine Blk.drew ?_
    match d, hd with
    | 0, _ => exact Blk.alloc (Blk.alloc (Blk.new' rfl) _) _
    | 1, _ => exact Blk.alloc (Blk.new' (by simp)) _
    | 2, _ => exact Blk.new' (by simp)
  exact ⟨n3.kept (((((Kept.refl (fun _ => False) w3).alloc _).alloc _).alloc _).drew) (fun _ hh => hh.elim), (((k.alloc _).alloc _).alloc _).drew, fun k hk => by (unfold tag0; rw [if_neg (by omega)]), by omega, by omega, by omega, by omega, by omega, by omega, ht _, ht _, ht _, hB _ h0, hB _ h1, hB _ h2⟩
end

theorem happen_conn {n : NV} {e : EV} (h : (n.happen e).2 = 0) (hk : e.kind = 1) : ∃ c : Nat, e.conn = c ∧ 1 ≤ c ∧ c ≤ n.ws.length := by
  unfold NV.happen at h
  rw [if_neg (by omega), if_neg (by omega)] at h
  cases hw : n.wire? e.conn with
  | none => rw [hw] at h; simp at h
  | some v =>
    obtain ⟨i, h1, h2, _⟩ := NV.wire_some hw
    exact ⟨i + 1, by omega, by omega, by omega⟩
theorem read_conn {n : NV} {conn most : Int} (h : (n.readB conn most).2.2 = 0) : ∃ c : Nat, conn = c ∧ 1 ≤ c ∧ c ≤ n.ws.length := by
  unfold NV.readB at h
  cases hw : n.wire? conn with
  | none => rw [hw] at h; simp at h
  | some v =>
    obtain ⟨i, h1, h2, _⟩ := NV.wire_some hw
    exact ⟨i + 1, by omega, by omega, by omega⟩
theorem write_conn {n : NV} {conn : Int} (h : n.writeC conn = 0) : ∃ c : Nat, conn = c ∧ 1 ≤ c ∧ c ≤ n.ws.length := by
  unfold NV.writeC at h
  cases hw : n.wire? conn with
  | none => rw [hw] at h; simp at h
  | some v =>
    obtain ⟨i, h1, h2, _⟩ := NV.wire_some hw
    exact ⟨i + 1, by omega, by omega, by omega⟩
theorem writeK_le (n : NV) (conn : Int) (m : Nat) : n.writeK conn m ≤ m := by
  unfold NV.writeK
  cases n.wire? conn with
  | none => simp
  | some v => simp only; split <;> simp [WV.room]; omega
theorem read_le {n : NV} {S R W : List (List UInt8)} {b : Nat} (h : NOrd n S R W b) (conn most : Int) : (n.readB conn most).1.length ≤ b := by
  unfold NV.readB
  cases hw : n.wire? conn with
  | none => simp
  | some v =>
    by_cases hs : stateC v = 0
    · simp only [if_pos hs]
      have hwi := h.at_ hw
      have hb := (h.bnd conn.toNat).1
      cases hr : v.reset with
      | false =>
        have := hwi.inn hr
        have hl := congrArg List.length this
        rw [List.length_append] at hl
        rw [List.length_take]
        omega
      | true =>
        have := hwi.gone hr
        unfold stateC at hs
        rw [this] at hs
        simp [hr] at hs
    · simp only [if_neg hs]; simp
theorem NOrd.got {n : NV} {S R W : List (List UInt8)} {b : Nat} (h : NOrd n S R W b) : ∀ v ∈ n.ws, v.got.length ≤ b := by
  intro v hv
  obtain ⟨i, hi⟩ := List.mem_iff_getElem?.1 hv
  rw [(h.ok i v hi).got]
  exact (h.bnd _).2
theorem NOrd.rle {n : NV} {S R W : List (List UInt8)} {b : Nat} (h : NOrd n S R W b) (c : Nat) (hc : c ≤ n.ws.length) (h0 : 0 < c) : (R.getD c []).length ≤ b := by
  have hi : c - 1 < n.ws.length := by omega
  have := h.ok (c - 1) _ (List.getElem?_eq_getElem hi)
  rw [show c - 1 + 1 = c by omega] at this
  have h1 := this.pre.length_le
  have h2 := (h.bnd c).1
  omega
end Go.Proofs.Ytpdlpiepgeanjaa

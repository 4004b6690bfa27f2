/- Searching bytes in bytes, in this claim's own words; a reader's small functions. No conditions. -/
import Derived.Test.YtgaohmmhpcgkgaaCsE
import Derived.Test.YtgaohmmhpcgkgaaShelf
import Derived.Laws.IdiomStrings
namespace Go.Proofs.Ytgaohmmhpcgkgaa
open Go.RowKit

def nums (l : List UInt8) : List Int := l.map fun b => (b.toNat : Int)
theorem nums_length (l : List UInt8) : (nums l).length = l.length := by simp [nums]
theorem bytesOf_nums (l : List UInt8) : Lib.bytesOf (nums l) = l := by
  induction l with
  | nil => rfl
  | cons x l ih =>
    have : Lib.bytesOf (nums (x :: l)) = UInt8.ofNat x.toNat :: Lib.bytesOf (nums l) := by simp [Lib.bytesOf, nums]
    rw [this, ih]
    simp
theorem Rd.bytesIn {w : World} {A : Option Addr} {l : List UInt8} {n : Nat} (h : Rd w A (bv l)) (hn : l.length = n) : Lib.BytesIn w A n (nums l) := by
  intro hp
  obtain ⟨g, off, rfl, hc⟩ := h (by intro e; have := bv_length l; rw [e] at this; simp at this; omega)
  refine ⟨g, off, rfl, fun i hi => ?_⟩
  have hi2 : i < l.length := by omega
  rw [hc i _ (bv_get l i hi2)]
  simp [nums, List.getD, hi2]
theorem nums_range (l : List UInt8) : ∀ x ∈ nums l, 0 ≤ x ∧ x < 256 := by
  intro x hx
  simp only [nums, List.mem_map] at hx
  obtain ⟨b, _, rfl⟩ := hx
  have := b.toNat_lt
  omega
/-- A string's bytes, laid anew. -/
theorem str_bytes {P : Program} (w : World) (src dst e : TypeId) (l : List UInt8) (hs : P.underlying src = some .string) (hd : P.underlying dst = some (.slice e)) (he : P.underlying e = some (.int .u8)) :
    ∃ c W, (convert src dst (.string ⟨l.toArray⟩)).run P w = .ok (.slice (some ⟨w.heap.size, 0, none⟩) l.length c) W ∧ Kept (fun _ => False) w W ∧ Rd W (some ⟨w.heap.size, 0, none⟩) (bv l) ∧ l.length ≤ c ∧ w.heap.size < W.heap.size := by
  refine ⟨_, _, run_bytes_of_string w src dst e _ hs hd he, ((Kept.refl _ w).drew).alloc _, ?_, ?_, by simp⟩
  · intro _
    refine ⟨_, 0, rfl, fun j u hu => ?_⟩
    have hj : j < l.length := by rw [← bv_length l]; exact (List.getElem?_eq_some_iff.1 hu).1
    rw [bv_get l j hj] at hu
    cases hu
    have h1 := bytesRow_at (⟨l.toArray⟩ : ByteArray) (grownCap w (⟨l.toArray⟩ : ByteArray).size 0 e) j (by simpa using hj)
    rw [Nat.zero_add]
    have h2 := World.cell?_alloc_mark w.drew (bytesRow ⟨l.toArray⟩ (grownCap w (⟨l.toArray⟩ : ByteArray).size 0 e)) e ((bytesRow ⟨l.toArray⟩ (grownCap w (⟨l.toArray⟩ : ByteArray).size 0 e)).size, (bytesRow ⟨l.toArray⟩ (grownCap w (⟨l.toArray⟩ : ByteArray).size 0 e)).size + 1) j
    have h3 : w.drew.heap.size = w.heap.size := rfl
    rw [h3] at h2
    rw [h2, h1]
    simp
  · exact grownCap_ge w (⟨l.toArray⟩ : ByteArray).size 0 e

/-- The reader's block. -/
def RB (w : World) (g : Nat) (A : Option Addr) (n c p : Nat) : Prop := Blk w g 63 #[.slice A n c, .int .i64 p]
theorem RB.cells {w : World} {g : Nat} {A : Option Addr} {n c p : Nat} (h : RB w g A n c p) : w.cell? ⟨g, 0, none⟩ = some (.slice A n c) ∧ w.cell? ⟨g, 1, none⟩ = some (.int .i64 p) ∧ (∀ i, w.frozen? ⟨g, i, none⟩ = false) ∧ g < w.heap.size :=
  ⟨h.cell 0, h.cell 1, fun i => Blk.frozen h i, Blk.lt h⟩
theorem RB.kept {S : Nat → Prop} {w w' : World} {g : Nat} {A : Option Addr} {n c p : Nat} (h : RB w g A n c p) (hk : Kept S w w') (hs : ¬ S g) : RB w' g A n c p := Blk.kept h hk hs
theorem RB.to {w : World} {g : Nat} {A : Option Addr} {n c p : Nat} (h : RB w g A n c p) (q : Nat) : RB (w.setCell ⟨g, 1, none⟩ (.int .i64 q)) g A n c q := Blk.set_ h 1 _
/-- No byte lies in a reader's own block. -/
theorem Rd.keptR {w w' : World} {A A' : Option Addr} {l : List UInt8} {g n c p : Nat} (h : Rd w A (bv l)) (hr : RB w g A' n c p) (hk : Kept (· = g) w w') : Rd w' A (bv l) := by
  by_cases hn : l = []
  · subst hn; exact Rd.nil _ _
  refine h.kept hk ?_
  rintro q ⟨ad, rfl, rfl⟩ rfl
  obtain ⟨x, hx⟩ : ∃ x, (bv l)[0]? = some x := by
    cases l with
    | nil => exact absurd rfl hn
    | cons y l => exact ⟨_, rfl⟩
  obtain ⟨g, off, h1, hc⟩ := h.get hx
  cases h1
  obtain ⟨k, rfl⟩ := bv_u8 l x (List.mem_of_getElem? hx)
  rw [Nat.add_zero, Blk.cell hr off] at hc
  match off, hc with
  | 0, hc => simp at hc
  | 1, hc => simp at hc
  | k + 2, hc => simp at hc

/-- An error at a place. -/
def FaultAt (w : World) (v : Value) (at_ : Nat) (code : Int) : Prop := ∃ q, v = .iface 57 (.pointer (some ⟨q, 0, none⟩)) ∧ Blk w q 60 #[.int .i64 at_, .iface 58 (.int .i64 code)]
theorem FaultAt.kept {S : Nat → Prop} {w w' : World} {v : Value} {a : Nat} {code : Int} (h : FaultAt w v a code) (hk : Kept S w w') (hs : ∀ q, w.heap[q]? = some (.cells #[.int .i64 a, .iface 58 (.int .i64 code)] 60 (0, 0)) → ¬ S q) : FaultAt w' v a code := by
  obtain ⟨q, rfl, hb⟩ := h
  exact ⟨q, rfl, hb.kept hk (hs q hb)⟩
theorem end_any (w : World) (g : Nat) (A : Option Addr) (n c p : Nat) (h : RB w g A n c p) (hn : n ≤ maxLen) :
    Calls Try.prog 45 #[.pointer (some ⟨g, 0, none⟩)] w fun e w' => ∃ v, e = .returned v ∧ FaultAt w' v n 7 ∧ Kept (fun _ => False) w w' := by
  obtain ⟨c0, c1, fz, lt⟩ := h.cells
  go_enter Try.func45, Try.ntmps45
  go_wp2
  go_ret
  exact ⟨_, rfl, ⟨_, rfl, Blk.new _ _ _⟩, (Kept.refl _ w).alloc _⟩

def hasB (bs : List UInt8) (p : Nat) (lit : List UInt8) : Bool := lit.isPrefixOf (bs.drop p)
set_option maxRecDepth 100000 in
set_option maxHeartbeats 800000 in
theorem begins_any (w : World) (g : Nat) (A : Option Addr) (c p : Nat) (bs lit : List UInt8) (h : RB w g A bs.length c p) (hb : Rd w A (bv bs)) (hc : bs.length ≤ c) (hcm : c ≤ maxLen) (hp : p ≤ bs.length) (hl : lit.length ≤ 1000) :
    Calls Try.prog 27 #[.pointer (some ⟨g, 0, none⟩), .string ⟨lit.toArray⟩] w fun e w' => e = .returned (.bool (hasB bs p lit)) ∧ Kept (fun _ => False) w w' := by
  unfold maxLen at hcm
  obtain ⟨c0, c1, fz, lt⟩ := h.cells
  obtain ⟨cap, W, hcv, kW, rW, hcW, hlt⟩ := str_bytes (P := Try.prog) w.drew 9 40 5 lit Try.underlying9 Try.underlying40 Try.underlying5
  have k1 : Kept (fun _ => False) w W := ((Kept.refl _ w).drew).trans kW
  replace rW : Rd W (some ⟨w.heap.size, 0, none⟩) (bv lit) := rW
  have hdr := (hb.drop p c (by rw [bv_length]; exact hc)).same k1
  rw [← bv_drop] at hdr
  have hp' : (p : Int) ≤ c := by omega
  have hval : Lib.hasPrefix (Lib.bytesOf (nums (bs.drop p))) (Lib.bytesOf (nums lit)) = hasB bs p lit := by rw [bytesOf_nums, bytesOf_nums]; rfl
  have hcp : bs.length - p ≤ c - p := by omega
  have hdl : (nums (bs.drop p)).length = bs.length - p := by rw [nums_length, List.length_drop]
  by_cases hcc : c = p
  · rw [if_pos hcc] at hdr
    have hpx := fun w' k => Try.bytes_HasPrefix_all A (some ⟨w.heap.size, 0, none⟩) (bs.length - p) 0 lit.length cap (nums (bs.drop p)) (nums lit) w' hdl (nums_length lit) (by omega) (Rd.bytesIn (hdr.same k) (by simp)) (Rd.bytesIn (rW.same k) rfl)
    rw [hval] at hpx
    go_enter Try.func27, Try.ntmps27
    go_wp2_with fail
    refine wp_region_eager [(false, [0, 1, 2, 3, 4, 5, 6, 7, 8, 9]), (true, [10]), (true, [11]), (false, [12])] (by kernel_rfl) (by kernel_rfl) ?_
    simp only [wpSegs, List.filterMap_cons, List.filterMap_nil, List.getElem?_toArray, List.getElem?_cons_zero, List.getElem?_cons_succ]
    go_wp2_with fail
    refine nrm ⟨(fun hh => by cases hh), ?_⟩
    go_wp2_with fail
    refine nrm ⟨fun _ => kW, ?_⟩
    go_wp2_with fail
    refine (hpx _ (Kept.refl _ _)).mono ?_
    rintro e w3 ⟨rfl, rfl⟩
    go_wp2_with fail
    refine nrm ⟨fun _ => Kept.refl _ _, ?_⟩
    go_wp2_with fail
    refine nrm ⟨(fun hh => by cases hh), ?_⟩
    go_wp2_with fail
    go_ret
    exact ⟨rfl, k1⟩
  · rw [if_neg hcc] at hdr
    have hpx := fun w' k => Try.bytes_HasPrefix_all (A.map (·.add p)) (some ⟨w.heap.size, 0, none⟩) (bs.length - p) (c - p) lit.length cap (nums (bs.drop p)) (nums lit) w' hdl (nums_length lit) hcp (Rd.bytesIn (hdr.same k) (by simp)) (Rd.bytesIn (rW.same k) rfl)
    rw [hval] at hpx
    go_enter Try.func27, Try.ntmps27
    go_wp2_with fail
    refine wp_region_eager [(false, [0, 1, 2, 3, 4, 5, 6, 7, 8, 9]), (true, [10]), (true, [11]), (false, [12])] (by kernel_rfl) (by kernel_rfl) ?_
    simp only [wpSegs, List.filterMap_cons, List.filterMap_nil, List.getElem?_toArray, List.getElem?_cons_zero, List.getElem?_cons_succ]
    go_wp2_with fail
    refine nrm ⟨(fun hh => by cases hh), ?_⟩
    go_wp2_with fail
    refine nrm ⟨fun _ => kW, ?_⟩
    go_wp2_with fail
    refine (hpx _ (Kept.refl _ _)).mono ?_
    rintro e w3 ⟨rfl, rfl⟩
    go_wp2_with fail
    refine nrm ⟨fun _ => Kept.refl _ _, ?_⟩
    go_wp2_with fail
    refine nrm ⟨(fun hh => by cases hh), ?_⟩
    go_wp2_with fail
    go_ret
    exact ⟨rfl, k1⟩
end Go.Proofs.Ytgaohmmhpcgkgaa

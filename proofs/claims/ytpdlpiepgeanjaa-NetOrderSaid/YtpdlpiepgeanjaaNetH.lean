/- Contracts of asking for a connection, and of taking one. No conditions. -/
import Derived.Test.YtpdlpiepgeanjaaNetF
import Derived.Test.YtpdlpiepgeanjaaNetG
namespace Go.Proofs.Ytpdlpiepgeanjaa
open Go.RowKit

theorem AddP.back {w w1 w' : World} {b : Nat} {tag : Tags} {n : NV} {g : Nat} {v : WV} {t : Bool} (h : AddP w1 b tag n g v t w') (k : Kept (fun _ => False) w w1) : AddP w b tag n g v t w' := by
  obtain ⟨tag', lA, lC, tA, tC, gs, h1, h2, h3⟩ := h
  exact ⟨tag', lA, lC, tA, tC, gs, h1, k.weak.trans h2, fun x hx hne => h3 x (Nat.lt_of_lt_of_le hx k.size) hne⟩
def WV.asked (name : ByteArray) : WV := ⟨0, name, [], 0, [], false, false, false⟩
set_option maxRecDepth 100000 in
set_option maxHeartbeats 800000 in
theorem connect_some (w : World) (b : Nat) (tag : Tags) (n : NV) (lA tA : Option Addr) (lC tC : Nat) (gs : List Nat) (h : NetAt w b tag n lA lC tA tC gs) (name : ByteArray) (h1 : name.toList.isEmpty = false) (h2 : name.size ≤ 60) (hf : n.ws.length < 64) :
    Calls Try.prog 9 #[.pointer (some ⟨b, 0, none⟩), .string name] w fun e w' => e = .returned (.tuple #[.int .i64 (n.ws.length + 1), .bool true]) ∧ AddP w b tag n w.heap.size (WV.asked name) true w' := by
  obtain ⟨c0, c1, c2, fz⟩ := h.cells
  have e1 : ((n.ws.length : Int) == 64) = false := by simp; omega
  have e2 : ¬ name.toList = [] := fun e => by rw [e] at h1; cases h1
  have ka := (Kept.refl (fun _ => False) w).alloc (.cells #[.int .i64 0, .string name, .slice none 0 0, .int .i64 0, .slice none 0 0, .bool false, .bool false, .bool false] 41)
  have htg : tag w.heap.size = none := by
    cases ht : tag w.heap.size with
    | none => rfl
    | some t => exact absurd (h.lt _ (by rw [ht]; simp)) (Nat.lt_irrefl _)
  have hadd := add_any _ b tag n lA tA lC tC gs w.heap.size (WV.asked name) true (h.kept ka fun _ hh => hh.elim) (Blk.new w 41 #[.int .i64 0, .string name, .slice none 0 0, .int .i64 0, .slice none 0 0, .bool false, .bool false, .bool false]) rfl rfl htg hf ⟨Int.le_refl _, by simp [WV.asked], by simp [WV.asked]⟩
  go_enter Try.func9, Try.ntmps9
  go_wp2_with fail
  refine hadd.mono ?_
  clear hadd
  rintro e w1 ⟨rfl, hA⟩
  go_wp2_with fail
  go_ret2
  exact ⟨rfl, hA.back ka⟩
end Go.Proofs.Ytpdlpiepgeanjaa

/- Plain laws of sets: union, rest, counts. No conditions. -/
import Derived.Test.YtgaohmmhpcgkgaaCsC
namespace Go.Proofs.Ytgaohmmhpcgkgaa

theorem filter_two (l : List Nat) (f g : Nat → Bool) : (l.filter fun i => f i && g i).length + (l.filter fun i => f i || g i).length = (l.filter f).length + (l.filter g).length := by
  induction l with
  | nil => rfl
  | cons x l ih =>
    simp only [List.filter_cons]
    cases f x <;> cases g x <;> simp <;> omega
theorem filter_rest (l : List Nat) (f : Nat → Bool) : (l.filter f).length + (l.filter fun i => !f i).length = l.length := by
  induction l with
  | nil => rfl
  | cons x l ih =>
    simp only [List.filter_cons]
    cases f x <;> simp <;> omega
theorem filter_same (f g : Nat → Bool) (n : Nat) (h : ∀ i, i < n → f i = g i) : ((List.range n).filter f).length = ((List.range n).filter g).length := by
  congr 1
  apply List.filter_congr
  intro x hx
  exact h x (List.mem_range.1 hx)
namespace CS
def both (a b : CS) : CS := (a.not.or b.not).not
theorem has_both (a b : CS) (n : Nat) (h : n < 256) : (a.both b).has n = (a.has n && b.has n) := by
  unfold both
  rw [has_not _ _ h, has_or _ _ _ h, has_not _ _ h, has_not _ _ h]
  cases a.has n <;> cases b.has n <;> rfl
theorem or_not (a : CS) : a.or a.not = CS.range 0 255 := by
  apply ext_has
  intro n h
  rw [has_or _ _ _ h, has_not _ _ h, has_range _ _ _ (by omega) h]
  cases a.has n <;> simp <;> omega
theorem or_self (a : CS) : a.or a = a := by
  apply ext_has
  intro n h
  rw [has_or _ _ _ h]
  cases a.has n <;> rfl
theorem or_comm (a b : CS) : a.or b = b.or a := by
  apply ext_has
  intro n h
  rw [has_or _ _ _ h, has_or _ _ _ h]
  cases a.has n <;> cases b.has n <;> rfl
theorem not_not (a : CS) : a.not.not = a := by
  apply ext_has
  intro n h
  rw [has_not _ _ h, has_not _ _ h]
  cases a.has n <;> rfl
theorem count_both (a b : CS) : (a.both b).count + (a.or b).count = a.count + b.count := by
  rw [count_eq, count_eq, count_eq a, count_eq b]
  rw [filter_same _ (fun i => a.has i && b.has i) 256 (fun i h => has_both a b i h), filter_same _ (fun i => a.has i || b.has i) 256 (fun i h => has_or a b i h)]
  exact filter_two _ _ _
theorem count_not (a : CS) : a.count + a.not.count = 256 := by
  rw [count_eq, count_eq a.not]
  rw [filter_same (fun i => a.not.has i) (fun i => !a.has i) 256 (fun i h => has_not a i h)]
  have := filter_rest (List.range 256) (fun i => a.has i)
  rw [this]
  simp
theorem count_le (a : CS) : a.count ≤ 256 := by have := a.count_not; omega
end CS
end Go.Proofs.Ytgaohmmhpcgkgaa

/- Sets of bytes, as four words of 64 bits. No conditions. -/
import Derived.Test.YtjjlifljdbidbaaMem
namespace Go.Proofs.Ytjjlifljdbidbaa

structure CS where
  a : BitVec 64
  b : BitVec 64
  c : BitVec 64
  d : BitVec 64
namespace CS
def wd (s : CS) : Nat → BitVec 64
  | 0 => s.a
  | 1 => s.b
  | 2 => s.c
  | _ => s.d
def has (s : CS) (n : Nat) : Bool := (s.wd (n / 64)).getLsbD (n % 64)
def empty : CS := ⟨0, 0, 0, 0⟩
def or (s t : CS) : CS := ⟨s.a ||| t.a, s.b ||| t.b, s.c ||| t.c, s.d ||| t.d⟩
def not (s : CS) : CS := ⟨~~~s.a, ~~~s.b, ~~~s.c, ~~~s.d⟩
def setw (s : CS) (i : Nat) (x : BitVec 64) : CS := match i with
  | 0 => { s with a := x }
  | 1 => { s with b := x }
  | 2 => { s with c := x }
  | _ => { s with d := x }
def add (s : CS) (n : Nat) : CS := s.setw (n / 64) (s.wd (n / 64) ||| (1#64 <<< (n % 64)))
/-- The bytes from f on, k of them. -/
def run (f : Nat) : Nat → CS
  | 0 => empty
  | k + 1 => (run f k).add (f + k)
def range (f t : Nat) : CS := run f (t + 1 - f)
theorem wd_lt (n : Nat) (h : n < 256) : n / 64 = 0 ∨ n / 64 = 1 ∨ n / 64 = 2 ∨ n / 64 = 3 := by omega
theorem has_or (s t : CS) (n : Nat) (h : n < 256) : (s.or t).has n = (s.has n || t.has n) := by
  unfold has
  rcases wd_lt n h with e | e | e | e <;> rw [e] <;> simp [wd, or]
theorem has_not (s : CS) (n : Nat) (h : n < 256) : s.not.has n = !s.has n := by
  have h2 : n % 64 < 64 := by omega
  unfold has
  rcases wd_lt n h with e | e | e | e <;> rw [e] <;> simp [wd, not, h2]
theorem has_empty (n : Nat) : empty.has n = false := by
  unfold has
  have : empty.wd (n / 64) = 0 := by unfold wd; split <;> rfl
  rw [this]
  simp
theorem bit_one (i j : Nat) (hi : i < 64) : (1#64 <<< j).getLsbD i = decide (i = j) := by
  rw [BitVec.getLsbD_shiftLeft, BitVec.getLsbD_one, Bool.eq_iff_iff]
  simp
  omega
theorem has_add (s : CS) (k n : Nat) (hk : k < 256) (hn : n < 256) : (s.add k).has n = (s.has n || decide (n = k)) := by
  have h2 : n % 64 < 64 := by omega
  unfold has add
  by_cases he : n / 64 = k / 64
  · have e1 : (s.setw (k / 64) (s.wd (k / 64) ||| (1#64 <<< (k % 64)))).wd (n / 64) = s.wd (k / 64) ||| (1#64 <<< (k % 64)) := by
      rw [he]
      rcases wd_lt k hk with e | e | e | e <;> rw [e] <;> rfl
    rw [e1, BitVec.getLsbD_or, bit_one _ _ h2, he]
    congr 1
    rw [Bool.eq_iff_iff]
    simp
    omega
  · have e1 : (s.setw (k / 64) (s.wd (k / 64) ||| (1#64 <<< (k % 64)))).wd (n / 64) = s.wd (n / 64) := by
      rcases wd_lt k hk with e | e | e | e <;> rcases wd_lt n hn with e' | e' | e' | e' <;> rw [e] at he ⊢ <;> rw [e'] at he ⊢ <;> first | rfl | exact absurd rfl he
    rw [e1]
    have : decide (n = k) = false := by simp; intro e; subst e; exact he rfl
    rw [this, Bool.or_false]
theorem has_run (f k n : Nat) (hf : f + k ≤ 256) (hn : n < 256) : (run f k).has n = decide (f ≤ n ∧ n < f + k) := by
  induction k with
  | zero => rw [run, has_empty]; symm; simp; try omega
  | succ k ih =>
    rw [run, has_add _ _ _ (by omega) hn, ih (by omega), Bool.eq_iff_iff]
    simp
    omega
theorem has_range (f t n : Nat) (ht : t < 256) (hn : n < 256) : (range f t).has n = decide (f ≤ n ∧ n ≤ t) := by
  unfold range
  by_cases h : f ≤ t
  · rw [has_run _ _ _ (by omega) hn, Bool.eq_iff_iff]
    simp
    omega
  · have : t + 1 - f = 0 := by omega
    rw [this, run, has_empty]
    symm
    simp
    try omega
theorem ext_has (s t : CS) (h : ∀ n, n < 256 → s.has n = t.has n) : s = t := by
  obtain ⟨a, b, c, d⟩ := s
  obtain ⟨a', b', c', d'⟩ := t
  have key : ∀ (i : Nat) (x y : BitVec 64), i < 4 → (∀ m, m < 64 → x.getLsbD m = (CS.mk a b c d).has (64 * i + m)) → (∀ m, m < 64 → y.getLsbD m = (CS.mk a' b' c' d').has (64 * i + m)) → x = y := by
    intro i x y hi hx hy
    apply BitVec.eq_of_getLsbD_eq
    intro m hm
    rw [hx m hm, hy m hm]
    exact h _ (by omega)
  have ev : ∀ (i m : Nat), m < 64 → (64 * i + m) / 64 = i ∧ (64 * i + m) % 64 = m := fun i m hm => by omega
  have ha : a = a' := key 0 _ _ (by omega) (fun m hm => by unfold has; rw [(ev 0 m hm).1, (ev 0 m hm).2]; rfl) (fun m hm => by unfold has; rw [(ev 0 m hm).1, (ev 0 m hm).2]; rfl)
  have hb : b = b' := key 1 _ _ (by omega) (fun m hm => by unfold has; rw [(ev 1 m hm).1, (ev 1 m hm).2]; rfl) (fun m hm => by unfold has; rw [(ev 1 m hm).1, (ev 1 m hm).2]; rfl)
  have hc : c = c' := key 2 _ _ (by omega) (fun m hm => by unfold has; rw [(ev 2 m hm).1, (ev 2 m hm).2]; rfl) (fun m hm => by unfold has; rw [(ev 2 m hm).1, (ev 2 m hm).2]; rfl)
  have hd : d = d' := key 3 _ _ (by omega) (fun m hm => by unfold has; rw [(ev 3 m hm).1, (ev 3 m hm).2]; rfl) (fun m hm => by unfold has; rw [(ev 3 m hm).1, (ev 3 m hm).2]; rfl)
  subst ha hb hc hd
  rfl
end CS
@[reducible] def CS.val (s : CS) : Value := .agg #[.int .u64 s.a.toNat, .int .u64 s.b.toNat, .int .u64 s.c.toNat, .int .u64 s.d.toNat]
end Go.Proofs.Ytjjlifljdbidbaa

/- Variables that a drawn region makes and stores into. No conditions. -/
import Derived.Test.YtgaohmmhpcgkgaaCsN
import Derived.Test.YtgaohmmhpcgkgaaInv
namespace Go.Proofs.Ytgaohmmhpcgkgaa

/-- A variable of a set, made by operation i, stored into by operation j. -/
def AL (d : Nat → Bool) (i j : Nat) (w0 w : World) (x : Value) (c : Array Value) : Prop :=
  d i = true → ∃ g s0 s1 s2 s3, x = .pointer (some ⟨g, 0, none⟩) ∧ w0.heap.size ≤ g ∧ Blk w g 27 #[s0, s1, s2, s3] ∧ (d j = true → #[s0, s1, s2, s3] = c)
theorem AL.kept {d : Nat → Bool} {i j : Nat} {w0 w w' : World} {x : Value} {c : Array Value} {S : Nat → Prop} (h : AL d i j w0 w x c) (k : Kept S w w') (hs : ∀ g, x = .pointer (some ⟨g, 0, none⟩) → ¬ S g) : AL d i j w0 w' x c := by
  intro hd
  obtain ⟨g, s0, s1, s2, s3, rfl, hg, hB, hh⟩ := h hd
  exact ⟨g, s0, s1, s2, s3, rfl, hg, hB.kept k (hs g rfl), hh⟩
theorem AL.far {d : Nat → Bool} {i j g : Nat} {w0 w w' : World} {x : Value} {c : Array Value} (h : AL d i j w0 w x c) (k : Kept (· = g) w w') (hs : d i = true → x ≠ .pointer (some ⟨g, 0, none⟩)) : AL d i j w0 w' x c := by
  intro hd
  refine (h.kept k (fun g' hx hgg => hs hd ?_)) hd
  subst hgg
  exact hx
theorem AL.ne {d : Nat → Bool} {i j : Nat} {w0 w : World} {x : Value} {c : Array Value} (h : AL d i j w0 w x c) (hd : d i = true) : x ≠ .pointer (some ⟨w.heap.size, 0, none⟩) := by
  obtain ⟨g, s0, s1, s2, s3, rfl, hg, hB, hh⟩ := h hd
  have := hB.lt
  intro hx
  injection hx with h1
  injection h1 with h2
  injection h2 with h3
  omega
theorem AL.new {d d' : Nat → Bool} {i j : Nat} {w0 w : World} {c : Array Value} {s0 s1 s2 s3 : Value} {n : Nat} (hk : w0.heap.size ≤ n) (hn : n = w.heap.size) (hj : d j = true → False) (hd : d' j = true → d j = true := by exact id) : AL d' i j w0 (w.alloc (.cells #[s0, s1, s2, s3] 27)) (.pointer (some ⟨n, 0, none⟩)) c := by
  intro _
  exact ⟨n, s0, s1, s2, s3, rfl, hk, Blk.new' hn, fun h => (hj (hd h)).elim⟩
end Go.Proofs.Ytgaohmmhpcgkgaa

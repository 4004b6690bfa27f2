/- The acts of the queue's law file, opened. No conditions. -/
import Derived.Test.YtocbbkkfcabiiaaOpen
import Derived.Test.YtocbbkkfcabiiaaOutqD
namespace Go.Proofs.Ytocbbkkfcabiiaa
open Go.ChangeShapes Go.WideShapes Go.Deep Go.RowKit

theorem fields19 : ∃ f0 f1 f2 : Field, Try.prog.underlying 29 = some (.struct #[f0, f1, f2]) ∧ f0.type = 3 ∧ f1.type = 3 ∧ f2.type = 27 ∧ oneCellFields Try.prog #[f0, f1, f2] = true :=
  ⟨_, _, _, Try.underlying29, rfl, rfl, rfl, by kernel_rfl⟩
theorem acts_of {H : Type} {enc : TypeId × Value → H} {w : World} {base : Nat} {spare : Nat → Bool} {held : Bool} {fuel : Nat} {v : Value} {x : DataW H × List MemPlace}
    (h : DataW.trod enc Try.prog w base spare held fuel 22 [v] = some x) : ∃ (A : Option Addr) (c : Nat) (l : List ActV), v = .slice A l.length c ∧ l.length ≤ maxLen ∧ ActsAt w A l := by
  obtain ⟨f0, f1, f2, hs, t0, t1, t2, hone⟩ := fields19
  rcases open_slice_fields Try.underlying22 hs hone (by kernel_rfl) h with h0 | ⟨a, len, cap, hcs, hl, hm, hi⟩
  · simp at h0
    exact ⟨none, 0, [], by simpa using h0, by simp [maxLen], fun i v hv => by simp at hv⟩
  · simp at hcs
    obtain ⟨l, hll, hlq⟩ := list_of_forall (n := len) (Q := fun i v => ∃ g off, some a = some ⟨g, off, none⟩ ∧ ActAt w g (off + i * 3) v) (fun i hil => by
      obtain ⟨n, hf⟩ := hi i hil
      obtain ⟨v0, y0, c0, r0⟩ := hf 0 f0 rfl
      obtain ⟨v1, y1, c1, r1⟩ := hf 1 f1 rfl
      obtain ⟨v2, y2, c2, r2⟩ := hf 2 f2 rfl
      rw [t0] at r0
      rw [t1] at r1
      rw [t2] at r2
      obtain ⟨k, e0, _, _⟩ := DataW.trod_int Try.underlying3 r0
      obtain ⟨m, e1, _, _⟩ := DataW.trod_int Try.underlying3 r1
      obtain ⟨A2, cc, bs, rfl, hr, hc1, hc2, hc3⟩ := open_bytes Try.underlying27 Try.underlying5 (by kernel_rfl) r2
      simp at e0 e1
      subst e0 e1
      obtain ⟨g, off, spot⟩ := a
      have hsp : spot = none := by
        obtain ⟨n', hf'⟩ := hi 0 (by omega)
        obtain ⟨_, _, c', _⟩ := hf' 0 f0 rfl
        simpa [Addr.add] using World.cell?_spot c'
      subst hsp
      simp only [Addr.add, List.size_toArray, List.length_cons, List.length_nil] at c0 c1 c2
      refine ⟨⟨k, m, A2, cc, bs⟩, g, off, rfl, ?_, ?_, ?_, hr, hc1, hc2, hc3⟩
      · split at c0
        · rename_i h0
          have : i = 0 := by omega
          subst this
          simpa using c0
        · simpa using c0
      · simpa [Nat.add_assoc] using c1
      · simpa [Nat.add_assoc] using c2)
    refine ⟨some a, cap, l, by rw [hll]; exact hcs, by omega, hlq⟩
end Go.Proofs.Ytocbbkkfcabiiaa

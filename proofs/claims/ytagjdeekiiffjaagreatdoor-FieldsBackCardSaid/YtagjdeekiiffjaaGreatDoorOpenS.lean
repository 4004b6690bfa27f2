/- Texts that came in, opened. No conditions. -/
import Derived.Test.YtagjdeekiiffjaaGreatDoorOpen
import Derived.Test.YtagjdeekiiffjaaGreatDoorRecE
namespace Go.Proofs.YtagjdeekiiffjaaGreatDoor
open Go.ChangeShapes Go.WideShapes Go.Deep Go.RowKit

section
variable {H : Type} {enc : TypeId × Value → H} {P : Program} {w : World} {base : Nat} {spare : Nat → Bool} {held : Bool}
theorem open_strings {t e : TypeId} {fuel : Nat} {v : Value} {x : DataW H × List MemPlace} (ht : P.underlying t = some (.slice e)) (he : P.underlying e = some .string) (hc : P.cellsOf e = 1)
    (h : DataW.trod enc P w base spare held fuel t [v] = some x) : ∃ (A : Option Addr) (c : Nat) (l : List (List UInt8)), v = .slice A l.length c ∧ Rd w A (svR l) ∧ l.length ≤ c ∧ (A = none → c = 0) ∧ c ≤ maxLen ∧ ∀ x ∈ l, x.length ≤ maxLen := by
  rcases open_slice_one ht hc h with h0 | ⟨a, len, cap, hcs, hl, hm, hi⟩
  · simp at h0
    exact ⟨none, 0, [], by simpa using h0, Rd.nil _ _, Nat.le_refl _, fun _ => rfl, by simp [maxLen], by simp⟩
  · simp at hcs
    obtain ⟨l, hll, hlq⟩ := list_of_forall (n := len) (Q := fun i (b : List UInt8) => (∃ g off, some a = some ⟨g, off, none⟩ ∧ w.cell? ⟨g, off + i, none⟩ = some (.string ⟨b.toArray⟩)) ∧ b.length ≤ maxLen) (fun i hil => by
      obtain ⟨n, u, y, hcell, hty⟩ := hi i hil
      obtain ⟨b, hb, _, hsz⟩ := DataW.trod_string he hty
      simp at hb
      subst hb
      obtain ⟨_, _, _, hcell0, _⟩ := hi 0 (by omega)
      obtain ⟨g, off, rfl, h2⟩ := addr_none hcell0 hcell
      exact ⟨b.data.toList, ⟨g, off, rfl, h2⟩, hsz⟩)
    refine ⟨some a, cap, l, by rw [hll]; exact hcs, fun hn => ?_, by omega, (by simp), hm, fun x hx => ?_⟩
    · obtain ⟨b, hb⟩ : ∃ b, l[0]? = some b := by
        cases l with
        | nil => simp [svR] at hn
        | cons b l => exact ⟨b, rfl⟩
      obtain ⟨⟨g, off, he2, _⟩, _⟩ := hlq 0 b hb
      refine ⟨g, off, he2, fun j u hu => ?_⟩
      simp only [svR, List.getElem?_map, Option.map_eq_some_iff] at hu
      obtain ⟨b2, hb2, rfl⟩ := hu
      obtain ⟨⟨g2, off2, he3, hc3⟩, _⟩ := hlq j b2 hb2
      rw [he2] at he3
      cases he3
      exact hc3
    · obtain ⟨i, hi, rfl⟩ := List.getElem_of_mem hx
      exact (hlq i _ (List.getElem?_eq_getElem hi)).2
end
end Go.Proofs.YtagjdeekiiffjaaGreatDoor

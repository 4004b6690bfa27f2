/- Any class, by its name; a class in brackets. No conditions. -/
import Derived.Test.YtgaohmmhpcgkgaaCsG
namespace Go.Proofs.Ytgaohmmhpcgkgaa
open Go.RowKit

/-- The class of a name. -/
def clsOf (l : List UInt8) : Option CS :=
  if l = [97, 108, 110, 117, 109] then some (((CS.range 48 57).or (CS.range 65 90)).or (CS.range 97 122))
  else if l = [97, 108, 112, 104, 97] then some ((CS.empty.or (CS.range 65 90)).or (CS.range 97 122))
  else if l = [108, 111, 119, 101, 114] then some (CS.empty.or (CS.range 97 122))
  else if l = [120, 100, 105, 103, 105, 116] then some (((CS.range 97 102).or (CS.range 65 70)).or (CS.range 48 57))
  else if l = [100, 105, 103, 105, 116] then some (CS.empty.or (CS.range 48 57))
  else if l = [117, 112, 112, 101, 114] then some (CS.range 65 90)
  else if l = [115, 112, 97, 99, 101] then some ((CS.range 10 13).or ((CS.range 9 9).or (CS.range 32 32)))
  else if l = [98, 108, 97, 110, 107] then some (CS.empty.or ((CS.range 9 9).or (CS.range 32 32)))
  else if l = [112, 114, 105, 110, 116] then some ((CS.range 32 32).or (CS.range 33 126))
  else if l = [103, 114, 97, 112, 104] then some (CS.empty.or (CS.range 33 126))
  else if l = [112, 117, 110, 99, 116] then some (((CS.range 33 126).not.or (((CS.range 48 57).or (CS.range 65 90)).or (CS.range 97 122))).not)
  else if l = [99, 110, 116, 114, 108] then some ((CS.range 0 31).or (CS.range 127 127))
  else none
theorem toList_mk (l : List UInt8) : (ByteArray.mk l.toArray).toList = l := by simp
def clsV (o : Option CS) : CS := o.getD CS.empty
theorem class_any (w : World) (l : List UInt8) : Calls Try.prog 13 #[.string ⟨l.toArray⟩] w fun e w' => e = .returned (.tuple #[(clsV (clsOf l)).val, .bool (clsOf l).isSome]) ∧ Kept (fun _ => False) w w' := by
  by_cases e0 : l = [97, 108, 110, 117, 109]
  · subst e0; exact class_alnum w
  by_cases e1 : l = [97, 108, 112, 104, 97]
  · subst e1; exact class_alpha w
  by_cases e2 : l = [108, 111, 119, 101, 114]
  · subst e2; exact class_lower w
  by_cases e3 : l = [120, 100, 105, 103, 105, 116]
  · subst e3; exact class_xdigit w
  by_cases e4 : l = [100, 105, 103, 105, 116]
  · subst e4; exact class_digit w
  by_cases e5 : l = [117, 112, 112, 101, 114]
  · subst e5; exact class_upper w
  by_cases e6 : l = [115, 112, 97, 99, 101]
  · subst e6; exact class_space w
  by_cases e7 : l = [98, 108, 97, 110, 107]
  · subst e7; exact class_blank w
  by_cases e8 : l = [112, 114, 105, 110, 116]
  · subst e8; exact class_print w
  by_cases e9 : l = [103, 114, 97, 112, 104]
  · subst e9; exact class_graph w
  by_cases e10 : l = [112, 117, 110, 99, 116]
  · subst e10; exact class_punct w
  by_cases e11 : l = [99, 110, 116, 114, 108]
  · subst e11; exact class_cntrl w
  have hc : clsOf l = none := by unfold clsOf; simp [*]
  have f0 : ((ByteArray.mk l.toArray).toList == [97, 108, 110, 117, 109]) = false := by rw [toList_mk]; simpa using e0
  have f1 : ((ByteArray.mk l.toArray).toList == [97, 108, 112, 104, 97]) = false := by rw [toList_mk]; simpa using e1
  have f2 : ((ByteArray.mk l.toArray).toList == [108, 111, 119, 101, 114]) = false := by rw [toList_mk]; simpa using e2
  have f3 : ((ByteArray.mk l.toArray).toList == [120, 100, 105, 103, 105, 116]) = false := by rw [toList_mk]; simpa using e3
  have f4 : ((ByteArray.mk l.toArray).toList == [100, 105, 103, 105, 116]) = false := by rw [toList_mk]; simpa using e4
  have f5 : ((ByteArray.mk l.toArray).toList == [117, 112, 112, 101, 114]) = false := by rw [toList_mk]; simpa using e5
  have f6 : ((ByteArray.mk l.toArray).toList == [115, 112, 97, 99, 101]) = false := by rw [toList_mk]; simpa using e6
  have f7 : ((ByteArray.mk l.toArray).toList == [98, 108, 97, 110, 107]) = false := by rw [toList_mk]; simpa using e7
  have f8 : ((ByteArray.mk l.toArray).toList == [112, 114, 105, 110, 116]) = false := by rw [toList_mk]; simpa using e8
  have f9 : ((ByteArray.mk l.toArray).toList == [103, 114, 97, 112, 104]) = false := by rw [toList_mk]; simpa using e9
  have f10 : ((ByteArray.mk l.toArray).toList == [112, 117, 110, 99, 116]) = false := by rw [toList_mk]; simpa using e10
  have f11 : ((ByteArray.mk l.toArray).toList == [99, 110, 116, 114, 108]) = false := by rw [toList_mk]; simpa using e11
  rw [hc]
  exact class_none w _ f0 f1 f2 f3 f4 f5 f6 f7 f8 f9 f10 f11
end Go.Proofs.Ytgaohmmhpcgkgaa

/- The contracts of a net's other methods, stated by one word. No conditions. -/
import Derived.Test.YtpdlpiepgeanjaaNetK
namespace Go.Proofs.Ytpdlpiepgeanjaa
open Go.RowKit

theorem NetTo.turn {w w' : World} {b : Nat} {tag : Tags} {n : NV} {lA tA : Option Addr} {lC tC : Nat} {gs : List Nat} {i g : Nat} {v : WV} {conn : Int} (h : NetAt w b tag n lA lC tA tC gs) (hi : conn = ((i : Nat) : Int) + 1) (hT : Turned w tag i g v w') (hg : gs[i]? = some g) (hok : v.ok) : NetTo w b tag (n.turn conn v) w' := by
  have : n.turn conn v = { n with ws := n.ws.set i v } := by unfold NV.turn; rw [hi]; congr 2; omega
  rw [this]
  exact NetTo.turned h hT hg hok
theorem takeN_le (m : Int) (n : Nat) : takeN m n ≤ n := by unfold takeN; omega

def NV.shut (n : NV) (conn : Int) : NV × Int := match n.wire? conn with
  | none => (n, 16)
  | some v => (n.turn conn v.shutW.1, v.shutW.2)
def NV.drop (n : NV) (conn : Int) : NV × Int := match n.wire? conn with
  | none => (n, 16)
  | some v => (n.turn conn v.dropW.1, v.dropW.2)
theorem WV.shut_ok {v : WV} (h : v.ok) : v.shutW.1.ok := by
  suffices key : ∀ p : WV × Int, v.shutW = p → p.1.ok from key _ rfl
  intro p hp
  unfold WV.shutW at hp
  repeat' (split at hp)
  all_goals first
    | (subst hp; exact h)
    | (subst hp; exact WV.settle_ok ⟨h.1, h.2.1, h.2.2⟩)
theorem WV.drop_ok {v : WV} (h : v.ok) : v.dropW.1.ok := by
  suffices key : ∀ p : WV × Int, v.dropW = p → p.1.ok from key _ rfl
  intro p hp
  unfold WV.dropW at hp
  split at hp
  · subst hp; exact h
  · subst hp; exact WV.cut_ok h
theorem nshut_any (w : World) (b : Nat) (tag : Tags) (n : NV) (h : NetIs w b tag n) (conn : Int) :
    Calls Try.prog 17 #[.pointer (some ⟨b, 0, none⟩), .int .i64 conn] w fun x w' => x = .returned (errV (n.shut conn).2) ∧ NetTo w b tag (n.shut conn).1 w' := by
  have hn := h
  obtain ⟨lA, lC, tA, tC, gs, hN⟩ := h
  unfold NV.shut
  cases hw : n.wire? conn with
  | none =>
    refine (shut_none w b tag n lA tA lC tC gs hN conn (NV.wire_none hw)).mono ?_
    rintro x w' ⟨rfl, rfl⟩
    exact ⟨rfl, NetTo.still hn (Kept.refl _ _)⟩
  | some v =>
    obtain ⟨i, hi, hil, hv⟩ := NV.wire_some hw
    obtain ⟨g, hg, -⟩ := hN.get hil
    refine (shut_some w b tag n lA tA lC tC gs hN i g v conn hi hil hg hv).mono ?_
    rintro x w' ⟨rfl, hT⟩
    exact ⟨rfl, NetTo.turn hN hi hT hg (WV.shut_ok (hN.ok v (List.mem_of_getElem? hv)))⟩
theorem ndrop_any (w : World) (b : Nat) (tag : Tags) (n : NV) (h : NetIs w b tag n) (conn : Int) :
    Calls Try.prog 18 #[.pointer (some ⟨b, 0, none⟩), .int .i64 conn] w fun x w' => x = .returned (errV (n.drop conn).2) ∧ NetTo w b tag (n.drop conn).1 w' := by
  have hn := h
  obtain ⟨lA, lC, tA, tC, gs, hN⟩ := h
  unfold NV.drop
  cases hw : n.wire? conn with
  | none =>
    refine (drop_none w b tag n lA tA lC tC gs hN conn (NV.wire_none hw)).mono ?_
    rintro x w' ⟨rfl, rfl⟩
    exact ⟨rfl, NetTo.still hn (Kept.refl _ _)⟩
  | some v =>
    obtain ⟨i, hi, hil, hv⟩ := NV.wire_some hw
    obtain ⟨g, hg, -⟩ := hN.get hil
    refine (drop_some w b tag n lA tA lC tC gs hN i g v conn hi hil hg hv).mono ?_
    rintro x w' ⟨rfl, hT⟩
    exact ⟨rfl, NetTo.turn hN hi hT hg (WV.drop_ok (hN.ok v (List.mem_of_getElem? hv)))⟩

/-- What is read of a connection: bytes, whether it ends, an error's number. -/
def NV.readB (n : NV) (conn most : Int) : List UInt8 × Bool × Int := match n.wire? conn with
  | none => ([], false, 16)
  | some v => if stateC v = 0 then (v.inn.take (takeN most v.inn.length), v.ended && decide (v.inn.length ≤ takeN most v.inn.length), 0) else ([], false, stateC v)
theorem WV.read_ok {v : WV} (h : v.ok) (most : Int) : (v.readW most).ok := WV.settle_ok ⟨h.1, h.2.1, by have := h.2.2; simp; omega⟩
/-- Bytes that do not lie in the net's own memory. -/
def Free (tag : Tags) (A : Option Addr) (l : List UInt8) : Prop := (∀ q, At A q → tag q = none) ∨ l = []
theorem Rd.free {w w' : World} {tag : Tags} {A : Option Addr} {l : List UInt8} (h : Rd w A (bv l)) (hf : Free tag A l) (hk : Kept (fun k => tag k ≠ none) w w') : Rd w' A (bv l) := by
  rcases hf with hf | rfl
  · exact h.kept hk fun g hg hn => hn (hf g hg)
  · exact Rd.nil _ _
def NReadP (w : World) (b : Nat) (tag : Tags) (n : NV) (conn most : Int) (x : Ending) (w' : World) : Prop :=
  ∃ A c, x = .returned (.tuple #[.slice A (n.readB conn most).1.length c, .bool (n.readB conn most).2.1, errV (n.readB conn most).2.2]) ∧ Rd w' A (bv (n.readB conn most).1) ∧ NetIs w' b tag (n.read conn most) ∧ Kept (fun k => tag k ≠ none) w w' ∧ Free tag A (n.readB conn most).1
theorem nread_any (w : World) (b : Nat) (tag : Tags) (n : NV) (h : NetIs w b tag n) (conn most : Int) :
    Calls Try.prog 16 #[.pointer (some ⟨b, 0, none⟩), .int .i64 conn, .int .i64 most] w (NReadP w b tag n conn most) := by
  have hn := h
  obtain ⟨lA, lC, tA, tC, gs, hN⟩ := h
  unfold NReadP NV.readB NV.read
  cases hw : n.wire? conn with
  | none =>
    refine (read_none w b tag n lA tA lC tC gs hN conn most (NV.wire_none hw)).mono ?_
    rintro x w' ⟨rfl, rfl⟩
    exact ⟨_, _, rfl, Rd.nil _ _, hn, Kept.refl _ _, .inr rfl⟩
  | some v =>
    obtain ⟨i, hi, hil, hv⟩ := NV.wire_some hw
    obtain ⟨g, hg, -⟩ := hN.get hil
    by_cases hs : stateC v = 0
    · simp only [if_pos hs]
      refine (read_some w b tag n lA tA lC tC gs hN i g v conn most hi hil hg hv hs).mono ?_
      rintro x w' ⟨A, c, rfl, hr, hT, hq⟩
      refine ⟨A, c, ?_, hr, ?_, hT.1.kept.mono (fun k _ hk => by rcases hk with hk | hk | hk <;> rw [hk] <;> simp), ?_⟩
      · rw [List.length_take, Nat.min_eq_left (takeN_le _ _)]
        rfl
      · have : n.turn conn (v.readW most) = { n with ws := n.ws.set i (v.readW most) } := by unfold NV.turn; rw [hi]; congr 2; omega
        rw [this]
        exact ⟨_, _, _, _, _, hN.step hT.1 hg hT.2 (WV.read_ok (hN.ok v (List.mem_of_getElem? hv)) most)⟩
      · by_cases he : v.inn.take (takeN most v.inn.length) = []
        · exact .inr he
        · refine .inl fun q hAq => ?_
          rcases hq q hAq with h1 | h1
          · cases ht : tag q with
            | none => rfl
            | some t => have := hN.lt q (by rw [ht]; simp); omega
          · exact absurd h1 he
    · simp only [if_neg hs]
      refine (read_not w b tag n lA tA lC tC gs hN i g v conn most hi hil hg hv hs).mono ?_
      rintro x w' ⟨rfl, rfl⟩
      exact ⟨_, _, rfl, Rd.nil _ _, hn, Kept.refl _ _, .inr rfl⟩

def NV.writeC (n : NV) (conn : Int) : Int := match n.wire? conn with
  | none => 16
  | some v => Proofs.Ytpdlpiepgeanjaa.writeC v
def NV.write (n : NV) (conn : Int) (bs : List UInt8) : NV := match n.wire? conn with
  | none => n
  | some v => if Proofs.Ytpdlpiepgeanjaa.writeC v = 0 then n.turn conn (v.writeW bs) else n
def NV.writeK (n : NV) (conn : Int) (m : Nat) : Nat := match n.wire? conn with
  | none => 0
  | some v => if Proofs.Ytpdlpiepgeanjaa.writeC v = 0 then v.room m else 0
theorem WV.write_ok {v : WV} (h : v.ok) (bs : List UInt8) : (v.writeW bs).ok := by
  obtain ⟨h1, h2, h3⟩ := h
  exact ⟨by simp only [WV.writeW, WV.room]; omega, by simp only [WV.writeW, WV.room]; omega, h3⟩
theorem nwrite_any (w : World) (b : Nat) (tag : Tags) (n : NV) (h : NetIs w b tag n) (conn : Int) (B : Option Addr) (bs : List UInt8) (d : Nat)
    (hy : Rd w B (bv bs)) (hd : bs.length ≤ d) (hb : bs.length ≤ 1048576) (hgot : ∀ v ∈ n.ws, v.got.length ≤ 1073741824) :
    Calls Try.prog 13 #[.pointer (some ⟨b, 0, none⟩), .int .i64 conn, .slice B bs.length d] w fun x w' => x = .returned (.tuple #[.int .i64 (n.writeK conn bs.length), errV (n.writeC conn)]) ∧ NetTo w b tag (n.write conn bs) w' := by
  have hn := h
  obtain ⟨lA, lC, tA, tC, gs, hN⟩ := h
  unfold NV.writeC NV.writeK NV.write
  cases hw : n.wire? conn with
  | none =>
    refine (write_none w b tag n lA tA lC tC gs hN conn B bs.length d (NV.wire_none hw)).mono ?_
    rintro x w' ⟨rfl, rfl⟩
    exact ⟨rfl, NetTo.still hn (Kept.refl _ _)⟩
  | some v =>
    obtain ⟨i, hi, hil, hv⟩ := NV.wire_some hw
    obtain ⟨g, hg, -⟩ := hN.get hil
    by_cases hs : Proofs.Ytpdlpiepgeanjaa.writeC v = 0
    · simp only [if_pos hs]
      refine (write_some w b tag n lA tA lC tC gs hN i g v conn B bs d hi hil hg hv hs hy hd hb (hgot v (List.mem_of_getElem? hv))).mono ?_
      rintro x w' ⟨rfl, hT⟩
      exact ⟨by rw [hs]; rfl, NetTo.turn hN hi hT hg (WV.write_ok (hN.ok v (List.mem_of_getElem? hv)) bs)⟩
    · simp only [if_neg hs]
      refine (write_not w b tag n lA tA lC tC gs hN i g v conn B bs.length d hi hil hg hv hs).mono ?_
      rintro x w' ⟨rfl, rfl⟩
      exact ⟨rfl, NetTo.still hn (Kept.refl _ _)⟩
theorem nwire_any (w : World) (b : Nat) (tag : Tags) (n : NV) (h : NetIs w b tag n) (conn : Int) (v : WV) (hw : n.wire? conn = some v) (hgl : v.got.length ≤ 70000) :
    Calls Try.prog 14 #[.pointer (some ⟨b, 0, none⟩), .int .i64 conn] w (WireP w v) := by
  obtain ⟨lA, lC, tA, tC, gs, hN⟩ := h
  obtain ⟨i, hi, hil, hv⟩ := NV.wire_some hw
  obtain ⟨g, hg, -⟩ := hN.get hil
  exact netwire_some w b tag n lA tA lC tC gs hN i g v conn hi hil hg hv hgl
theorem nlen_any (w : World) (b : Nat) (tag : Tags) (n : NV) (h : NetIs w b tag n) :
    Calls Try.prog 12 #[.pointer (some ⟨b, 0, none⟩)] w fun e w' => e = .returned (.int .i64 n.ws.length) ∧ w = w' := by
  obtain ⟨lA, lC, tA, tC, gs, hN⟩ := h
  exact netlen_any w b tag n lA tA lC tC gs hN
theorem nnew_any (w : World) : Calls Try.prog 8 #[] w fun e w' => e = .returned (.pointer (some ⟨w.heap.size, 0, none⟩)) ∧ Kept (fun _ => False) w w' ∧ NetIs w' w.heap.size (tag0 w.heap.size) ⟨0, [], []⟩ :=
  (netnew_any w).mono fun _ _ ⟨h1, h2, h3⟩ => ⟨h1, h2, _, _, _, _, _, NetAt.new h3⟩
theorem nconnect_some (w : World) (b : Nat) (tag : Tags) (n : NV) (h : NetIs w b tag n) (name : ByteArray) (h1 : name.toList.isEmpty = false) (h2 : name.size ≤ 60) (hf : n.ws.length < 64) :
    Calls Try.prog 9 #[.pointer (some ⟨b, 0, none⟩), .string name] w fun e w' => e = .returned (.tuple #[.int .i64 (n.ws.length + 1), .bool true]) ∧ NetTo w b tag { n with ws := n.ws ++ [WV.asked name], told := n.told ++ [true] } w' := by
  obtain ⟨lA, lC, tA, tC, gs, hN⟩ := h
  refine (connect_some w b tag n lA tA lC tC gs hN name h1 h2 hf).mono ?_
  rintro x w' ⟨rfl, hA⟩
  exact ⟨rfl, NetTo.added hA (Nat.le_refl _)⟩
end Go.Proofs.Ytpdlpiepgeanjaa

/- A region that draws its order and whose calls only make new memory may be walked in one order: each read before the calls that it is not bound to. Conditions: no operation panics in that order; behind each operation that may change the world, nothing that was there has turned. -/
import Derived.Test.YtagjdeekiiffjaaGreatDoorText
namespace Go.Proofs.YtagjdeekiiffjaaGreatDoor

/-- Stores: they never turn with a read. -/
def isS (o : Oper) : Bool := match o.op with
  | .store .. => true
  | _ => false
/-- Operations, no stores, that may change the world, but those that `ex` tells (which no read may turn with). -/
def isE (P : Program) (ex : Oper → Bool) (o : Oper) : Bool := !(isP P o || isR P o || isM o || isS o) && !ex o
section
variable {P : Program} {ex : Oper → Bool} {ops : Array Oper} {Q : Exit → Act → World → Prop}
/-- One operation; where it may change the world, it extends it. -/
def opx (P : Program) (ex : Oper → Bool) (ops : Array Oper) (Q : Exit → Act → World → Prop) (o : Oper) (K : Act → World → Prop) (a : Act) (w : World) : Prop :=
  if isE P ex o = true then opw P ops Q o (fun a' w' => Ext w w' ∧ K a' w') a w else opw P ops Q o K a w
theorem opx_mono {o : Oper} {K K' : Act → World → Prop} (h : ∀ a w, K a w → K' a w) {a : Act} {w : World} (hh : opx P ex ops Q o K a w) : opx P ex ops Q o K' a w := by
  unfold opx at *
  split
  · rename_i he; rw [if_pos he] at hh; exact opw_mono (fun a w hk => ⟨hk.1, h _ _ hk.2⟩) hh
  · rename_i he; rw [if_neg he] at hh; exact opw_mono h hh
theorem opx_opw {o : Oper} {K : Act → World → Prop} {a : Act} {w : World} (hh : opx P ex ops Q o K a w) : opw P ops Q o K a w := by
  unfold opx at hh
  split at hh
  · exact opw_mono (fun _ _ hk => hk.2) hh
  · exact hh
theorem opw_off {x y : Oper} {v : Value} (hap : x.apart ops y = true) (hsy : ∀ cs b, y.op ≠ .select cs b) {K : Act → World → Prop} {a : Act} {w : World} (hk : opw P ops Q y K (a.put x.dst v) w) :
    opw P ops Q y (fun a' w' => K (a'.put x.dst v) w') a w := by
  obtain ⟨h1, h2, h3⟩ := Oper.apart_spec hap
  unfold opw at hk ⊢
  rw [wanted_put y a x.dst v h1] at hk
  split
  · rename_i hw
    rw [if_pos hw] at hk
    unfold Oper.wp at *
    rw [execOp_put y hsy a x.dst v h1] at hk
    generalize (execOp a.eval y).run P w = r at *
    cases r with
    | ok n w' =>
      cases n <;> simp only [Oper.upon] at hk ⊢
      case value u => rw [← Act.put_comm a v u h2]; exact hk
      case skip => rw [← Act.put_comm a v undef h2]; exact hk
      case defer d =>
        rw [← Act.put_comm _ v undef h2, ← Act.put_defers]
        exact hk
      case enter f args =>
        refine Calls.mono hk fun e w'' he => ?_
        cases e with
        | returned u => simp only at he ⊢; rw [← Act.put_comm a v u h2]; exact he
        | panicked c => exact he
        | outgrown => exact he
      case row row args => exact Rows.mono hk fun u w'' he => by rw [← Act.put_comm a v u h2]; exact he
    | halt z w' => cases z <;> first | exact hk | exact (hk : False).elim
  · rename_i hw
    rw [if_neg hw] at hk
    rw [← Act.put_comm a v undef h2]
    exact hk
/-- What is yielded at w stays so behind an operation that extends the world. -/
theorem opw_keepX {x y : Oper} {v : Value} (hap : x.apart ops y = true) (hsx : ∀ cs b, x.op ≠ .select cs b) {K : Act → World → Prop} {a : Act} {w : World} (hy : YW P ops x v a w)
    (h : opw P ops Q y (fun a' w' => Ext w w' ∧ K a' w') a w) : opw P ops Q y (fun a' w' => YW P ops x v a' w' ∧ Ext w w' ∧ K a' w') a w := by
  obtain ⟨h1, h2, h3⟩ := Oper.apart_spec hap
  have keep : ∀ u w', Ext w w' → YW P ops x v (a.put y.dst u) w' := fun u w' he => (hy.same (execOp_put x hsx a y.dst u h3) (wanted_put x a y.dst u h3)).ext he
  have keepD : ∀ d u w', Ext w w' → YW P ops x v ({ a with defers := d :: a.defers }.put y.dst u) w' := fun d u w' he =>
    (YW.same (a := { a with defers := d :: a.defers }) (hy.same rfl rfl) (execOp_put x hsx _ y.dst u h3) (wanted_put x _ y.dst u h3)).ext he
  unfold opw at *
  split
  · rename_i hw
    rw [if_pos hw] at h
    unfold Oper.wp at *
    generalize (execOp a.eval y).run P w = r at *
    cases r with
    | ok n w' =>
      cases n <;> simp only [Oper.upon] at h ⊢
      case value u => exact ⟨keep u _ h.1, h⟩
      case skip => exact ⟨keep _ _ h.1, h⟩
      case defer d => exact ⟨keepD d _ _ h.1, h⟩
      case enter f args =>
        refine Calls.mono h fun e w'' he => ?_
        cases e with
        | returned u => exact ⟨keep u _ he.1, he⟩
        | panicked c => exact he
        | outgrown => exact (Nrm.lets he).elim
      case row row args => exact Rows.mono h fun u w'' he => ⟨keep u _ he.1, he⟩
    | halt z w' => cases z <;> first | exact h | exact (h : False).elim
  · rename_i hw
    rw [if_neg hw] at h
    exact ⟨keep _ _ h.1, h⟩

/-- May y, which stands behind x, come ahead of it? -/
def mayTurnX (P : Program) (ex : Oper → Bool) (ops : Array Oper) (x y : Oper) : Bool :=
  x.apart ops y && y.apart ops x && ((isP P x || isP P y) || ((isR P x && isR P y) || (isR P x && isM y || isM x && isR P y)) || (isR P x && isE P ex y))

theorem opx_swap {x y : Oper} (ht : mayTurnX P ex ops x y = true) (hsx : ∀ cs b, x.op ≠ .select cs b) (hsy : ∀ cs b, y.op ≠ .select cs b) {K : Act → World → Prop} {a : Act} {w : World}
    (h : opx P ex ops Q x (opx P ex ops Q y K) a w) : opx P ex ops Q y (opx P ex ops Q x K) a w := by
  simp only [mayTurnX, Bool.and_eq_true, Bool.or_eq_true] at ht
  obtain ⟨⟨hxy, hyx⟩, hc⟩ := ht
  have pe : ∀ o : Oper, isP P o = true → isE P ex o = false := fun o ho => by simp [isE, ho]
  have re : ∀ o : Oper, isR P o = true → isE P ex o = false := fun o ho => by simp [isE, ho]
  have me : ∀ o : Oper, isM o = true → isE P ex o = false := fun o ho => by simp [isE, ho]
  have plain : isE P ex x = false → isE P ex y = false → mayTurn P ops x y = true → opx P ex ops Q y (opx P ex ops Q x K) a w := by
    intro hx hy hm
    unfold opx at h ⊢
    simp only [hx, hy, Bool.false_eq_true, if_false] at h ⊢
    exact opw_swap hm hsx hsy h
  by_cases hpx : isP P x = true
  · by_cases hey : isE P ex y = true
    · unfold opx at h ⊢
      simp only [pe x hpx, hey, Bool.false_eq_true, if_false, if_true] at h ⊢
      obtain ⟨v, hv, hk⟩ := opw_P hpx h
      have h2 := opw_keep hxy hsx hv (opw_off hxy hsy hk)
      exact opw_mono (fun a' w' hh => ⟨hh.2.1, (Yields.yw hh.1 w').opw hh.2.2⟩) h2
    · exact plain (pe x hpx) (by simpa using hey) (by simp [mayTurn, hxy, hyx, hpx])
  · by_cases hpy : isP P y = true
    · by_cases hex : isE P ex x = true
      · unfold opx at h ⊢
        simp only [pe y hpy, hex, Bool.false_eq_true, if_false, if_true] at h ⊢
        have h1 : opw P ops Q x (opw P ops Q y (fun a' w' => Ext w w' ∧ K a' w')) a w := opw_mono (fun a' w' hh => by
          obtain ⟨u, hu, hk⟩ := opw_P hpy hh.2
          exact (Yields.yw hu w').opw ⟨hh.1, hk⟩) h
        have h2 := opw_swap (by simp [mayTurn, hxy, hyx, hpy]) hsx hsy h1
        obtain ⟨u, hu, hk⟩ := opw_P hpy h2
        exact (Yields.yw hu w).opw hk
      · exact plain (by simpa using hex) (pe y hpy) (by simp [mayTurn, hxy, hyx, hpy])
    · rcases hc with (hc | hc) | hc
      · rcases hc with hc | hc
        · exact absurd hc hpx
        · exact absurd hc hpy
      · refine plain ?_ ?_ (by simp only [mayTurn, Bool.and_eq_true, Bool.or_eq_true]; exact ⟨⟨hxy, hyx⟩, .inr hc⟩)
        · rcases hc with hc | hc | hc
          · exact re x hc.1
          · exact re x hc.1
          · exact me x hc.1
        · rcases hc with hc | hc | hc
          · exact re y hc.2
          · exact me y hc.2
          · exact re y hc.2
      · unfold opx at h ⊢
        simp only [re x hc.1, hc.2, Bool.false_eq_true, if_false, if_true] at h ⊢
        obtain ⟨v, hv, hk⟩ := opw_R hc.1 h
        have h2 := opw_keepX hxy hsx hv (opw_off hxy hsy hk)
        exact opw_mono (fun a' w' hh => ⟨hh.2.1, hh.1.opw hh.2.2⟩) h2

/-- The operations of a list, one behind the other. -/
def opsX (P : Program) (ex : Oper → Bool) (ops : Array Oper) (Q : Exit → Act → World → Prop) : List Nat → Act → World → Prop
  | [], a, w => Q .normal a w
  | i :: rest, a, w => match ops[i]? with
    | none => False
    | some o => opx P ex ops Q o (opsX P ex ops Q rest) a w

/-- May the region be walked in the order s? -/
def eagerOk (P : Program) (ex : Oper → Bool) (ops : Array Oper) (s : List Nat) : Bool :=
  let B := Region.before ops
  decide (s.length = ops.size) && decide s.Nodup && (s.all fun i => decide (i < ops.size)) && ((List.range ops.size).all fun i => s.contains i) &&
  (List.range s.length).all fun p =>
    match s[p]? with
    | none => false
    | some i => match ops[i]? with
      | none => false
      | some o =>
        (match o.op with | .select .. => false | _ => true) &&
        (o.after.all fun e => !Region.binds .any e || (s.take p).contains e.on) &&
        (List.range ops.size).all fun j =>
          if (B.getD i 0).testBit j then (s.take p).contains j && (o.after.any fun e => Region.binds .any e && (e.on == j || (B.getD e.on 0).testBit j))
          else !(s.take p).contains j || match ops[j]? with
            | none => false
            | some x => mayTurnX P ex ops x o

theorem nodup_inj {s : List Nat} (hn : s.Nodup) {a b : Nat} (ha : a < s.length) (hb : b < s.length) (h : s[a] = s[b]) : a = b := by
  have hp := List.pairwise_iff_getElem.1 hn
  rcases Nat.lt_trichotomy a b with h1 | h1 | h1
  · exact absurd h (hp a b ha hb h1)
  · exact h1
  · exact absurd h.symm (hp b a hb ha h1)
/-- j stands ahead of i in s. -/
def Bef (s : List Nat) (j i : Nat) : Prop := ∀ p, s[p]? = some i → j ∈ s.take p
theorem bef_pairwise {s : List Nat} (hn : s.Nodup) : s.Pairwise (Bef s) := by
  rw [List.pairwise_iff_getElem]
  intro a b ha hb hab p hp
  have hpl : p < s.length := (List.getElem?_eq_some_iff.1 hp).1
  have hpe : s[p] = s[b] := (List.getElem?_eq_some_iff.1 hp).2
  have hpb : p = b := nodup_inj hn hpl hb hpe
  subst hpb
  rw [List.mem_take_iff_getElem]
  exact ⟨a, by omega, rfl⟩
theorem take_pos {s : List Nat} {p : Nat} {j : Nat} (hj : j ∈ s.take p) : ∃ q, q < p ∧ s[q]? = some j := by
  rw [List.mem_take_iff_getElem] at hj
  obtain ⟨q, hq, rfl⟩ := hj
  exact ⟨q, by omega, List.getElem?_eq_getElem (by omega)⟩
theorem pos_inj {s : List Nat} (hn : s.Nodup) {p q : Nat} {i : Nat} (hp : s[p]? = some i) (hq : s[q]? = some i) : p = q := by
  obtain ⟨h1, e1⟩ := List.getElem?_eq_some_iff.1 hp
  obtain ⟨h2, e2⟩ := List.getElem?_eq_some_iff.1 hq
  exact nodup_inj hn h1 h2 (e1.trans e2.symm)

theorem eagerOk_spec {s : List Nat} (h : eagerOk P ex ops s = true) : s.Nodup ∧ (∀ i, i ∈ s ↔ i < ops.size) ∧ s.length = ops.size ∧
    ∀ p i o, s[p]? = some i → ops[i]? = some o → (∀ cs b, o.op ≠ .select cs b) ∧ (∀ e ∈ o.after, Region.binds .any e = true → e.on ∈ s.take p) ∧
      ∀ j, j < ops.size → (((Region.before ops).getD i 0).testBit j = true ∧ ∃ e ∈ o.after, Region.binds .any e = true ∧ (e.on = j ∨ ((Region.before ops).getD e.on 0).testBit j = true)) ∨
        (((Region.before ops).getD i 0).testBit j = false ∧ (j ∈ s.take p → ∃ x, ops[j]? = some x ∧ mayTurnX P ex ops x o = true)) := by
  unfold eagerOk at h
  simp only [Bool.and_eq_true, decide_eq_true_eq] at h
  obtain ⟨⟨⟨⟨hlen, hnd⟩, hall⟩, hcov⟩, hrest⟩ := h
  have hsub : ∀ i ∈ s, i < ops.size := fun i hi => by simpa using List.all_eq_true.1 hall i hi
  have hmem : ∀ i, i ∈ s ↔ i < ops.size := by
    intro i
    refine ⟨hsub i, fun hi => ?_⟩
    simpa using List.all_eq_true.1 hcov i (List.mem_range.2 hi)
  refine ⟨hnd, hmem, hlen, fun p i o hp ho => ?_⟩
  have hpl : p < s.length := (List.getElem?_eq_some_iff.1 hp).1
  have h1 := List.all_eq_true.1 hrest p (List.mem_range.2 hpl)
  simp only [hp, ho, Bool.and_eq_true] at h1
  obtain ⟨⟨h2, h3⟩, h4⟩ := h1
  refine ⟨fun cs b hc => by simp [hc] at h2, fun e he hb => ?_, fun j hj => ?_⟩
  · have := Array.all_eq_true_iff_forall_mem.1 h3 e he
    simpa [hb] using this
  · have h5 := List.all_eq_true.1 h4 j (List.mem_range.2 hj)
    by_cases hb : ((Region.before ops).getD i 0).testBit j = true
    · rw [if_pos hb] at h5
      simp only [Bool.and_eq_true] at h5
      obtain ⟨e, he, h6⟩ := Array.any_eq_true'.1 h5.2
      simp only [Bool.and_eq_true, Bool.or_eq_true, beq_iff_eq] at h6
      exact .inl ⟨hb, e, he, h6.1, h6.2⟩
    · rw [if_neg hb] at h5
      right
      refine ⟨by simpa using hb, fun hin => ?_⟩
      have hc : (s.take p).contains j = true := by simpa using hin
      rw [hc] at h5
      cases hx : ops[j]? with
      | none => simp [hx] at h5
      | some x => simp only [hx, Bool.not_true, Bool.false_or] at h5; exact ⟨x, rfl, h5⟩

theorem opsX_front {i : Nat} {o : Oper} (hi : ops[i]? = some o) (hsi : ∀ cs b, o.op ≠ .select cs b) (post : List Nat) : ∀ (pre : List Nat), (∀ j ∈ pre, ∃ x, ops[j]? = some x ∧ mayTurnX P ex ops x o = true ∧ ∀ cs b, x.op ≠ .select cs b) →
    ∀ (a : Act) (w : World), opsX P ex ops Q (pre ++ i :: post) a w → opx P ex ops Q o (opsX P ex ops Q (pre ++ post)) a w := by
  intro pre
  induction pre with
  | nil =>
    intro _ a w hh
    simpa only [List.nil_append, opsX, hi] using hh
  | cons j pre ih =>
    intro hp a w hh
    obtain ⟨x, hx, ht, hsx⟩ := hp j (by simp)
    simp only [List.cons_append, opsX, hx] at hh ⊢
    exact opx_swap ht hsx hsi (opx_mono (fun a w => ih (fun k hk => hp k (by simp [hk])) a w) hh)

theorem wpAny_eager {s : List Nat} (h : eagerOk P ex ops s = true) : ∀ (fuel : Nat) (listed : Array Bool) (rest : List Nat) (a : Act) (w : World),
    listed.size = ops.size → rest.length = fuel → rest.Pairwise (Bef s) → rest.Nodup → (∀ i, i ∈ rest ↔ i ∈ s ∧ listed.getD i true = false) →
    (∀ i j, listed.getD i false = true → j < ops.size → ((Region.before ops).getD i 0).testBit j = true → listed.getD j false = true) →
    opsX P ex ops Q rest a w → wpAny P .any ops Q fuel listed a w := by
  obtain ⟨hnd, hmem, hlen, hspec⟩ := eagerOk_spec h
  have none_ : ∀ (listed : Array Bool) (rest : List Nat), listed.size = ops.size → rest.Pairwise (Bef s) → (∀ i, i ∈ rest ↔ i ∈ s ∧ listed.getD i true = false) →
      Region.ready .any ops listed = [] → rest = [] := by
    intro listed rest hsz hp hm hr
    cases rest with
    | nil => rfl
    | cons i r =>
      exfalso
      obtain ⟨his, hun⟩ := (hm i).1 (by simp)
      obtain ⟨o, ho⟩ : ∃ o, ops[i]? = some o := ⟨_, Array.getElem?_eq_getElem ((hmem i).1 his)⟩
      obtain ⟨p, hpi⟩ := List.mem_iff_getElem?.1 his
      have : i ∈ Region.ready .any ops listed := by
        rw [mem_ready]
        refine ⟨hun, o, ho, fun e he hb => ?_⟩
        have hin := (hspec p i o hpi ho).2.1 e he hb
        obtain ⟨q, hq, hqe⟩ := take_pos hin
        have hes : e.on ∈ s := List.mem_of_getElem? hqe
        have hnot : ¬ e.on ∈ i :: r := by
          intro hin2
          rcases List.mem_cons.1 hin2 with h1 | h1
          · rw [h1] at hqe
            have := pos_inj hnd hqe hpi
            omega
          · have hbef := (List.pairwise_cons.1 hp).1 _ h1
            obtain ⟨q2, hq2, hq2e⟩ := take_pos (hbef q hqe)
            have := pos_inj hnd hq2e hpi
            omega
        rw [hm] at hnot
        have hlt2 : e.on < listed.size := by have := (hmem e.on).1 hes; omega
        have : listed.getD e.on true ≠ false := fun hc => hnot ⟨hes, hc⟩
        simp only [Array.getD_eq_getD_getElem?, Array.getElem?_eq_getElem hlt2, Option.getD_some] at this ⊢
        simpa using this
      rw [hr] at this
      cases this
  intro fuel
  induction fuel with
  | zero =>
    intro listed rest a w hsz hl hp hrn hm hcl hh
    obtain rfl : rest = [] := List.eq_nil_of_length_eq_zero hl
    refine ⟨?_, hh⟩
    apply List.eq_nil_iff_forall_not_mem.2
    intro i hi
    obtain ⟨hun, o, ho, _⟩ := mem_ready.1 hi
    have := (hm i).2 ⟨(hmem i).2 (Array.getElem?_eq_some_iff.1 ho).1, hun⟩
    cases this
  | succ fuel ih =>
    intro listed rest a w hsz hl hp hrn hm hcl hh
    refine ⟨fun hr => ?_, fun i hi => ?_⟩
    · have := none_ listed rest hsz hp hm hr
      subst this
      cases hl
    · obtain ⟨hun, o, ho, hdep⟩ := mem_ready.1 hi
      have hlt : i < ops.size := (Array.getElem?_eq_some_iff.1 ho).1
      have his : i ∈ s := (hmem i).2 hlt
      have hin : i ∈ rest := (hm i).2 ⟨his, hun⟩
      obtain ⟨p, hpi⟩ := List.mem_iff_getElem?.1 his
      have hanc : ∀ j, j < ops.size → ((Region.before ops).getD i 0).testBit j = true → listed.getD j false = true := by
        intro j hj hb
        rcases (hspec p i o hpi ho).2.2 j hj with ⟨_, e, he, hbd, hc⟩ | hc
        · have hl1 := hdep e he hbd
          rcases hc with rfl | hc
          · exact hl1
          · exact hcl e.on j hl1 hj hc
        · rw [hb] at hc
          cases hc.1
      obtain ⟨pre, post, rfl⟩ := List.append_of_mem hin
      have hp1 := List.pairwise_append.1 hp
      have hp2 := List.pairwise_cons.1 hp1.2.1
      have hn1 := List.nodup_append.1 hrn
      have hpre : ∀ j ∈ pre, ∃ x, ops[j]? = some x ∧ mayTurnX P ex ops x o = true ∧ ∀ cs b, x.op ≠ .select cs b := by
        intro j hj
        have hbef : Bef s j i := hp1.2.2 j hj i (by simp)
        have hjs := ((hm j).1 (by simp [hj]))
        have hjl : j < ops.size := (hmem j).1 hjs.1
        rcases (hspec p i o hpi ho).2.2 j hjl with ⟨hb, _⟩ | hx
        · have h1 := hanc j hjl hb
          have h2 := hjs.2
          have hlt2 : j < listed.size := by omega
          simp only [Array.getD_eq_getD_getElem?, Array.getElem?_eq_getElem hlt2, Option.getD_some] at h1 h2
          rw [h1] at h2
          cases h2
        · obtain ⟨x, hx1, hx2⟩ := hx.2 (hbef p hpi)
          obtain ⟨q, hq⟩ := List.mem_iff_getElem?.1 hjs.1
          exact ⟨x, hx1, hx2, (hspec q j x hq hx1).1⟩
      have h1 := opsX_front ho (hspec p i o hpi ho).1 post pre hpre a w hh
      have h2 : opw P ops Q o (wpAny P .any ops Q fuel (listed.setIfInBounds i true)) a w := by
        refine opw_mono (fun a' w' h3 => ih (listed.setIfInBounds i true) (pre ++ post) a' w' (by simpa using hsz) (by simp at hl ⊢; omega) ?_ ?_ ?_ ?_ h3) (opx_opw h1)
        · exact List.pairwise_append.2 ⟨hp1.1, hp2.2, fun x hx y hy => hp1.2.2 x hx y (by simp [hy])⟩
        · refine List.nodup_append.2 ⟨hn1.1, (List.nodup_cons.1 hn1.2.1).2, fun x hx y hy => hn1.2.2 x hx y (by simp [hy])⟩
        · intro k
          by_cases hki : k = i
          · subst hki
            have n1 : k ∉ pre := fun hk => hn1.2.2 k hk k (by simp) rfl
            have n2 : k ∉ post := (List.nodup_cons.1 hn1.2.1).1
            simp [n1, n2, hsz, hlt]
          · rw [getD_set_ne true (Ne.symm hki), ← hm k]
            simp [hki]
        · intro k j hk hjl hb
          by_cases hki : k = i
          · subst hki
            exact getD_set_true (hanc j hjl hb)
          · rw [getD_set_ne false (Ne.symm hki)] at hk
            exact getD_set_true (hcl k j hk hjl hb)
      have h3 := (opw_of ho).2 h2
      unfold wpOp at h3 ⊢
      simp only [ho] at h3 ⊢
      split
      · rename_i hw
        rw [if_pos hw] at h3
        rcases h3 with h3 | h3
        · left
          unfold Oper.wp at *
          generalize (execOp a.eval o).run P w = r at *
          cases r with
          | ok n w' =>
            cases n <;> simp only [Oper.upon] at h3 ⊢ <;> try exact h3
            case enter f args =>
              refine Calls.mono h3 fun e w'' he => ?_
              cases e with
              | returned v => exact he
              | panicked c => exact (he : False).elim
              | outgrown => exact (Nrm.lets he).elim
          | halt z w' => cases z <;> first | exact h3 | exact (h3 : False).elim
        · exact (Nrm.lets h3.2).elim
      · rename_i hw
        rw [if_neg hw] at h3
        exact h3

/-- Pieces of the region, each walked as a list; behind a marked one nothing that was there has turned. -/
def wpSegs (P : Program) (ops : Array Oper) (Q : Exit → Act → World → Prop) : List (Bool × List Nat) → Act → World → Prop
  | [], a, w => Q .normal a w
  | (b, is) :: rest, a, w => wpList P ops (Nrm fun _ a' w' => (b = true → Ext w w') ∧ wpSegs P ops Q rest a' w') (is.filterMap fun i => ops[i]?) a w

/-- A marked piece is one operation that may change the world; in the others there is none. -/
def shapeOk (P : Program) (ex : Oper → Bool) (ops : Array Oper) (sh : List (Bool × List Nat)) : Bool :=
  sh.all fun x => match x with
    | (true, [i]) => match ops[i]? with
      | some _ => true
      | none => false
    | (true, _) => false
    | (false, is) => is.all fun i => match ops[i]? with
      | some o => !isE P ex o
      | none => false

theorem opw_post {o : Oper} {Q1 Q2 : Exit → Act → World → Prop} {K : Act → World → Prop} {a : Act} {w : World} (h : opw P ops Q1 o K a w) : opw P ops Q2 o K a w := by
  unfold opw at *
  split
  · rename_i hw
    rw [if_pos hw] at h
    unfold Oper.wp at *
    generalize (execOp a.eval o).run P w = r at *
    cases r with
    | ok n w' =>
      cases n <;> simp only [Oper.upon] at h ⊢ <;> exact h
    | halt z w' => cases z <;> first | exact h | exact (h : False).elim
  · rename_i hw
    rw [if_neg hw] at h
    exact h
theorem wpList_opw {Q1 : Exit → Act → World → Prop} {o : Oper} {l : List Oper} {a : Act} {w : World} (h : wpList P ops (Nrm Q1) (o :: l) a w) : opw P ops Q o (wpList P ops (Nrm Q1) l) a w := by
  unfold opw
  simp only [wpList] at h
  split
  · rename_i hw
    rw [if_pos hw] at h
    have h1 := h.resolve_right fun hh => Nrm.lets hh.2
    have h2 : opw P ops Q1 o (wpList P ops (Nrm Q1) l) a w := by
      unfold opw
      rw [if_pos hw]
      exact h1
    have h3 := opw_post (Q2 := Q) h2
    unfold opw at h3
    rw [if_pos hw] at h3
    exact h3
  · rename_i hw
    rw [if_neg hw] at h
    exact h

theorem opsX_append {K : Act → World → Prop} (r : List Nat) (hr : ∀ a w, K a w → opsX P ex ops Q r a w) : ∀ (is : List Nat), (is.all fun i => match ops[i]? with | some o => !isE P ex o | none => false) = true →
    ∀ a w, wpList P ops (Nrm fun _ a' w' => K a' w') (is.filterMap fun i => ops[i]?) a w → opsX P ex ops Q (is ++ r) a w := by
  intro is
  induction is with
  | nil => intro _ a w h; exact hr a w h
  | cons i is ih =>
    intro hall a w h
    simp only [List.all_cons, Bool.and_eq_true] at hall
    cases ho : ops[i]? with
    | none => rw [ho] at hall; cases hall.1
    | some o =>
      rw [ho] at hall
      rw [List.filterMap_cons, ho] at h
      simp only [List.cons_append, opsX, ho]
      unfold opx
      have he : isE P ex o = false := by simpa using hall.1
      rw [he]
      simp only [Bool.false_eq_true, if_false]
      exact opw_mono (fun a w hk => ih hall.2 a w hk) (wpList_opw h)

theorem opsX_segs : ∀ (sh : List (Bool × List Nat)), shapeOk P ex ops sh = true → ∀ a w, wpSegs P ops Q sh a w → opsX P ex ops Q (sh.flatMap (·.2)) a w := by
  intro sh
  induction sh with
  | nil => intro _ a w h; exact h
  | cons x sh ih =>
    intro hok a w h
    obtain ⟨b, is⟩ := x
    simp only [shapeOk, List.all_cons, Bool.and_eq_true] at hok
    rw [List.flatMap_cons]
    cases b with
    | false =>
      exact opsX_append (K := fun a' w' => (false = true → Ext w w') ∧ wpSegs P ops Q sh a' w') _ (fun a' w' hk => ih hok.2 a' w' hk.2) is hok.1 a w h
    | true =>
      match is, hok.1 with
      | [i], h1 =>
        cases ho : ops[i]? with
        | none => simp [ho] at h1
        | some o =>
          simp only [wpSegs, List.filterMap_cons, ho, List.filterMap_nil] at h
          simp only [List.cons_append, List.nil_append, opsX, ho]
          have h2 := wpList_opw (Q := Q) h
          have h3 : opw P ops Q o (fun a' w' => Ext w w' ∧ opsX P ex ops Q (sh.flatMap (·.2)) a' w') a w := opw_mono (fun a' w' hk => by
            have hk' : (True → Ext w w') ∧ wpSegs P ops Q sh a' w' := hk
            exact ⟨hk'.1 trivial, ih hok.2 a' w' hk'.2⟩) h2
          unfold opx
          split
          · exact h3
          · exact opw_mono (fun _ _ hk => hk.2) h3
      | [], h1 => cases h1
      | _ :: _ :: _, h1 => cases h1

/-- A region that draws its order, walked piece by piece. -/
theorem wp_region_eagerT (ex : Oper → Bool) {id : Nat} {l : List Oper} {a : Act} {w : World} (sh : List (Bool × List Nat)) (hm : P.follows .mixedOrders = true) (hok : (eagerOk P ex l.toArray (sh.flatMap (·.2)) && shapeOk P ex l.toArray sh) = true)
    (h : wpSegs P l.toArray Q sh a w.drew) : (Code.region id l.toArray true).wp P Q a w := by
  rw [Bool.and_eq_true] at hok
  obtain ⟨hnd, hmem, hlen, _⟩ := eagerOk_spec hok.1
  refine wp_region_any hm (wpAny_eager hok.1 _ _ (sh.flatMap (·.2)) a _ (by simp) hlen (bef_pairwise hnd) hnd ?_ ?_ (opsX_segs sh hok.2 a _ h))
  · intro i
    constructor
    · intro hi
      refine ⟨hi, ?_⟩
      simp only [Array.getD_eq_getD_getElem?]
      rw [Array.getElem?_replicate, if_pos ((hmem i).1 hi)]
      rfl
    · exact fun hi => hi.1
  · intro i j hi
    simp only [Array.getD_eq_getD_getElem?, Array.getElem?_replicate] at hi
    split at hi <;> simp at hi
theorem wp_region_eager {id : Nat} {l : List Oper} {a : Act} {w : World} (sh : List (Bool × List Nat)) (hm : P.follows .mixedOrders = true) (hok : (eagerOk P (fun _ => false) l.toArray (sh.flatMap (·.2)) && shapeOk P (fun _ => false) l.toArray sh) = true)
    (h : wpSegs P l.toArray Q sh a w.drew) : (Code.region id l.toArray true).wp P Q a w := wp_region_eagerT _ sh hm hok h
/-- Calls of the function f. -/
def exF (f : FuncId) (o : Oper) : Bool := match o.op with
  | .call c => match c.callee with
    | .value (.func g) => g == f
    | _ => false
  | _ => false
/-- Appends. -/
def exA (o : Oper) : Bool := match o.op with
  | .call c => match c.callee with
    | .builtin .append => true
    | _ => false
  | _ => false
end
end Go.Proofs.YtagjdeekiiffjaaGreatDoor

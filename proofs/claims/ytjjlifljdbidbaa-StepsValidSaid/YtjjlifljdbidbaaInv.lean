/- A region that draws its order, by what holds behind each set of its operations. Conditions: each operation keeps it. -/
import Derived.Test.YtjjlifljdbidbaaEager
namespace Go.Proofs.Ytjjlifljdbidbaa

/-- One operation more is done. -/
def upd (d : Nat → Bool) (i : Nat) : Nat → Bool := fun j => j == i || d j
/-- The operations that must be done ahead of one. -/
def depsOf (o : Oper) : List Nat := (o.after.toList.filter fun e => Region.binds .any e).map (·.on)
/-- Each operation waits for earlier ones alone. -/
def backOk (l : List Oper) : Bool := (List.range l.length).all fun i => match l[i]? with
  | some o => (depsOf o).all fun j => decide (j < i)
  | none => true
/-- The act with these values in these slots. -/
def putAll (a : Act) : List Nat → List Value → Act
  | t :: ts, v :: vs => putAll (a.put (some t) v) ts vs
  | _, _ => a
section
variable {P : Program} {ops : Array Oper} {Q : Exit → Act → World → Prop}

theorem depsOf_all {o : Oper} {d : Nat → Bool} : (depsOf o).all d = true ↔ ∀ e ∈ o.after, Region.binds .any e = true → d e.on = true := by
  simp only [depsOf, List.all_map, List.all_filter, List.all_eq_true, Array.mem_toList_iff, Function.comp, Bool.or_eq_true, Bool.not_eq_true']
  constructor
  · intro h e he hb
    rcases h e he with h | h
    · rw [hb] at h; cases h
    · exact h
  · intro h e he
    cases hb : Region.binds .any e
    · exact .inl rfl
    · exact .inr (h e he hb)

theorem wpAny_inv {l : List Oper} (I : (Nat → Bool) → Act → World → Prop) (hb : backOk l = true)
    (hs : ∀ i o, l[i]? = some o → ∀ d a w, d i = false → (depsOf o).all d = true → I d a w → opw P l.toArray Q o (I (upd d i)) a w)
    (he : ∀ d a w, (∀ i, i < l.length → d i = true) → I d a w → Q .normal a w) :
    ∀ (fuel : Nat) (listed : Array Bool) (a : Act) (w : World), listed.size = l.length → listed.count false ≤ fuel → I (fun i => listed.getD i false) a w →
      wpAny P .any l.toArray (Nrm Q) fuel listed a w := by
  have hall : ∀ (listed : Array Bool), listed.size = l.length → Region.ready .any l.toArray listed = [] → ∀ n i, i < n → i < l.length → listed.getD i false = true := by
    intro listed hsz hr n
    induction n with
    | zero => intro i hi; omega
    | succ n ih =>
      intro i hi hl
      cases hx : listed.getD i false with
      | true => rfl
      | false =>
        exfalso
        have ho : l[i]? = some l[i] := List.getElem?_eq_getElem hl
        have hbi := List.all_eq_true.1 hb i (List.mem_range.2 hl)
        rw [ho] at hbi
        have hmem : i ∈ Region.ready .any l.toArray listed := by
          unfold Region.ready
          refine List.mem_filter.2 ⟨List.mem_range.2 (by simpa using hl), ?_⟩
          have h1 : listed.getD i true = false := by
            have hlt : i < listed.size := by omega
            simp only [Array.getD, hlt, dite_true] at hx ⊢
            exact hx
          rw [h1]
          simp only [List.getElem?_toArray, ho, Option.map_some, Option.getD_some, Bool.not_false, Bool.true_and, Array.all_eq_true_iff_forall_mem, Bool.or_eq_true, Bool.not_eq_true']
          intro e hem
          cases hbd : Region.binds .any e
          · exact .inl rfl
          · refine .inr ?_
            have hon : e.on < i := by
              have := List.all_eq_true.1 hbi e.on (by simp only [depsOf, List.mem_map, List.mem_filter, Array.mem_toList_iff]; exact ⟨e, ⟨hem, hbd⟩, rfl⟩)
              simpa using this
            exact ih e.on (by omega) (by omega)
        rw [hr] at hmem
        cases hmem
  intro fuel
  induction fuel with
  | zero =>
    intro listed a w hsz hc hI
    have hc0 : listed.count false = 0 := by omega
    have hno : ∀ i, i < l.length → listed.getD i false = true := by
      intro i hi
      have hlt : i < listed.size := by omega
      simp only [Array.getD, hlt, dite_true]
      cases hx : listed[i] with
      | true => exact hx
      | false => exact absurd (hx ▸ Array.getElem_mem hlt) (Array.count_eq_zero.1 hc0)
    refine ⟨?_, nrm (he _ _ _ hno hI)⟩
    unfold Region.ready
    refine List.filter_eq_nil_iff.2 fun i hi => ?_
    have hi' : i < l.length := by simpa using List.mem_range.1 hi
    have hlt : i < listed.size := by omega
    have := hno i hi'
    simp only [Array.getD, hlt, dite_true] at this ⊢
    have h2 : listed[i] = true := this
    simp [h2]
  | succ fuel ih =>
    intro listed a w hsz hc hI
    refine ⟨fun hr => nrm (he _ _ _ (fun i hi => hall listed hsz hr (i + 1) i (by omega) hi) hI), ?_⟩
    intro i hi
    unfold Region.ready at hi
    obtain ⟨h1, h2⟩ := List.mem_filter.1 hi
    have hl : i < l.length := by simpa using List.mem_range.1 h1
    have hlt : i < listed.size := by omega
    have ho : l[i]? = some l[i] := List.getElem?_eq_getElem hl
    rw [Bool.and_eq_true] at h2
    obtain ⟨h3, h4⟩ := h2
    simp only [List.getElem?_toArray, ho, Option.map_some, Option.getD_some, Array.all_eq_true_iff_forall_mem, Bool.or_eq_true, Bool.not_eq_true'] at h4
    have hf : listed[i] = false := by
      simp only [Array.getD, hlt, dite_true, Bool.not_eq_true'] at h3
      exact h3
    have hd : listed.getD i false = false := by
      simp only [Array.getD, hlt, dite_true]
      exact hf
    rw [opw_of (o := l[i]) (by rw [List.getElem?_toArray]; exact ho)]
    refine opw_mono (fun a' w' hk => ih _ _ _ (by simpa using hsz) ?_ ?_) (hs i l[i] ho _ a w hd (depsOf_all.2 fun e hem hbd => ?_) hI)
    · have hpos : 0 < listed.count false := Array.count_pos_iff.2 (hf ▸ Array.getElem_mem hlt)
      have : (listed.setIfInBounds i true).count false = listed.count false - 1 := by
        rw [Array.setIfInBounds, dif_pos hlt, Array.count_set]
        simp [hf]
      omega
    · have : (fun j => (listed.setIfInBounds i true).getD j false) = upd (fun j => listed.getD j false) i := by
        funext j
        simp only [upd, Array.getD_eq_getD_getElem?, Array.getElem?_setIfInBounds]
        by_cases hij : i = j
        · subst hij; simp [hlt]
        · have : (j == i) = false := by simp; omega
          simp [hij, this]
      rw [this]
      exact hk
    · rcases h4 e hem with h | h
      · rw [hbd] at h; cases h
      · exact h

/-- Each operation keeps what holds. -/
def invOps (P : Program) (ops : Array Oper) (a : Act) (slots : List Nat) (R : (Nat → Bool) → List Value → World → Prop) : List Oper → Nat → Prop
  | [], _ => True
  | o :: l, i => (∀ d vs w, vs.length = slots.length → d i = false → (depsOf o).all d = true → R d vs w →
      ∀ K : Exit → Act → World → Prop, (∀ vs' w', vs'.length = slots.length → R (upd d i) vs' w' → K .normal (putAll a slots vs') w') →
      wpList P ops (Nrm K) [o] (putAll a slots vs) w) ∧ invOps P ops a slots R l (i + 1)

theorem invOps.get {a : Act} {slots : List Nat} {R : (Nat → Bool) → List Value → World → Prop} : ∀ {l : List Oper} {k : Nat}, invOps P ops a slots R l k → ∀ i o, l[i]? = some o →
    ∀ d vs w, vs.length = slots.length → d (k + i) = false → (depsOf o).all d = true → R d vs w →
      wpList P ops (Nrm fun _ a' w' => ∃ vs', vs'.length = slots.length ∧ a' = putAll a slots vs' ∧ R (upd d (k + i)) vs' w') [o] (putAll a slots vs) w
  | [], _, _, i, o, ho => by simp at ho
  | x :: l, k, h, 0, o, ho => by
    simp only [List.getElem?_cons_zero, Option.some.injEq] at ho
    subst ho
    exact fun d vs w hl hi hd hr => h.1 d vs w hl hi hd hr _ (fun vs' w' hl' hr' => ⟨vs', hl', rfl, hr'⟩)
  | x :: l, k, h, i + 1, o, ho => by
    have := h.2.get i o (by simpa using ho)
    rw [show k + 1 + i = k + (i + 1) by omega] at this
    exact this

theorem put_self (a : Act) (t : Nat) : a.put (some t) (a.tmps.getD t undef) = a := by
  have : a.tmps.setIfInBounds t (a.tmps.getD t undef) = a.tmps := by
    apply Array.ext
    · simp
    · intro i h1 h2
      simp only [Array.size_setIfInBounds] at h1
      rw [Array.getElem_setIfInBounds h1]
      split
      · rename_i hti
        subst hti
        simp [Array.getD, h1]
      · rfl
  unfold Act.put
  simp only []
  rw [this]
theorem putAll_self (a : Act) : ∀ slots : List Nat, putAll a slots (slots.map fun t => a.tmps.getD t undef) = a
  | [] => rfl
  | t :: ts => by
    simp only [List.map_cons, putAll]
    rw [put_self]
    exact putAll_self a ts

/-- A region that draws its order: what is done, what lies in the slots, and the world, hang together behind each operation. -/
theorem wp_region_inv {id : Nat} {l : List Oper} {a : Act} {w : World} (slots : List Nat) (R : (Nat → Bool) → List Value → World → Prop) (hm : P.follows .mixedOrders = true) (hb : backOk l = true)
    (h0 : ∀ vs, vs.length = slots.length → R (fun _ => false) vs w.drew)
    (hs : invOps P l.toArray a slots R l 0)
    (he : ∀ d vs w', vs.length = slots.length → (∀ i, i < l.length → d i = true) → R d vs w' → Q .normal (putAll a slots vs) w') :
    (Code.region id l.toArray true).wp P Q a w := by
  have key := wpAny_inv (P := P) (Q := Q) (l := l) (fun d a' w' => ∃ vs, vs.length = slots.length ∧ a' = putAll a slots vs ∧ R d vs w') hb
    (by
      rintro i o ho d a' w' hi hd ⟨vs, hl, rfl, hr⟩
      have := hs.get i o ho d vs w' hl (by simpa using hi) hd hr
      simp only [Nat.zero_add] at this
      exact opw_mono (fun a'' w'' hk => hk) (wpList_opw this))
    (by
      rintro d a' w' hall ⟨vs, hl, rfl, hr⟩
      exact he d vs w' hl hall hr)
    l.toArray.size (Array.replicate l.toArray.size false) a w.drew (by simp) (by simp [Array.count_replicate_self])
    ⟨slots.map fun t => a.tmps.getD t undef, by simp, (putAll_self a slots).symm, by
      have : (fun i => (Array.replicate l.toArray.size false).getD i false) = fun _ => false := by
        funext i
        simp only [Array.getD_eq_getD_getElem?, Array.getElem?_replicate]
        split <;> rfl
      rw [this]
      exact h0 _ (by simp)⟩
  exact wp_mono (wp_region_any hm key) fun e a w h => Nrm.imp e a w h
end
end Go.Proofs.Ytjjlifljdbidbaa
namespace Go.Proofs.Ytjjlifljdbidbaa
/-- What is done lies in its slot. -/
def AllV (d : Nat → Bool) : List Nat → List Value → List Value → Prop
  | i :: is, x :: xs, v :: vs => (d i = true → x = v) ∧ AllV d is xs vs
  | _, _, _ => True
theorem AllV.none : ∀ {is : List Nat} {xs vs : List Value} {n : Nat}, xs.length = n → AllV (fun _ => false) is xs vs
  | i :: is, x :: xs, v :: vs, _, _ => ⟨(fun h => by cases h), AllV.none rfl⟩
  | [], _, _, _, _ => trivial
  | _ :: _, [], _, _, _ => trivial
  | _ :: _, _ :: _, [], _, _ => trivial
theorem AllV.get {d : Nat → Bool} : ∀ {is : List Nat} {xs vs : List Value} {i : Nat} {x v : Value} (p : Nat), AllV d is xs vs → is[p]? = some i → xs[p]? = some x → vs[p]? = some v → d i = true → x = v
  | i :: is, x :: xs, v :: vs, _, _, _, 0, h, hi, hx, hv, hd => by
    simp only [List.getElem?_cons_zero, Option.some.injEq] at hi hx hv
    subst hi hx hv
    exact h.1 hd
  | i :: is, x :: xs, v :: vs, _, _, _, p + 1, h, hi, hx, hv, hd => AllV.get p h.2 (by simpa using hi) (by simpa using hx) (by simpa using hv) hd
  | [], _, _, _, _, _, _, _, hi, _, _, _ => by simp at hi
  | _ :: _, [], _, _, _, _, _, _, _, hx, _, _ => by simp at hx
  | _ :: _, _ :: _, [], _, _, _, _, _, _, _, hv, _ => by simp at hv
theorem AllV.far {d : Nat → Bool} {i : Nat} : ∀ {is : List Nat} {xs vs : List Value}, AllV d is xs vs → i ∉ is → AllV (upd d i) is xs vs
  | j :: is, x :: xs, v :: vs, h, hn => ⟨fun hd => by
      have hj : j ≠ i := fun e => hn (by simp [e])
      have : d j = true := by simpa [Go.Proofs.Ytjjlifljdbidbaa.upd, hj] using hd
      exact h.1 this, h.2.far fun hm => hn (by simp [hm])⟩
  | [], _, _, _, _ => trivial
  | _ :: _, [], _, _, _ => trivial
  | _ :: _, _ :: _, [], _, _ => trivial
/-- The value lies in its slot now; the others lie as they did. -/
theorem AllV.upd {d : Nat → Bool} {i : Nat} {v : Value} : ∀ {is : List Nat} {xs vs : List Value} (p : Nat), AllV d is xs vs → is[p]? = some i → vs[p]? = some v → is.Nodup → AllV (upd d i) is (xs.set p v) vs
  | j :: is, x :: xs, v' :: vs, 0, h, hi, hv, hn => by
    simp only [List.getElem?_cons_zero, Option.some.injEq] at hi hv
    subst hi hv
    exact ⟨fun _ => rfl, h.2.far (List.nodup_cons.1 hn).1⟩
  | j :: is, x :: xs, v' :: vs, p + 1, h, hi, hv, hn => by
    have hi' : is[p]? = some i := by simpa using hi
    have hji : j ≠ i := fun e => (List.nodup_cons.1 hn).1 (e ▸ List.mem_of_getElem? hi')
    refine ⟨fun hd => ?_, h.2.upd p hi' (by simpa using hv) (List.nodup_cons.1 hn).2⟩
    have : d j = true := by simpa [Go.Proofs.Ytjjlifljdbidbaa.upd, hji] using hd
    exact h.1 this
  | [], _, _, p, _, hi, _, _ => by simp at hi
  | _ :: _, [], _, _, _, _, _, _ => by
    cases ‹Nat› <;> exact trivial
  | _ :: _, _ :: _, [], _, _, _, hv, _ => by simp at hv
/-- For all lists of that length. -/
def AllList : Nat → (List Value → Prop) → Prop
  | 0, f => f []
  | n + 1, f => ∀ x, AllList n fun t => f (x :: t)
theorem AllList.all : ∀ {n : Nat} {f : List Value → Prop}, AllList n f → ∀ vs, vs.length = n → f vs
  | 0, _, h, [], _ => h
  | n + 1, _, h, x :: t, hl => AllList.all (h x) t (by simpa using hl)
  | 0, _, _, _ :: _, hl => by simp at hl
  | n + 1, _, _, [], hl => by simp at hl
/-- The world has kept what it had, and what is done lies in its slot. -/
def InvV (w0 : World) (d : Nat → Bool) (is : List Nat) (xs vs : List Value) (W : World) : Prop := Kept (fun _ => False) w0 W ∧ AllV d is xs vs
section
variable {P : Program} {Q : Exit → Act → World → Prop}
/-- Each operation keeps what holds, and puts its value into its slot. -/
def valOps (P : Program) (ops : Array Oper) (a : Act) (slots : List Nat) (R : (Nat → Bool) → List Value → World → Prop) : List Oper → Nat → Prop
  | [], _ => True
  | o :: l, i => (∀ d w, (depsOf o).all d = true → AllList slots.length fun vs => R d vs w →
      ∀ K : Exit → Act → World → Prop, (∀ vs' w', vs'.length = slots.length → R (upd d i) vs' w' → K .normal (putAll a slots vs') w') →
      wpList P ops (Nrm K) [o] (putAll a slots vs) w) ∧ valOps P ops a slots R l (i + 1)
theorem valOps.inv {ops : Array Oper} {a : Act} {slots : List Nat} {R : (Nat → Bool) → List Value → World → Prop} : ∀ {l : List Oper} {k : Nat}, valOps P ops a slots R l k → invOps P ops a slots R l k
  | [], _, _ => trivial
  | _ :: _, _, h => ⟨fun d vs w hl _ hd hr K hK => (h.1 d w hd).all vs hl hr K hK, h.2.inv⟩
/-- A region of calls and reads that draws its order: one goal an operation. -/
theorem wp_region_vals {id : Nat} {l : List Oper} {a : Act} {w w0 : World} (slots is : List Nat) (Vs : List Value) (hm : P.follows .mixedOrders = true) (hb : backOk l = true) (hk : Kept (fun _ => False) w0 w)
    (hs : valOps P l.toArray a slots (fun d vs W => InvV w0 d is vs Vs W) l 0)
    (he : ∀ d w', AllList slots.length fun vs => (∀ i, i < l.length → d i = true) → InvV w0 d is vs Vs w' → Q .normal (putAll a slots vs) w') :
    (Code.region id l.toArray true).wp P Q a w :=
  wp_region_inv slots (fun d vs W => InvV w0 d is vs Vs W) hm hb (fun _ hl => ⟨hk.drew, AllV.none hl⟩) hs.inv fun d vs w' hl hall hr => (he d w').all vs hl hall hr
end
end Go.Proofs.Ytjjlifljdbidbaa

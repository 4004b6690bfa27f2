/- A region that draws its order and whose last operation changes the world: what holds ahead of it, and behind it. Conditions: each operation keeps it. -/
import Derived.Test.YtjjlifljdbidbaaInv
namespace Go.Proofs.Ytjjlifljdbidbaa

/-- What must be done ahead of an operation, through others too. -/
def ancOf (l : List Oper) : Nat → Nat → List Nat
  | 0, _ => []
  | f + 1, i => match l[i]? with
    | some o => depsOf o ++ (depsOf o).flatMap (ancOf l f)
    | none => []
/-- All operations are done ahead of t. -/
def tailOk (l : List Oper) (t : Nat) : Bool := backOk l && decide (t < l.length) && (List.range l.length).all fun i => i == t || (ancOf l l.length t).contains i
section
variable {P : Program} {Q : Exit → Act → World → Prop} {l : List Oper}
theorem wpList_one_mono {ops : Array Oper} {o : Oper} {a : Act} {w : World} {Q1 Q2 : Exit → Act → World → Prop} (h : ∀ a' w', Q1 .normal a' w' → Q2 .normal a' w') (h1 : wpList P ops (Nrm Q1) [o] a w) : wpList P ops (Nrm Q2) [o] a w := by
  have h2 := wpList_opw (Q := Q2) h1
  have h3 : opw P ops Q2 o (wpList P ops (Nrm Q2) []) a w := opw_mono (fun a w hk => h a w hk) h2
  unfold opw at h3
  simp only [wpList]
  split
  · rename_i hw; rw [if_pos hw] at h3; exact .inl h3
  · rename_i hw; rw [if_neg hw] at h3; exact h3
theorem anc_done {d : Nat → Bool} (hcl : ∀ (j : Nat) (o : Oper), l[j]? = some o → d j = true → (depsOf o).all d = true) : ∀ (f j i : Nat), d j = true → i ∈ ancOf l f j → d i = true
  | 0, _, _, _, h => by cases h
  | f + 1, j, i, hj, h => by
    simp only [ancOf] at h
    cases ho : l[j]? with
    | none => rw [ho] at h; cases h
    | some o =>
      rw [ho] at h
      have hd := List.all_eq_true.1 (hcl j o ho hj)
      rcases List.mem_append.1 h with h1 | h1
      · exact hd i h1
      · obtain ⟨k, hk, hi⟩ := List.mem_flatMap.1 h1
        exact anc_done hcl f k i (hd k hk) hi

/-- Each operation keeps what holds ahead of the last one; the last one brings what holds behind it. -/
def tailOps (P : Program) (ops : Array Oper) (a : Act) (slots is : List Nat) (Vs : List Value) (t : Nat) (J0 J1 : World → Prop) : List Oper → Nat → Prop
  | [], _ => True
  | o :: l, i => (∀ d w, (depsOf o).all d = true → AllList slots.length fun vs => AllV d is vs Vs → J0 w →
      ∀ K : Exit → Act → World → Prop, (∀ vs' w', vs'.length = slots.length → AllV (upd d i) is vs' Vs → (if i = t then J1 w' else J0 w') → K .normal (putAll a slots vs') w') →
      wpList P ops (Nrm K) [o] (putAll a slots vs) w) ∧ tailOps P ops a slots is Vs t J0 J1 l (i + 1)
theorem tailOps.get {a : Act} {slots is : List Nat} {Vs : List Value} {t : Nat} {J0 J1 : World → Prop} {ops : Array Oper} : ∀ {l : List Oper} {k : Nat}, tailOps P ops a slots is Vs t J0 J1 l k → ∀ i o, l[i]? = some o →
    ∀ d w, (depsOf o).all d = true → ∀ vs, vs.length = slots.length → AllV d is vs Vs → J0 w →
      wpList P ops (Nrm fun _ a' w' => ∃ vs', vs'.length = slots.length ∧ a' = putAll a slots vs' ∧ AllV (upd d (k + i)) is vs' Vs ∧ (if k + i = t then J1 w' else J0 w')) [o] (putAll a slots vs) w
  | [], _, _, i, o, ho => by simp at ho
  | x :: l, k, h, 0, o, ho => by
    simp only [List.getElem?_cons_zero, Option.some.injEq] at ho
    subst ho
    exact fun d w hd vs hl hv hj => (h.1 d w hd).all vs hl hv hj _ fun vs' w' hl' hv' hj' => ⟨vs', hl', rfl, hv', hj'⟩
  | x :: l, k, h, i + 1, o, ho => by
    have := h.2.get i o (by simpa using ho)
    rw [show k + 1 + i = k + (i + 1) by omega] at this
    exact this
/-- A region that draws its order: reads and calls, and one operation behind all others. -/
theorem wp_region_tail {id : Nat} {a : Act} {w : World} (slots is : List Nat) (Vs : List Value) (t : Nat) (J0 J1 : World → Prop) (hm : P.follows .mixedOrders = true) (ht : tailOk l t = true) (h0 : J0 w.drew)
    (hs : tailOps P l.toArray a slots is Vs t J0 J1 l 0)
    (he : ∀ d w', AllList slots.length fun vs => (∀ i, i < l.length → d i = true) → AllV d is vs Vs → J1 w' → Q .normal (putAll a slots vs) w') :
    (Code.region id l.toArray true).wp P Q a w := by
  simp only [tailOk, Bool.and_eq_true, decide_eq_true_eq] at ht
  obtain ⟨⟨hb, htl⟩, hanc⟩ := ht
  refine wp_region_inv slots (fun d vs W => (∀ (j : Nat) (o : Oper), l[j]? = some o → d j = true → (depsOf o).all d = true) ∧ AllV d is vs Vs ∧ (if d t = true then J1 W else J0 W)) hm hb
    (fun vs hl => ⟨(fun j o _ hj => by cases hj), AllV.none hl, h0⟩) ?_ ?_
  · have key : ∀ (m : List Oper) (k : Nat), (∀ i, m[i]? = l[k + i]?) → invOps P l.toArray a slots (fun d vs W => (∀ (j : Nat) (o : Oper), l[j]? = some o → d j = true → (depsOf o).all d = true) ∧ AllV d is vs Vs ∧ (if d t = true then J1 W else J0 W)) m k := by
      intro m
      induction m with
      | nil => intro k _; trivial
      | cons o m ih =>
        intro k hk
        have ho : l[k]? = some o := by have := hk 0; simpa using this.symm
        refine ⟨?_, ih (k + 1) fun i => by have := hk (i + 1); simpa [Nat.add_assoc, Nat.add_comm 1 i] using this⟩
        intro d vs w hl hi hd hR K hK
        obtain ⟨hcl, hv, hj⟩ := hR
        have hdt : d t = false := by
          cases hdt : d t with
          | false => rfl
          | true =>
            exfalso
            have hkl : k < l.length := (List.getElem?_eq_some_iff.1 ho).1
            have := List.all_eq_true.1 hanc k (List.mem_range.2 hkl)
            simp only [Bool.or_eq_true, beq_iff_eq, List.contains_iff_mem] at this
            rcases this with h1 | h1
            · subst h1; rw [hi] at hdt; cases hdt
            · rw [anc_done hcl _ _ _ hdt h1] at hi; cases hi
        rw [hdt] at hj
        have h1 := hs.get k o ho d w hd vs hl hv (by simpa using hj)
        simp only [Nat.zero_add] at h1
        refine wpList_one_mono (fun a' w' hh => ?_) h1
        obtain ⟨vs', hl', rfl, hv', hj'⟩ := (hh : ∃ vs', _)
        refine hK vs' w' hl' ⟨?_, hv', ?_⟩
        · intro j o' hjo hju
          have hmono : ∀ x, d x = true → upd d k x = true := fun x hx => by simp [upd, hx]
          rw [List.all_eq_true]
          intro x hx
          by_cases hjk : j = k
          · subst hjk
            rw [ho] at hjo
            cases hjo
            exact hmono x (List.all_eq_true.1 hd x hx)
          · have : d j = true := by simpa [upd, hjk] using hju
            exact hmono x (List.all_eq_true.1 (hcl j o' hjo this) x hx)
        · by_cases hkt : k = t
          · subst hkt; simpa [upd] using hj'
          · rw [if_neg hkt] at hj'
            have : upd d k t = false := by simp [upd, hdt]; omega
            rw [this]
            simpa using hj'
    exact key l 0 fun i => by simp
  · rintro d vs w' hl hall ⟨_, hv, hj⟩
    rw [if_pos (hall t htl)] at hj
    exact (he d w').all vs hl hall hv hj
end
end Go.Proofs.Ytjjlifljdbidbaa

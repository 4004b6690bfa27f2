/- A region that draws its order, all of whose pairs that may disturb each other are bound, may be walked in the order of its text. Conditions: its operations, in that order, do not panic. -/
import Derived.Test.YtagjdeekiiffjaaGreatDoorBase
import Derived.Orders
import Derived.Tactics
import Derived.Laws.Panics
namespace Go.Proofs.YtagjdeekiiffjaaGreatDoor

/-- Where e comes to an end, the world is as it was, and it comes to the same in every world. -/
def Pu {α : Type} (P : Program) (e : Sem α) : Prop := ∀ w n w1, e.run P w = .ok n w1 → w1 = w ∧ ∀ w', e.run P w' = .ok n w'
/-- The world with another count of answers drawn. -/
def redrawn (w : World) (d : Nat) : World := { w with drawn := d }
/-- w' is w with new blocks: nothing that was there has turned. -/
def Ext (w w' : World) : Prop := Kept (fun _ => False) w w'
theorem Ext.redrawn (w : World) (d : Nat) : Ext w (redrawn w d) := ⟨rfl, rfl, rfl, Nat.le_refl _, fun _ _ _ => rfl, fun _ _ => rfl⟩
theorem Ext.back (w : World) (d : Nat) : Ext (Proofs.YtagjdeekiiffjaaGreatDoor.redrawn w d) w := ⟨rfl, rfl, rfl, Nat.le_refl _, fun _ _ _ => rfl, fun _ _ => rfl⟩
/-- Where e comes to an end, the world is as it was, and e comes to the same in every world that extends it. -/
def Ro {α : Type} (P : Program) (e : Sem α) : Prop := ∀ w n w1, e.run P w = .ok n w1 → w1 = w ∧ ∀ w', Ext w w' → e.run P w' = .ok n w'
/-- Where e comes to an end, answers may have been drawn, and no more. -/
def Md {α : Type} (P : Program) (e : Sem α) : Prop := ∀ w n w1, e.run P w = .ok n w1 → ∃ d, w1 = redrawn w d

section
variable {α β : Type} {P : Program}
theorem Pu.ro {e : Sem α} (h : Pu P e) : Ro P e := fun w n w1 hr => ⟨(h w n w1 hr).1, fun _ _ => (h w n w1 hr).2 _⟩
theorem Pu.md {e : Sem α} (h : Pu P e) : Md P e := fun w n w1 hr => ⟨w.drawn, (h w n w1 hr).1⟩
theorem Md.bind {e : Sem α} {f : α → Sem β} (he : Md P e) (hf : ∀ x, Md P (f x)) : Md P (e >>= f) := fun w n w1 h => by
  rw [Sem.run_bind] at h
  cases hr : e.run P w with
  | halt x w2 => simp [hr] at h
  | ok x w2 =>
    rw [hr] at h
    obtain ⟨d, rfl⟩ := he w x w2 hr
    obtain ⟨d', rfl⟩ := hf x _ n w1 (by simpa using h)
    exact ⟨d', rfl⟩
theorem Md.choose (q : Question) : Md P (choose q) := fun w n w1 h => by
  unfold Go.choose at h
  simp only [Sem.run] at h
  split at h
  · cases h; exact ⟨w.drawn, rfl⟩
  · cases h; exact ⟨w.drawn + 1, rfl⟩
theorem Pu.pure (x : α) : Pu P (pure x : Sem α) := fun w n w1 h => by
  simp [Sem.run_pure] at h
  exact ⟨h.2.symm, fun w' => by simp [Sem.run_pure, h.1]⟩
theorem Pu.halt (x : Halt) : Pu P (.halt x : Sem α) := fun w n w1 h => by simp [Sem.run] at h
theorem Pu.bind {e : Sem α} {f : α → Sem β} (he : Pu P e) (hf : ∀ x, (∃ w, e.run P w = .ok x w) → Pu P (f x)) : Pu P (e >>= f) := fun w n w1 h => by
  rw [Sem.run_bind] at h
  cases hr : e.run P w with
  | halt x w2 => simp [hr] at h
  | ok x w2 =>
    rw [hr] at h
    obtain ⟨rfl, hall⟩ := he w x w2 hr
    obtain ⟨rfl, h2⟩ := hf x ⟨_, hr⟩ w2 n w1 (by simpa using h)
    exact ⟨rfl, fun w' => by rw [Sem.run_bind, hall w']; simpa using h2 w'⟩
theorem Ro.bind {e : Sem α} {f : α → Sem β} (he : Ro P e) (hf : ∀ x, Ro P (f x)) : Ro P (e >>= f) := fun w n w1 h => by
  rw [Sem.run_bind] at h
  cases hr : e.run P w with
  | halt x w2 => simp [hr] at h
  | ok x w2 =>
    rw [hr] at h
    obtain ⟨rfl, hall⟩ := he w x w2 hr
    obtain ⟨rfl, h2⟩ := hf x w2 n w1 (by simpa using h)
    exact ⟨rfl, fun w' he' => by rw [Sem.run_bind, hall w' he']; simpa using h2 w' he'⟩
theorem Pu.stuck (s : String) : Pu P (stuck s : Sem α) := Pu.halt _
theorem Pu.unsupported (s : Unsupported) : Pu P (unsupported s : Sem α) := Pu.halt _
theorem Pu.program : Pu P (program) := fun w n w1 h => by
  simp [run_program] at h
  exact ⟨h.2.symm, fun w' => by simp [run_program, h.1]⟩
theorem Pu.nilDeref : Pu P (runtimePanic .nilDeref : Sem α) := by
  unfold runtimePanic
  exact Pu.bind Pu.program fun p _ => Pu.halt _
theorem Pu.underlying (t : TypeId) : Pu P (underlying t) := by
  unfold Go.underlying
  refine Pu.bind Pu.program fun p _ => ?_
  split
  · exact Pu.pure _
  · exact Pu.stuck _
theorem Pu.typeInfo (t : TypeId) : Pu P (typeInfo t) := by
  unfold Go.typeInfo
  refine Pu.bind Pu.program fun p _ => ?_
  split
  · exact Pu.pure _
  · exact Pu.stuck _
theorem Pu.sizeOf (t : TypeId) : Pu P (sizeOf t) := Pu.bind (Pu.typeInfo t) fun _ _ => Pu.pure _
theorem Pu.isAgg (t : TypeId) : Pu P (isAgg t) := Pu.bind (Pu.underlying t) fun d _ => by split <;> exact Pu.pure _
theorem Pu.part (t : TypeId) (cs : Array Value) (off : Nat) : Pu P (part t cs off) := by
  unfold Go.part
  refine Pu.bind (Pu.isAgg t) fun b _ => ?_
  split
  · exact Pu.bind (Pu.sizeOf t) fun _ _ => Pu.pure _
  · split
    · exact Pu.pure _
    · exact Pu.stuck _
theorem Pu.sureAddr (v : Value) : Pu P (Instr.sureAddr v) := by
  unfold Instr.sureAddr
  split
  · exact Pu.pure _
  · exact Pu.stuck _
theorem Pu.asIntOf (v : Value) : Pu P (asIntOf v) := by
  unfold Go.asIntOf
  split
  · exact Pu.pure _
  · exact Pu.unsupported _
  · exact Pu.stuck _
theorem Pu.asAddr (v : Value) : Pu P (asAddr v) := by
  unfold Go.asAddr
  split
  · exact Pu.pure _
  · exact Pu.nilDeref
  · exact Pu.stuck _
theorem Pu.asBool (v : Value) : Pu P (asBool v) := by
  unfold Go.asBool
  split
  · exact Pu.pure _
  · exact Pu.stuck _
theorem Pu.extract (v : Value) (ix : Nat) : Pu P (Instr.extract v ix) := by
  unfold Instr.extract
  split
  · split
    · exact Pu.pure _
    · exact Pu.stuck _
  · exact Pu.stuck _
theorem Pu.not (v : Value) : Pu P (Op.unary .not v) := by
  cases v <;> first
    | exact Pu.pure _
    | exact Pu.stuck _
    | (rename_i a; cases a <;> exact Pu.stuck _)
theorem Ro.bounds (k : IntKind) (x y : Int) (c : BoundsCode) : Ro P (boundsPanic k x y c : Sem α) := fun w n w1 h => by
  obtain ⟨s, w', hr⟩ := run_boundsPanic (α := α) (P := P) (w := w) k x y c
  rw [hr] at h
  cases h
theorem Ext.heap {w w' : World} (h : Ext w w') {k : Nat} {o : Obj} (hk : w.heap[k]? = some o) : w'.heap[k]? = some o := by
  rw [h.block k (by
    rcases Nat.lt_or_ge k w.heap.size with h1 | h1
    · exact h1
    · rw [Array.getElem?_eq_none h1] at hk; cases hk) id]
  exact hk
theorem seen_ext {w w' : World} (h : Ext w w') (p : Program) (at_ : Addr) (u : TypeId) (k : Addr) (b : Bool) {r} (hr : w.seen p at_ u k b = .ok r) : w'.seen p at_ u k b = .ok r := by
  unfold World.seen at hr ⊢
  cases ho : w.heap[at_.block]? with
  | none =>
    rw [ho] at hr
    exfalso
    dsimp only at hr
    repeat' (split at hr)
    all_goals first | (cases hr; done) | (simp [throw, throwThe, MonadExceptOf.throw, bind, Except.bind] at hr; done)
  | some o => rw [ho] at hr; rw [h.heap ho]; exact hr
theorem viewLoad_ext {w w' : World} (h : Ext w w') (p : Program) (at_ : Addr) (u : TypeId) (k : Addr) (b : Bool) {r} (hr : w.viewLoad p at_ u k b = .ok r) : w'.viewLoad p at_ u k b = .ok r := by
  unfold World.viewLoad at hr ⊢
  cases hs : w.seen p at_ u k b with
  | error e => rw [hs] at hr; cases hr
  | ok s => rw [hs] at hr; rw [seen_ext h p at_ u k b hs]; exact hr
theorem Ro.load (a : Addr) (m : Mode) : Ro P (load a m) := fun w n w1 h => by
  unfold Go.load at h ⊢
  simp only [Sem.run] at h ⊢
  split at h
  · rename_i v hv
    simp at h
    refine ⟨h.2.symm, fun w' he => ?_⟩
    have hlt : a.block < w.heap.size := World.block_lt_of_cell? w _ hv
    rw [World.cell?_of_block (w := w) (he.block a.block hlt id), hv]
    simp [h.1]
  · rename_i hv
    split at h
    · rename_i v b hfv
      simp at h
      refine ⟨h.2.symm, fun w' he => ?_⟩
      unfold World.farLoad at hfv
      cases ho : w.heap[a.block]? with
      | none => rw [ho] at hfv; simp at hfv
      | some o =>
        have ho' := he.heap ho
        have hc' : w'.cell? a = none := by
          rw [World.cell?_of_block (w := w) (by rw [ho', ho])]
          exact hv
        rw [hc']
        have hf' : w'.farLoad P a (m == .atomic) = .ok (v, b) := by
          unfold World.farLoad
          rw [ho']
          rw [ho] at hfv
          cases o <;> simp at hfv ⊢
          case view at_ u =>
            split at hfv
            · rename_i r hr
              rw [viewLoad_ext he P _ _ _ _ hr]
              simpa using hfv
            · cases hfv
        rw [hf']
        simp [h.1]
    · cases h
theorem Ro.loadCellsFrom (a : Addr) (n : Nat) : ∀ (i : Nat) (acc : Array Value), Ro P (loadCellsFrom a i n acc) := by
  induction n with
  | zero => intro i acc; exact (Pu.pure _).ro
  | succ n ih => intro i acc; exact Ro.bind (Ro.load _ _) fun v => ih _ _
theorem Ro.loadVar (t : TypeId) (a : Addr) : Ro P (loadVar t a) := by
  unfold Go.loadVar
  refine Ro.bind (Pu.isAgg t).ro fun b => ?_
  split
  · exact Ro.bind (Pu.sizeOf t).ro fun n => Ro.bind (Ro.loadCellsFrom a n 0 #[]) fun _ => (Pu.pure _).ro
  · exact Ro.load _ _
theorem Ro.sliceBound (x : Value) (y : Nat) (c : BoundsCode) : Ro P (Instr.sliceBound x y c) := by
  unfold Instr.sliceBound
  refine Ro.bind (Pu.asIntOf x).ro fun ⟨k, i⟩ => ?_
  dsimp only
  split
  · exact (Pu.pure _).ro
  · exact Ro.bounds _ _ _ _
theorem Ro.sliceBounds (b : Bool) (len cap : Nat) (lo hi mx : Option Value) : Ro P (Instr.sliceBounds b len cap lo hi mx) := by
  unfold Instr.sliceBounds
  dsimp only
  repeat' (first | exact (Pu.pure _).ro | exact (Pu.stuck _).ro | exact Ro.sliceBound _ _ _ | refine Ro.bind ?_ (fun _ => ?_) | split)
theorem Ro.slice (t : TypeId) (x : Value) (lo hi mx : Option Value) : Ro P (Instr.slice t x lo hi mx) := by
  unfold Instr.slice
  refine Ro.bind (Pu.underlying t).ro fun d => ?_
  split
  · split
    · exact Ro.bind (Pu.stuck _).ro fun _ => Ro.bind (Ro.sliceBounds _ _ _ _ _ _) fun _ => (Pu.pure _).ro
    · exact Ro.bind (Ro.sliceBounds _ _ _ _ _ _) fun _ => (Pu.pure _).ro
  · exact Ro.bind (Ro.sliceBounds _ _ _ _ _ _) fun _ => Ro.bind (Pu.sizeOf _).ro fun _ => (Pu.pure _).ro
  · refine Ro.bind (Pu.asAddr _).ro fun a => Ro.bind (Pu.underlying _).ro fun d => ?_
    split
    · exact Ro.bind (Ro.sliceBounds _ _ _ _ _ _) fun _ => Ro.bind (Pu.sizeOf _).ro fun _ => (Pu.pure _).ro
    · exact (Pu.stuck _).ro
  · exact (Pu.stuck _).ro
theorem Ro.sliceAt (t : TypeId) (x : Value) (lo hi mx : Option Value) : Ro P (Instr.sliceAt t x lo hi mx) := by
  unfold Instr.sliceAt
  refine Ro.bind (Pu.underlying t).ro fun d => ?_
  split
  · exact Ro.bind (Pu.sureAddr _).ro fun a => Ro.bind (Ro.sliceBounds _ _ _ _ _ _) fun _ => Ro.bind (Pu.sizeOf _).ro fun _ => (Pu.pure _).ro
  · exact Ro.slice _ _ _ _ _
theorem Ro.indexAt (t : TypeId) (x i : Value) : Ro P (Instr.indexAt t x i) := by
  unfold Instr.indexAt
  dsimp only
  repeat' (first | exact (Pu.pure _).ro | exact (Pu.stuck _).ro | exact (Pu.unsupported _).ro | exact Ro.bounds _ _ _ _ | exact (Pu.asIntOf _).ro | exact (Pu.underlying _).ro | exact (Pu.sureAddr _).ro | exact (Pu.sizeOf _).ro | refine Ro.bind ?_ (fun _ => ?_) | split)
theorem Pu.followBlind (l : List FieldStep) : ∀ (t : TypeId) (x : Option Value), Pu P (Go.followBlind l t x) := by
  induction l with
  | nil => intro t x; exact Pu.pure _
  | cons s r ih =>
    intro t x
    unfold Go.followBlind
    refine Pu.bind (Pu.underlying _) fun d _ => ?_
    split
    · split
      · split
        · exact Pu.pure _
        · exact ih _ _
        · exact Pu.stuck _
        · exact Pu.pure _
        · exact Pu.bind (Pu.part _ _ _) fun _ _ => ih _ _
        · exact Pu.stuck _
        · exact ih _ _
      · exact Pu.stuck _
    · exact Pu.stuck _
theorem Pu.nilAhead (n : Nat) : ∀ (t : TypeId) (v : Value) (s : String), Pu P (Go.nilAhead n t v s) := by
  induction n with
  | zero => intro t v s; exact Pu.pure _
  | succ n ih =>
    intro t v s
    unfold Go.nilAhead
    refine Pu.bind (Pu.typeInfo _) fun i _ => ?_
    split
    · refine Pu.bind (Pu.followBlind _ _ _) fun r _ => ?_
      split
      · exact Pu.pure _
      · split
        · exact ih _ _ _
        · exact Pu.pure _
        · exact Pu.stuck _
        · exact Pu.pure _
        · exact Pu.pure _
        · refine Pu.bind (Pu.underlying _) fun d _ => ?_
          split <;> exact Pu.pure _
    · exact Pu.stuck _
end

/-- Is the field's size not 0? -/
def fieldOk (P : Program) (s : TypeId) (f : Nat) : Bool :=
  match P.underlying s with
  | some (.struct fs) => match fs[f]? with
    | some fl => match P.info? fl.type with
      | some i => i.size != 0
      | none => true
    | none => true
  | _ => true
/-- Is it a slice's or a string's type? -/
def lenOk (P : Program) (t : TypeId) : Bool :=
  match P.underlying t with
  | some (.slice _) => true
  | some .string => true
  | _ => false
/-- Operations that come to the same in every world. -/
def isP (P : Program) (o : Oper) : Bool :=
  match o.op with
  | .move _ | .assign _ | .pick .. | .nilCheck _ | .extract .. | .unOp .not .. => true
  | .fieldAddr s _ f => fieldOk P s f
  | .call { callee := .builtin .len, argTypes, .. } => match argTypes[0]? with
    | some t => lenOk P t
    | none => false
  | _ => false
/-- From bytes to a string? -/
def strOk (P : Program) (s d : TypeId) : Bool :=
  match P.underlying s, P.underlying d with
  | some (.slice e), some .string => match P.underlying e with
    | some (.int .u8) => true
    | _ => false
  | _, _ => false
/-- Operations that leave the world as it is. -/
def isR (P : Program) (o : Oper) : Bool :=
  match o.op with
  | .load .. | .slice .. | .indexAddr .. => true
  | .convert s d _ => strOk P s d
  | _ => false

/-- Operations that may draw answers, and do no more. -/
def isM (o : Oper) : Bool :=
  match o.op with
  | .call { callee := .builtin .min, .. } | .call { callee := .builtin .max, .. } => true
  | _ => false

section
variable {P : Program}
theorem Pu.fieldAt (s : TypeId) (v : Value) (f : Nat) (h : fieldOk P s f = true) : Pu P (Instr.fieldAt s v f) := by
  unfold Instr.fieldAt
  refine Pu.bind (Pu.underlying s) fun d hd => ?_
  obtain ⟨w, hd⟩ := hd
  have hdd : P.underlying s = some d := by
    unfold Go.underlying at hd
    simp only [Sem.run_bind, run_program, Result.andThen_ok] at hd
    cases hu : P.underlying s with
    | none => rw [hu] at hd; simp [Go.stuck] at hd
    | some d' => rw [hu] at hd; simp [Sem.run_pure] at hd; rw [hd]
  split
  · rename_i fs
    split
    · rename_i fl hfl
      refine Pu.bind (Pu.sureAddr _) fun a _ => ?_
      unfold fieldPlace
      have hsz : Pu P (do if (← Go.sizeOf fl.type) = 0 then partAt a fl.offset fl.byteOffset else Pure.pure (a.add fl.offset)) := by
        refine Pu.bind (Pu.sizeOf _) fun n hn => ?_
        obtain ⟨w2, hn⟩ := hn
        have hn0 : n ≠ 0 := by
          unfold fieldOk at h
          rw [hdd] at h
          simp only [hfl] at h
          unfold Go.sizeOf Go.typeInfo at hn
          simp only [Sem.run_bind, run_program, Result.andThen_ok] at hn
          cases hi : P.info? fl.type with
          | none => rw [hi] at hn; simp [Go.stuck] at hn
          | some i =>
            rw [hi] at hn h
            simp [Sem.run_pure] at hn
            rw [← hn]
            simpa using h
        rw [if_neg hn0]
        exact Pu.pure _
      exact Pu.bind hsz fun _ _ => Pu.pure _
    · exact Pu.stuck _
  · exact Pu.stuck _
theorem Pu.len (t : TypeId) (ats : Array TypeId) (ty : TypeId) (args : Array Value) (ha : ats[0]? = some t) (h : lenOk P t = true) : Pu P (Builtin.len_ ats ty args) := by
  unfold Builtin.len_
  rw [ha]
  split
  · rename_i pr t' v heq
    obtain rfl : t = t' := by
      have := congrArg Prod.fst heq
      simpa using this
    refine Pu.bind (Pu.underlying _) fun d hd => ?_
    obtain ⟨w, hd⟩ := hd
    have hdd : P.underlying t = some d := by
      unfold Go.underlying at hd
      simp only [Sem.run_bind, run_program, Result.andThen_ok] at hd
      cases hu : P.underlying t with
      | none => rw [hu] at hd; simp [Go.stuck] at hd
      | some d' => rw [hu] at hd; simp [Sem.run_pure] at hd; rw [hd]
    unfold lenOk at h
    rw [hdd] at h
    split
    · exact Pu.pure _
    · simp at h
    · simp at h
    · exact Pu.pure _
    · simp at h
    · simp at h
    · simp at h
    · simp at h
    · exact Pu.stuck _
  · exact Pu.stuck _

theorem andThen_inv {α β : Type} {r : Result α} {f : α → World → Result β} {n : β} {w1 : World} (h : r.andThen f = .ok n w1) : ∃ v w2, r = .ok v w2 ∧ f v w2 = .ok n w1 := by
  cases r with
  | ok v w2 => exact ⟨v, w2, rfl, by simpa using h⟩
  | halt x w2 => simp at h
theorem isP_spec {ρ : Operand → Value} {o : Oper} (h : isP P o = true) {w w1 : World} {n : Next} (hr : (execOp ρ o).run P w = .ok n w1) :
    ∃ v, n = .value v ∧ w1 = w ∧ ∀ w', (execOp ρ o).run P w' = .ok (.value v) w' := by
  have lift : ∀ s : Sem Value, Pu P s → execOp ρ o = (do pure (.value (← s))) → ∃ v, n = .value v ∧ w1 = w ∧ ∀ w', (execOp ρ o).run P w' = .ok (.value v) w' := by
    intro s hs he
    rw [he] at hr ⊢
    rw [Sem.run_bind] at hr
    cases hx : s.run P w with
    | halt x w2 => simp [hx] at hr
    | ok v w2 =>
      rw [hx] at hr
      simp [Sem.run_pure] at hr
      obtain ⟨rfl, hall⟩ := hs w v w2 hx
      exact ⟨v, hr.1.symm, hr.2.symm, fun w' => by rw [Sem.run_bind, hall w']; simp [Sem.run_pure]⟩
  obtain ⟨dst, op, type, pos, after, guard⟩ := o
  cases op <;> simp only [isP] at h <;> try (cases h; done)
  case move x => exact lift (pure (ρ x)) (Pu.pure _) rfl
  case assign x => exact lift (pure (ρ x)) (Pu.pure _) rfl
  case pick c a b =>
    refine lift (do pure (if ← asBool (ρ c) then ρ a else ρ b)) (Pu.bind (Pu.asBool _) fun _ _ => Pu.pure _) ?_
    simp [execOp]
  case nilCheck x =>
    have hp : Pu P (execOp ρ ⟨dst, .nilCheck x, type, pos, after, guard⟩) := by
      simp only [execOp]
      split
      · exact Pu.nilDeref
      · exact Pu.nilDeref
      · exact Pu.nilDeref
      · split
        · exact Pu.nilDeref
        · refine Pu.bind Pu.program fun p _ => Pu.bind (Pu.nilAhead _ _ _ _) fun b _ => ?_
          split
          · exact Pu.bind (Pu.unsupported _) fun _ _ => Pu.pure _
          · exact Pu.bind (Pu.pure _) fun _ _ => Pu.pure _
        · exact Pu.pure _
      · exact Pu.pure _
    have hval : ∃ v, n = .value v := by
      simp only [execOp] at hr
      split at hr
      · simp [runtimePanic, goPanic, Sem.run_bind, Sem.run] at hr
      · simp [runtimePanic, goPanic, Sem.run_bind, Sem.run] at hr
      · simp [runtimePanic, goPanic, Sem.run_bind, Sem.run] at hr
      · split at hr
        · simp [runtimePanic, goPanic, Sem.run_bind, Sem.run] at hr
        · rw [Sem.run_bind] at hr
          simp only [run_program, Result.andThen_ok] at hr
          rw [Sem.run_bind] at hr
          obtain ⟨v, w2, _, hr⟩ := andThen_inv hr
          split at hr
          · simp [Go.unsupported, Sem.run] at hr
          · simp [Sem.run_pure] at hr
            exact ⟨_, hr.1.symm⟩
        · simp [Sem.run_pure] at hr
          exact ⟨_, hr.1.symm⟩
      · simp [Sem.run_pure] at hr
        exact ⟨_, hr.1.symm⟩
    obtain ⟨v, rfl⟩ := hval
    obtain ⟨h1, h2⟩ := hp w _ w1 hr
    exact ⟨v, rfl, h1, h2⟩
  case fieldAddr s x f => exact lift (Instr.fieldAt s (ρ x) f) (Pu.fieldAt s _ f h) rfl
  case extract x ix => exact lift (Instr.extract (ρ x) ix) (Pu.extract _ ix) rfl
  case unOp u t x =>
    cases u
    case not => exact lift (Op.unary .not (ρ x)) (Pu.not _) rfl
    all_goals cases h
  case call c =>
    obtain ⟨callee, args, argTypes⟩ := c
    cases callee with
    | value f => simp at h
    | invoke r m => simp at h
    | builtin b =>
      cases b <;> simp at h
      cases ha : argTypes[0]? with
      | none => rw [ha] at h; simp at h
      | some t =>
        rw [ha] at h
        exact lift (Builtin.len_ argTypes type (args.map ρ)) (Pu.len t argTypes type _ ha h) (by simp [execOp, resolve, invoke, builtin])
theorem Ro.intToString (n : Int) : Ro P (Conv.intToString n) := (Pu.pure _).ro
theorem Ro.forIn {β : Type} (f : Value → β → Sem (ForInStep β)) (hf : ∀ v b, Ro P (f v b)) (l : List Value) : ∀ b, Ro P (forIn l b f) := by
  induction l with
  | nil => intro b; exact (Pu.pure _).ro
  | cons v l ih =>
    intro b
    rw [List.forIn_cons]
    refine Ro.bind (hf v b) fun r => ?_
    split
    · exact (Pu.pure _).ro
    · exact ih _
theorem Ro.bytesToString (x : Value) : Ro P (Conv.bytesToString x) := by
  unfold Conv.bytesToString
  split
  · exact (Pu.pure _).ro
  · refine Ro.bind (Ro.loadCellsFrom _ _ _ _) fun cs => Ro.bind ?_ fun s => (Pu.pure _).ro
    rw [← Array.forIn_toList]
    refine Ro.forIn _ (fun v b => ?_) _ _
    split
    · exact (Pu.pure _).ro
    · exact Ro.bind (Pu.stuck _).ro fun _ => (Pu.pure _).ro
  · exact (Pu.stuck _).ro
theorem Pu.under {t : TypeId} {d : TypeDesc} (h : ∃ w, (Go.underlying t).run P w = .ok d w) : P.underlying t = some d := by
  obtain ⟨w, hd⟩ := h
  unfold Go.underlying at hd
  simp only [Sem.run_bind, run_program, Result.andThen_ok] at hd
  cases hu : P.underlying t with
  | none => rw [hu] at hd; simp [Go.stuck] at hd
  | some d' => rw [hu] at hd; simp [Sem.run_pure] at hd; rw [hd]
theorem Ro.bindU {t : TypeId} {β : Type} {f : TypeDesc → Sem β} (hf : ∀ d, P.underlying t = some d → Ro P (f d)) : Ro P (underlying t >>= f) := fun w n w1 h => by
  rw [Sem.run_bind] at h
  cases hr : (underlying t).run P w with
  | halt x w2 => simp [hr] at h
  | ok d w2 =>
    rw [hr] at h
    obtain ⟨rfl, hall⟩ := Pu.underlying t w d w2 hr
    obtain ⟨rfl, h2⟩ := hf d (Pu.under ⟨_, hr⟩) w2 n w1 (by simpa using h)
    exact ⟨rfl, fun w' he' => by rw [Sem.run_bind, hall w']; simpa using h2 w' he'⟩
theorem Ro.convert (s d : TypeId) (x : Value) (h : strOk P s d = true) : Ro P (Go.convert s d x) := by
  unfold Go.convert
  refine Ro.bindU fun ds hs => Ro.bindU fun dd hd => ?_
  unfold strOk at h
  rw [hs, hd] at h
  split at h
  · rename_i e h1 h2
    cases h1
    cases h2
    split at h
    · rename_i he
      cases x <;> dsimp only
      case int k n => exact Ro.intToString _
      case string s => exact (Pu.pure _).ro
      all_goals
        refine Ro.bindU fun de hde => ?_
        rw [he] at hde
        cases hde
        exact Ro.bytesToString _
    · cases h
  · cases h
theorem isR_spec {ρ : Operand → Value} {o : Oper} (h : isR P o = true) {w w1 : World} {n : Next} (hr : (execOp ρ o).run P w = .ok n w1) :
    w1 = w ∧ ∃ v, n = .value v ∧ ∀ w', Ext w w' → (execOp ρ o).run P w' = .ok (.value v) w' := by
  have lift : ∀ s : Sem Value, Ro P s → execOp ρ o = (do pure (.value (← s))) → w1 = w ∧ ∃ v, n = .value v ∧ ∀ w', Ext w w' → (execOp ρ o).run P w' = .ok (.value v) w' := by
    intro s hs he
    rw [he] at hr ⊢
    rw [Sem.run_bind] at hr
    cases hx : s.run P w with
    | halt x w2 => simp [hx] at hr
    | ok v w2 =>
      rw [hx] at hr
      simp [Sem.run_pure] at hr
      obtain ⟨rfl, hall⟩ := hs w v w2 hx
      exact ⟨hr.2.symm, v, hr.1.symm, fun w' he' => by rw [Sem.run_bind, hall w' he']; simp [Sem.run_pure]⟩
  obtain ⟨dst, op, type, pos, after, guard⟩ := o
  cases op <;> simp only [isR] at h <;> try (cases h; done)
  case load t x => exact lift (Instr.loadAt t (ρ x)) (Ro.bind (Pu.sureAddr _).ro fun _ => Ro.loadVar _ _) rfl
  case slice t x lo hi mx => exact lift _ (Ro.sliceAt t _ _ _ _) rfl
  case indexAddr t x i => exact lift _ (Ro.indexAt t _ _) rfl
  case convert s d x => exact lift _ (Ro.convert s d _ h) rfl
end

section
variable {P : Program}
theorem Md.stringOp (op : BinOp) (a b : ByteArray) : Md P (Op.stringOp op a b) := by
  unfold Op.stringOp
  repeat' (first | exact (Pu.pure _).md | exact (Pu.stuck _).md | exact (Pu.unsupported _).md | refine Md.bind ?_ (fun _ => ?_) | split)
theorem Md.min2 (x y : Value) : Md P (Builtin.min2 x y) := by
  unfold Builtin.min2
  repeat' (first | exact (Pu.pure _).md | exact (Pu.stuck _).md | exact (Pu.unsupported _).md | exact Md.choose _ | exact Md.stringOp _ _ _ | exact (Pu.asBool _).md | refine Md.bind ?_ (fun _ => ?_) | split)
theorem Md.max2 (x y : Value) : Md P (Builtin.max2 x y) := by
  unfold Builtin.max2
  repeat' (first | exact (Pu.pure _).md | exact (Pu.stuck _).md | exact (Pu.unsupported _).md | exact Md.choose _ | exact Md.stringOp _ _ _ | exact (Pu.asBool _).md | refine Md.bind ?_ (fun _ => ?_) | split)
theorem Md.foldlM (f : Value → Value → Sem Value) (hf : ∀ x y, Md P (f x y)) (l : List Value) : ∀ x, Md P (l.foldlM f x) := by
  induction l with
  | nil => intro x; exact (Pu.pure _).md
  | cons y l ih => intro x; rw [List.foldlM_cons]; exact Md.bind (hf _ _) fun _ => ih _
theorem isM_spec {ρ : Operand → Value} {o : Oper} (h : isM o = true) {w w1 : World} {n : Next} (hr : (execOp ρ o).run P w = .ok n w1) : (∃ d, w1 = redrawn w d) ∧ ∃ v, n = .value v := by
  have lift : ∀ s : Sem Value, Md P s → execOp ρ o = (do pure (.value (← s))) → (∃ d, w1 = redrawn w d) ∧ ∃ v, n = .value v := by
    intro s hs he
    rw [he] at hr
    rw [Sem.run_bind] at hr
    cases hx : s.run P w with
    | halt x w2 => simp [hx] at hr
    | ok v w2 =>
      rw [hx] at hr
      simp [Sem.run_pure] at hr
      obtain ⟨d, rfl⟩ := hs w v w2 hx
      exact ⟨⟨d, hr.2.symm⟩, v, hr.1.symm⟩
  obtain ⟨dst, op, type, pos, after, guard⟩ := o
  cases op <;> simp only [isM] at h <;> try (cases h; done)
  case call c =>
    obtain ⟨callee, args, argTypes⟩ := c
    cases callee with
    | value f => simp at h
    | invoke r m => simp at h
    | builtin b =>
      cases b <;> simp at h
      case min =>
        refine lift (Builtin.min_ argTypes type (args.map ρ)) ?_ (by simp [execOp, resolve, invoke, builtin])
        unfold Builtin.min_
        split
        · exact (Pu.stuck _).md
        · exact Md.foldlM _ Md.min2 _ _
      case max =>
        refine lift (Builtin.max_ argTypes type (args.map ρ)) ?_ (by simp [execOp, resolve, invoke, builtin])
        unfold Builtin.max_
        split
        · exact (Pu.stuck _).md
        · exact Md.foldlM _ Md.max2 _ _
end

/-- Q, but nothing at all where it does not come to its end in the ordinary way. -/
def Nrm (Q : Exit → Act → World → Prop) : Exit → Act → World → Prop
  | .normal, a, w => Q .normal a w
  | _, _, _ => False

section
variable {P : Program} {ops : Array Oper} {Q : Exit → Act → World → Prop}
@[go_sem] theorem Nrm.normal (a : Act) (w : World) : Nrm Q .normal a w = Q .normal a w := rfl
theorem nrm {a : Act} {w : World} (h : Q .normal a w) : Nrm Q .normal a w := h
theorem Nrm.lets : ¬ LetsOut (Nrm Q) := fun ⟨_, _, h⟩ => h
theorem Nrm.imp (e : Exit) (a : Act) (w : World) (h : Nrm Q e a w) : Q e a w := by
  cases e <;> first | exact h | exact (h : False).elim

/-- One operation. -/
def opw (P : Program) (ops : Array Oper) (Q : Exit → Act → World → Prop) (o : Oper) (K : Act → World → Prop) (a : Act) (w : World) : Prop :=
  if Region.wanted o (yielded ops a.tmps) = true then o.wp P a w K (Nrm Q) else K (a.put o.dst undef) w

theorem opw_of {i : Nat} {o : Oper} (hi : ops[i]? = some o) {K : Act → World → Prop} {a : Act} {w : World} : wpOp P ops (Nrm Q) i K a w ↔ opw P ops Q o K a w := by
  unfold wpOp opw
  simp only [hi]
  split
  · exact ⟨fun h => h.resolve_right fun hh => Nrm.lets hh.2, .inl⟩
  · exact Iff.rfl
theorem opw_mono {o : Oper} {K K' : Act → World → Prop} (h : ∀ a w, K a w → K' a w) {a : Act} {w : World} (hh : opw P ops Q o K a w) : opw P ops Q o K' a w := by
  unfold opw at *
  split
  · rename_i hw; rw [if_pos hw] at hh; exact Oper.wp_mono h hh
  · rename_i hw; rw [if_neg hw] at hh; exact h _ _ hh

/-- At w the operation yields v and leaves the world alone. -/
def YW (P : Program) (ops : Array Oper) (o : Oper) (v : Value) (a : Act) (w : World) : Prop :=
  (Region.wanted o (yielded ops a.tmps) = true ∧ (execOp a.eval o).run P w = .ok (.value v) w ∧ ∀ w', Ext w w' → (execOp a.eval o).run P w' = .ok (.value v) w') ∨
  (Region.wanted o (yielded ops a.tmps) = false ∧ v = undef)

theorem YW.opw {o : Oper} {v : Value} {a : Act} {w : World} (hy : YW P ops o v a w) {K : Act → World → Prop} (h : K (a.put o.dst v) w) : opw P ops Q o K a w := by
  unfold Proofs.YtagjdeekiiffjaaGreatDoor.opw
  rcases hy with ⟨hw, hv, _⟩ | ⟨hw, rfl⟩
  · rw [if_pos hw]
    simp only [Oper.wp, hv, Oper.upon]
    exact h
  · rw [if_neg (by simp [hw])]
    exact h
theorem YW.ext {o : Oper} {v : Value} {a : Act} {w w' : World} (hy : YW P ops o v a w) (he : Ext w w') : YW P ops o v a w' := by
  rcases hy with ⟨hw, hv, hall⟩ | h
  · exact .inl ⟨hw, hall w' he, fun w'' h2 => hall w'' (Kept.trans he h2)⟩
  · exact .inr h
theorem YW.same {o : Oper} {v : Value} {a a' : Act} {w : World} (hy : YW P ops o v a w) (he : execOp a'.eval o = execOp a.eval o)
    (hw : Region.wanted o (yielded ops a'.tmps) = Region.wanted o (yielded ops a.tmps)) : YW P ops o v a' w := by
  unfold YW at *
  rw [he, hw]
  exact hy
theorem opw_P {o : Oper} (ho : isP P o = true) {K : Act → World → Prop} {a : Act} {w : World} (h : opw P ops Q o K a w) : ∃ v, Yields P ops o v a ∧ K (a.put o.dst v) w := by
  unfold opw at h
  by_cases hw : Region.wanted o (yielded ops a.tmps) = true
  · rw [if_pos hw] at h
    unfold Oper.wp at h
    generalize hr : (execOp a.eval o).run P w = r at h
    cases r with
    | ok n w1 =>
      obtain ⟨v, rfl, rfl, hall⟩ := isP_spec ho hr
      exact ⟨v, .inl ⟨hw, hall⟩, h⟩
    | halt x w1 => cases x <;> exact (h : False).elim
  · rw [if_neg hw] at h
    exact ⟨undef, .inr ⟨by simpa using hw, rfl⟩, h⟩
theorem opw_R {o : Oper} (ho : isR P o = true) {K : Act → World → Prop} {a : Act} {w : World} (h : opw P ops Q o K a w) : ∃ v, YW P ops o v a w ∧ K (a.put o.dst v) w := by
  unfold opw at h
  by_cases hw : Region.wanted o (yielded ops a.tmps) = true
  · rw [if_pos hw] at h
    unfold Oper.wp at h
    generalize hr : (execOp a.eval o).run P w = r at h
    cases r with
    | ok n w1 =>
      obtain ⟨rfl, v, rfl, hall⟩ := isR_spec ho hr
      exact ⟨v, .inl ⟨hw, hr, hall⟩, h⟩
    | halt x w1 => cases x <;> exact (h : False).elim
  · rw [if_neg hw] at h
    exact ⟨undef, .inr ⟨by simpa using hw, rfl⟩, h⟩
theorem Yields.yw {o : Oper} {v : Value} {a : Act} (h : Yields P ops o v a) (w : World) : YW P ops o v a w := by
  rcases h with ⟨hw, hv⟩ | h
  · exact .inl ⟨hw, hv w, fun w' _ => hv _⟩
  · exact .inr h
/-- At w the operation yields v and draws answers. -/
def MW (P : Program) (ops : Array Oper) (o : Oper) (v : Value) (a : Act) (w : World) (d : Nat) : Prop :=
  (Region.wanted o (yielded ops a.tmps) = true ∧ (execOp a.eval o).run P w = .ok (.value v) (redrawn w d)) ∨
  (Region.wanted o (yielded ops a.tmps) = false ∧ v = undef ∧ d = w.drawn)
theorem MW.opw {o : Oper} {v : Value} {a : Act} {w : World} {d : Nat} (hy : MW P ops o v a w d) {K : Act → World → Prop} (h : K (a.put o.dst v) (redrawn w d)) : opw P ops Q o K a w := by
  unfold Proofs.YtagjdeekiiffjaaGreatDoor.opw
  rcases hy with ⟨hw, hv⟩ | ⟨hw, rfl, rfl⟩
  · rw [if_pos hw]
    simp only [Oper.wp, hv, Oper.upon]
    exact h
  · rw [if_neg (by simp [hw])]
    exact h
theorem MW.same {o : Oper} {v : Value} {a a' : Act} {w : World} {d : Nat} (hy : MW P ops o v a w d) (he : execOp a'.eval o = execOp a.eval o)
    (hw : Region.wanted o (yielded ops a'.tmps) = Region.wanted o (yielded ops a.tmps)) : MW P ops o v a' w d := by
  unfold MW at *
  rw [he, hw]
  exact hy
theorem opw_M {o : Oper} (ho : isM o = true) {K : Act → World → Prop} {a : Act} {w : World} (h : opw P ops Q o K a w) : ∃ v d, MW P ops o v a w d ∧ K (a.put o.dst v) (redrawn w d) := by
  unfold opw at h
  by_cases hw : Region.wanted o (yielded ops a.tmps) = true
  · rw [if_pos hw] at h
    unfold Oper.wp at h
    generalize hr : (execOp a.eval o).run P w = r at h
    cases r with
    | ok n w1 =>
      obtain ⟨⟨d, rfl⟩, v, rfl⟩ := isM_spec ho hr
      exact ⟨v, d, .inl ⟨hw, hr⟩, h⟩
    | halt x w1 => cases x <;> exact (h : False).elim
  · rw [if_neg hw] at h
    exact ⟨undef, w.drawn, .inr ⟨by simpa using hw, rfl, rfl⟩, h⟩
theorem opw_still {o : Oper} (ho : isP P o = true ∨ isR P o = true) {K : Act → World → Prop} {a : Act} {w : World} (h : opw P ops Q o K a w) : ∃ v, YW P ops o v a w ∧ K (a.put o.dst v) w := by
  rcases ho with ho | ho
  · obtain ⟨v, hy, hk⟩ := opw_P ho h
    exact ⟨v, Yields.yw hy w, hk⟩
  · exact opw_R ho h
/-- What an operation may leave. -/
theorem opw_some {o : Oper} {K : Act → World → Prop} {a : Act} {w : World} (h : opw P ops Q o K a w) : ∃ ds z w', K ({ a with defers := ds }.put o.dst z) w' := by
  unfold opw at h
  split at h
  · unfold Oper.wp at h
    generalize (execOp a.eval o).run P w = r at h
    cases r with
    | ok n w1 =>
      cases n <;> simp only [Oper.upon] at h <;> try exact h.elim
      case value v => exact ⟨a.defers, v, w1, h⟩
      case skip => exact ⟨a.defers, undef, w1, h⟩
      case defer d => exact ⟨d :: a.defers, undef, w1, h⟩
      case enter f args =>
        obtain ⟨e, w', fr, hR, _⟩ := h []
        cases e with
        | returned v => exact ⟨a.defers, v, w', hR⟩
        | panicked c => exact (hR : False).elim
        | outgrown => exact (Nrm.lets hR).elim
      case row row args =>
        obtain ⟨v, w', hR, _⟩ := h default []
        exact ⟨a.defers, v, w', hR⟩
    | halt x w1 => cases x <;> exact (h : False).elim
  · exact ⟨a.defers, undef, w, h⟩
/-- Back over an operation's own slot. -/
theorem opw_shift {x y : Oper} {u : Value} (hap : y.apart ops x = true) (hsx : ∀ cs b, x.op ≠ .select cs b) {K : Act → World → Prop} {a : Act} {w : World}
    (h : opw P ops Q x (fun a' w' => K (a'.put y.dst u) w') a w) : opw P ops Q x K (a.put y.dst u) w := by
  obtain ⟨h1, h2, h3⟩ := Oper.apart_spec hap
  unfold opw at *
  rw [wanted_put x a y.dst u h1]
  split
  · rename_i hw
    rw [if_pos hw] at h
    unfold Oper.wp at *
    rw [execOp_put x hsx a y.dst u h1]
    generalize (execOp a.eval x).run P w = r at *
    cases r with
    | ok n w' =>
      cases n <;> simp only [Oper.upon] at h ⊢
      case value v => rw [Act.put_comm a u v h2]; exact h
      case skip => rw [Act.put_comm a u undef h2]; exact h
      case defer d =>
        rw [Act.put_defers, Act.put_comm _ u undef h2]
        exact h
      case enter f args =>
        refine Calls.mono h fun e w'' he => ?_
        cases e with
        | returned v => simp only at he ⊢; rw [Act.put_comm a u v h2]; exact he
        | panicked c => exact he
        | outgrown => exact he
      case row row args => exact Rows.mono h fun v w'' he => by rw [Act.put_comm a u v h2]; exact he
    | halt z w' => cases z <;> first | exact h | exact (h : False).elim
  · rename_i hw
    rw [if_neg hw] at h
    rw [Act.put_comm a u undef h2]
    exact h
/-- What is yielded in every world stays so behind another operation. -/
theorem opw_keep {x y : Oper} {u : Value} (hap : y.apart ops x = true) (hsy : ∀ cs b, y.op ≠ .select cs b) {K : Act → World → Prop} {a : Act} {w : World} (hy : Yields P ops y u a)
    (h : opw P ops Q x K a w) : opw P ops Q x (fun a' w' => Yields P ops y u a' ∧ K a' w') a w := by
  obtain ⟨h1, h2, h3⟩ := Oper.apart_spec hap
  have keep : ∀ (a : Act), Yields P ops y u a → ∀ v, Yields P ops y u (a.put x.dst v) := fun a hy v =>
    hy.of_same (execOp_put y hsy a x.dst v h3) (wanted_put y a x.dst v h3)
  have keepD : ∀ d, Yields P ops y u { a with defers := d :: a.defers } := fun d => hy.of_same rfl rfl
  unfold opw at *
  split
  · rename_i hw
    rw [if_pos hw] at h
    unfold Oper.wp at *
    generalize (execOp a.eval x).run P w = r at *
    cases r with
    | ok n w' =>
      cases n <;> simp only [Oper.upon] at h ⊢
      case value v => exact ⟨keep a hy v, h⟩
      case skip => exact ⟨keep a hy _, h⟩
      case defer d => exact ⟨keep _ (keepD d) _, h⟩
      case enter f args =>
        refine Calls.mono h fun e w'' he => ?_
        cases e with
        | returned v => exact ⟨keep a hy v, he⟩
        | panicked c => exact he
        | outgrown => exact (Nrm.lets he).elim
      case row row args => exact Rows.mono h fun v w'' he => ⟨keep a hy v, he⟩
    | halt z w' => cases z <;> first | exact h | exact (h : False).elim
  · rename_i hw
    rw [if_neg hw] at h
    exact ⟨keep a hy _, h⟩

/-- May the two be exchanged? -/
def mayTurn (P : Program) (ops : Array Oper) (x y : Oper) : Bool :=
  x.apart ops y && y.apart ops x && ((isP P x || isP P y) || ((isR P x && isR P y) || (isR P x && isM y || isM x && isR P y)))

theorem opw_swap {x y : Oper} (ht : mayTurn P ops x y = true) (hsx : ∀ cs b, x.op ≠ .select cs b) (hsy : ∀ cs b, y.op ≠ .select cs b) {K : Act → World → Prop} {a : Act} {w : World}
    (h : opw P ops Q x (opw P ops Q y K) a w) : opw P ops Q y (opw P ops Q x K) a w := by
  simp only [mayTurn, Bool.and_eq_true, Bool.or_eq_true] at ht
  obtain ⟨⟨hxy, hyx⟩, hc⟩ := ht
  obtain ⟨h1, h2, h3⟩ := Oper.apart_spec hxy
  obtain ⟨g1, g2, g3⟩ := Oper.apart_spec hyx
  by_cases hpy : isP P y = true
  · -- y yields in every world
    obtain ⟨ds, z, w', h'⟩ := opw_some h
    obtain ⟨u, hu, _⟩ := opw_P hpy h'
    have hu' : Yields P ops y u a := by
      have e1 := execOp_put (ops := ops) y hsy { a with defers := ds } x.dst z h1
      have e2 := wanted_put (ops := ops) y { a with defers := ds } x.dst z h1
      have := hu.of_same (a' := { a with defers := ds }) e1.symm e2.symm
      exact this.of_same rfl rfl
    refine (Yields.yw hu' w).opw (opw_shift hyx hsx ?_)
    refine opw_mono (fun a' w' hh => ?_) (opw_keep hyx hsy hu' h)
    obtain ⟨hy', hk⟩ := hh
    obtain ⟨u2, hy2, hk2⟩ := opw_P hpy hk
    have : u2 = u := by
      rcases hy' with ⟨q1, q2⟩ | ⟨q1, q2⟩
      · rcases hy2 with ⟨_, r2⟩ | ⟨r1, _⟩
        · have := (q2 w').symm.trans (r2 w')
          cases this
          rfl
        · rw [q1] at r1; cases r1
      · rcases hy2 with ⟨r1, _⟩ | ⟨_, r2⟩
        · rw [q1] at r1; cases r1
        · rw [q2, r2]
    rw [← this]
    exact hk2
  · by_cases hpx : isP P x = true
    · obtain ⟨v, hv, hk⟩ := opw_P hpx h
      have hk2 : opw P ops Q y (fun a' w' => K (a'.put x.dst v) w') a w := by
        -- take x's slot off again
        unfold opw at hk ⊢
        rw [wanted_put y a x.dst v h1] at hk
        split
        · rename_i hw
          rw [if_pos hw] at hk
          unfold Oper.wp at *
          rw [execOp_put y hsy a x.dst v h1] at hk
          generalize (execOp a.eval y).run P w = r at *
          cases r with
          | ok n w' =>
            cases n <;> simp only [Oper.upon] at hk ⊢
            case value u => rw [← Act.put_comm a v u h2]; exact hk
            case skip => rw [← Act.put_comm a v undef h2]; exact hk
            case defer d =>
              rw [← Act.put_comm _ v undef h2, ← Act.put_defers]
              exact hk
            case enter f args =>
              refine Calls.mono hk fun e w'' he => ?_
              cases e with
              | returned u => simp only at he ⊢; rw [← Act.put_comm a v u h2]; exact he
              | panicked c => exact he
              | outgrown => exact he
            case row row args => exact Rows.mono hk fun u w'' he => by rw [← Act.put_comm a v u h2]; exact he
          | halt z w' => cases z <;> first | exact hk | exact (hk : False).elim
        · rename_i hw
          rw [if_neg hw] at hk
          rw [← Act.put_comm a v undef h2]
          exact hk
      exact opw_mono (fun a' w' hh => (Yields.yw hh.1 w').opw hh.2) (opw_keep hxy hsx hv hk2)
    · have hc2 : (isR P x = true ∧ isR P y = true) ∨ (isR P x = true ∧ isM y = true ∨ isM x = true ∧ isR P y = true) := by
        rcases hc with hc | hc
        · rcases hc with hc | hc
          · exact absurd hc hpx
          · exact absurd hc hpy
        · exact hc
      rcases hc2 with hR | ⟨hR, hM⟩ | ⟨hM, hR⟩
      rotate_left
      · obtain ⟨v, hv, hk⟩ := opw_R hR h
        obtain ⟨u, d, hu, hk2⟩ := opw_M hM hk
        have hu' : MW P ops y u a w d := hu.same (execOp_put y hsy a x.dst v h1).symm (wanted_put y a x.dst v h1).symm
        have hv' : YW P ops x v (a.put y.dst u) (redrawn w d) := (hv.same (execOp_put x hsx a y.dst u g1) (wanted_put x a y.dst u g1)).ext (Ext.redrawn w d)
        refine hu'.opw (hv'.opw ?_)
        rw [← Act.put_comm a v u h2]
        exact hk2
      · obtain ⟨v, d, hv, hk⟩ := opw_M hM h
        obtain ⟨u, hu, hk2⟩ := opw_R hR hk
        have hu' : YW P ops y u a w := (hu.ext (Ext.back w d)).same (execOp_put y hsy a x.dst v h1).symm (wanted_put y a x.dst v h1).symm
        have hv' : MW P ops x v (a.put y.dst u) w d := hv.same (execOp_put x hsx a y.dst u g1) (wanted_put x a y.dst u g1)
        refine hu'.opw (hv'.opw ?_)
        rw [← Act.put_comm a v u h2]
        exact hk2
      obtain ⟨v, hv, hk⟩ := opw_R hR.1 h
      obtain ⟨u, hu, hk2⟩ := opw_R hR.2 hk
      have hu' : YW P ops y u a w := hu.same (execOp_put y hsy a x.dst v h1).symm (wanted_put y a x.dst v h1).symm
      have hv' : YW P ops x v (a.put y.dst u) w := hv.same (execOp_put x hsx a y.dst u g1) (wanted_put x a y.dst u g1)
      refine hu'.opw (hv'.opw ?_)
      rw [← Act.put_comm a v u h2]
      exact hk2
end

/-- May the region be walked in the order of its text? -/
def textOk (P : Program) (ops : Array Oper) : Bool :=
  let B := Region.before ops
  (List.range ops.size).all fun i =>
    match ops[i]? with
    | none => false
    | some o =>
      (match o.op with | .select .. => false | _ => true) &&
      (o.after.all fun e => !Region.binds .any e || decide (e.on < i)) && decide (B.getD i 0 < 2 ^ i) &&
      (List.range i).all fun j =>
        if (B.getD i 0).testBit j then o.after.any fun e => Region.binds .any e && (e.on == j || (B.getD e.on 0).testBit j)
        else match ops[j]? with
          | none => false
          | some x => mayTurn P ops x o

section
variable {P : Program} {ops : Array Oper} {Q : Exit → Act → World → Prop}
theorem textOk_spec (h : textOk P ops = true) {i : Nat} {o : Oper} (hi : ops[i]? = some o) :
    (∀ cs b, o.op ≠ .select cs b) ∧ ((∀ e ∈ o.after, Region.binds .any e = true → e.on < i) ∧ (Region.before ops).getD i 0 < 2 ^ i) ∧
    ∀ j, j < i → (((Region.before ops).getD i 0).testBit j = true ∧ ∃ e ∈ o.after, Region.binds .any e = true ∧ (e.on = j ∨ ((Region.before ops).getD e.on 0).testBit j = true)) ∨
      (((Region.before ops).getD i 0).testBit j = false ∧ ∃ x, ops[j]? = some x ∧ mayTurn P ops x o = true) := by
  have hlt : i < ops.size := (Array.getElem?_eq_some_iff.1 hi).1
  unfold textOk at h
  have h1 := List.all_eq_true.1 h i (List.mem_range.2 hlt)
  simp only [hi, Bool.and_eq_true] at h1
  obtain ⟨⟨⟨h2, h3⟩, h9⟩, h4⟩ := h1
  refine ⟨fun cs b hc => by simp [hc] at h2, ⟨fun e he hb => ?_, of_decide_eq_true h9⟩, fun j hj => ?_⟩
  · have := Array.all_eq_true_iff_forall_mem.1 h3 e he
    simpa [hb] using this
  · have h5 := List.all_eq_true.1 h4 j (List.mem_range.2 hj)
    by_cases hb : ((Region.before ops).getD i 0).testBit j = true
    · rw [if_pos hb] at h5
      obtain ⟨e, he, h6⟩ := Array.any_eq_true'.1 h5
      simp only [Bool.and_eq_true, Bool.or_eq_true, beq_iff_eq] at h6
      exact .inl ⟨hb, e, he, h6.1, h6.2⟩
    · rw [if_neg hb] at h5
      cases hx : ops[j]? with
      | none => rw [hx] at h5; cases h5
      | some x => rw [hx] at h5; exact .inr ⟨by simpa using hb, x, rfl, h5⟩

theorem wpOps_front (h : textOk P ops = true) {i : Nat} {o : Oper} (hi : ops[i]? = some o) (post : List Nat) : ∀ (pre : List Nat), (∀ j ∈ pre, ∃ x, ops[j]? = some x ∧ mayTurn P ops x o = true) →
    ∀ (a : Act) (w : World), wpOps P ops (Nrm Q) (pre ++ i :: post) a w → opw P ops Q o (wpOps P ops (Nrm Q) (pre ++ post)) a w := by
  intro pre
  induction pre with
  | nil =>
    intro _ a w hh
    rw [List.nil_append, wpOps_cons] at hh
    exact (opw_of hi).1 hh
  | cons j pre ih =>
    intro hp a w hh
    obtain ⟨x, hx, ht⟩ := hp j (by simp)
    rw [List.cons_append, wpOps_cons] at hh
    have h1 := opw_mono (fun a w => ih (fun k hk => hp k (by simp [hk])) a w) ((opw_of hx).1 hh)
    have h2 := opw_swap ht (textOk_spec h hx).1 (textOk_spec h hi).1 h1
    refine opw_mono (fun a w h3 => ?_) h2
    rw [List.cons_append, wpOps_cons]
    exact (opw_of hx).2 h3

theorem wpAny_text (h : textOk P ops = true) : ∀ (fuel : Nat) (listed : Array Bool) (rest : List Nat) (a : Act) (w : World),
    listed.size = ops.size → rest.length = fuel → rest.Pairwise (· < ·) → (∀ i, i ∈ rest ↔ i < ops.size ∧ listed.getD i true = false) →
    (∀ i j, listed.getD i false = true → j < i → ((Region.before ops).getD i 0).testBit j = true → listed.getD j false = true) →
    wpOps P ops (Nrm Q) rest a w → wpAny P .any ops Q fuel listed a w := by
  have none_ : ∀ (listed : Array Bool) (rest : List Nat), listed.size = ops.size → rest.Pairwise (· < ·) → (∀ i, i ∈ rest ↔ i < ops.size ∧ listed.getD i true = false) →
      Region.ready .any ops listed = [] → rest = [] := by
    intro listed rest hsz hp hm hr
    cases rest with
    | nil => rfl
    | cons i r =>
      exfalso
      obtain ⟨hi, hun⟩ := (hm i).1 (by simp)
      obtain ⟨o, ho⟩ : ∃ o, ops[i]? = some o := ⟨_, Array.getElem?_eq_getElem hi⟩
      have : i ∈ Region.ready .any ops listed := by
        rw [mem_ready]
        refine ⟨hun, o, ho, fun e he hb => ?_⟩
        have hlt := (textOk_spec h ho).2.1.1 e he hb
        have hnot : ¬ e.on ∈ i :: r := by
          intro hin
          rcases List.mem_cons.1 hin with h1 | h1
          · omega
          · have := (List.pairwise_cons.1 hp).1 _ h1
            omega
        rw [hm] at hnot
        have hlt2 : e.on < listed.size := by omega
        have : listed.getD e.on true ≠ false := fun hc => hnot ⟨by omega, hc⟩
        simp only [Array.getD_eq_getD_getElem?, Array.getElem?_eq_getElem hlt2, Option.getD_some] at this ⊢
        simpa using this
      rw [hr] at this
      cases this
  intro fuel
  induction fuel with
  | zero =>
    intro listed rest a w hsz hl hp hm hcl hh
    obtain rfl : rest = [] := List.eq_nil_of_length_eq_zero hl
    refine ⟨?_, hh⟩
    apply List.eq_nil_iff_forall_not_mem.2
    intro i hi
    obtain ⟨hun, o, ho, _⟩ := mem_ready.1 hi
    have := (hm i).2 ⟨(Array.getElem?_eq_some_iff.1 ho).1, hun⟩
    cases this
  | succ fuel ih =>
    intro listed rest a w hsz hl hp hm hcl hh
    refine ⟨fun hr => ?_, fun i hi => ?_⟩
    · have := none_ listed rest hsz hp hm hr
      subst this
      cases hl
    · obtain ⟨hun, o, ho, hdep⟩ := mem_ready.1 hi
      have hlt : i < ops.size := (Array.getElem?_eq_some_iff.1 ho).1
      have hin : i ∈ rest := (hm i).2 ⟨hlt, hun⟩
      -- whatever stands ahead of i by the bonds is listed
      have hanc : ∀ j, j < i → ((Region.before ops).getD i 0).testBit j = true → listed.getD j false = true := by
        intro j hj hb
        rcases (textOk_spec h ho).2.2 j hj with ⟨_, e, he, hbd, hc⟩ | ⟨hb', _⟩
        · have hl1 := hdep e he hbd
          rcases hc with rfl | hc
          · exact hl1
          · rcases Nat.lt_or_ge j e.on with h1 | h1
            · exact hcl e.on j hl1 h1 hc
            · rcases Nat.lt_or_ge e.on j with h2 | h2
              · have hon := (textOk_spec h ho).2.1.1 e he hbd
                obtain ⟨oe, hoe⟩ : ∃ oe, ops[e.on]? = some oe := ⟨_, Array.getElem?_eq_getElem (by omega)⟩
                have hsm := (textOk_spec h hoe).2.1.2
                have := Nat.testBit_lt_two_pow (Nat.lt_of_lt_of_le hsm (Nat.pow_le_pow_right (by omega) (Nat.le_of_lt h2)))
                rw [this] at hc
                cases hc
              · have : e.on = j := by omega
                rw [← this]
                exact hl1
        · rw [hb] at hb'
          cases hb'
      obtain ⟨pre, post, rfl⟩ := List.append_of_mem hin
      have hp1 := List.pairwise_append.1 hp
      have hp2 := List.pairwise_cons.1 hp1.2.1
      have hpre : ∀ j ∈ pre, ∃ x, ops[j]? = some x ∧ mayTurn P ops x o = true := by
        intro j hj
        have hji : j < i := hp1.2.2 j hj i (by simp)
        rcases (textOk_spec h ho).2.2 j hji with ⟨hb, _⟩ | ⟨_, hx⟩
        · have h1 := hanc j hji hb
          have h2 := ((hm j).1 (by simp [hj])).2
          have hlt2 : j < listed.size := by omega
          simp only [Array.getD_eq_getD_getElem?, Array.getElem?_eq_getElem hlt2, Option.getD_some] at h1 h2
          rw [h1] at h2
          cases h2
        · exact hx
      have h1 := wpOps_front h ho post pre hpre a w hh
      have h2 : opw P ops Q o (wpAny P .any ops Q fuel (listed.setIfInBounds i true)) a w := by
        refine opw_mono (fun a' w' h3 => ih (listed.setIfInBounds i true) (pre ++ post) a' w' (by simpa using hsz) (by simp at hl ⊢; omega) ?_ ?_ ?_ h3) h1
        · exact List.pairwise_append.2 ⟨hp1.1, hp2.2, fun x hx y hy => hp1.2.2 x hx y (by simp [hy])⟩
        · intro k
          by_cases hki : k = i
          · subst hki
            have n1 : k ∉ pre := fun hk => by have := hp1.2.2 k hk k (by simp); omega
            have n2 : k ∉ post := fun hk => by have := hp2.1 k hk; omega
            simp [n1, n2, hsz, hlt]
          · rw [getD_set_ne true (Ne.symm hki), ← hm k]
            simp [hki]
        · intro k j hk hjk hb
          by_cases hki : k = i
          · subst hki
            exact getD_set_true (hanc j hjk hb)
          · rw [getD_set_ne false (Ne.symm hki)] at hk
            exact getD_set_true (hcl k j hk hjk hb)
      have h3 := (opw_of ho).2 h2
      -- to the region's own end
      unfold wpOp at h3 ⊢
      simp only [ho] at h3 ⊢
      split
      · rename_i hw
        rw [if_pos hw] at h3
        rcases h3 with h3 | h3
        · left
          unfold Oper.wp at *
          generalize (execOp a.eval o).run P w = r at *
          cases r with
          | ok n w' =>
            cases n <;> simp only [Oper.upon] at h3 ⊢ <;> try exact h3
            case enter f args =>
              refine Calls.mono h3 fun e w'' he => ?_
              cases e with
              | returned v => exact he
              | panicked c => exact (he : False).elim
              | outgrown => exact (Nrm.lets he).elim
          | halt z w' => cases z <;> first | exact h3 | exact (h3 : False).elim
        · exact (Nrm.lets h3.2).elim
      · rename_i hw
        rw [if_neg hw] at h3
        exact h3

/-- A region that draws its order, walked in the order of its text. -/
theorem wp_region_text {id : Nat} {l : List Oper} {a : Act} {w : World} (hm : P.follows .mixedOrders = true) (hok : textOk P l.toArray = true)
    (h : wpList P l.toArray (Nrm Q) l a w.drew) : (Code.region id l.toArray true).wp P Q a w := by
  refine wp_region_any hm (wpAny_text hok _ _ (List.range l.toArray.size) a _ (by simp) (by simp) List.pairwise_lt_range ?_ ?_ ?_)
  · intro i
    simp only [List.mem_range]
    constructor
    · intro hi
      refine ⟨hi, ?_⟩
      simp only [Array.getD_eq_getD_getElem?]
      rw [Array.getElem?_replicate, if_pos hi]
      rfl
    · exact fun hi => hi.1
  · intro i j hi
    simp only [Array.getD_eq_getD_getElem?, Array.getElem?_replicate] at hi
    split at hi <;> simp at hi
  · rw [List.range_eq_range', List.size_toArray, wpOps_eq_wpList l 0 (by simp)]
    exact h
end
end Go.Proofs.YtagjdeekiiffjaaGreatDoor

/- A bracket expression with and without the sign that turns it; append onto a row that is full. No conditions. -/
import Derived.Test.YtgaohmmhpcgkgaaCsL
namespace Go.Proofs.Ytgaohmmhpcgkgaa
open Go.RowKit

theorem infou8n : (Try.prog.info? 5).map (fun i => (i.zero, i.size, i.bytes)) = some (some (.int .u8 0), 1, 1) := by kernel_rfl
section
variable {P : Program} (w : World)
/-- append onto a row that is full: new memory, and its size. -/
theorem wpList_append_news {ops : Array Oper} {rest : List Oper} {o : Oper} {a : Act} {Q : Exit → Act → World → Prop} (hgd : o.guard = none) (s x : Operand) (t : TypeId)
    (ho : o.op = .call { callee := .builtin .append, args := #[s, x], argTypes := #[t, t] })
    (e : TypeId) (i : TypeInfo) (z : Value) (ht : P.underlying t = some (.slice e)) (hi : P.info? e = some i) (hz : i.zero = some z) (hsize : i.size = 1) (hby : i.bytes = 1)
    (ad : Addr) (n : Nat) (hs : a.eval s = .slice (some ad) n n) (xs : List Value) (hxl : xs.length = n) (hx : Rd w (some ad) xs)
    (B : Addr) (m d : Nat) (hev : a.eval x = .slice (some B) m d) (ys : List Value) (hyl : ys.length = m) (hy : Rd w (some B) ys) (hm : 0 < m) (h63 : n + m ≤ 1000000)
    (h : ∀ c' w', Rd w' (some ⟨w.heap.size, 0, none⟩) (xs ++ ys) → n + m ≤ c' → c' ≤ maxLen → Kept (fun _ => False) w w' → wpList P ops Q rest (a.put o.dst (.slice (some ⟨w.heap.size, 0, none⟩) (n + m) c')) w') : wpList P ops Q (o :: rest) a w := by
  have hnews : ∀ j u, ys[j]? = some u → w.cell? (B.add j) = some u := by
    rintro j u hu
    obtain ⟨g, off, h, hc⟩ := hy.get hu
    cases h
    rw [Addr.add]
    split
    · subst j; simpa using hc
    · exact hc
  have holds : ∀ j u, xs[j]? = some u → w.cell? (ad.add j) = some u := by
    rintro j u hu
    obtain ⟨g, off, h, hc⟩ := hx.get hu
    cases h
    rw [Addr.add]
    split
    · subst j; simpa using hc
    · exact hc
  have hge := grownCap_ge w (n + m) n e
  have hle : grownCap w (n + m) n e ≤ maxLen := by
    unfold grownCap maxLen
    simp only [Question.cut]
    have : 0 < 2 ^ 63 - (n + m) := by omega
    have := Nat.mod_lt (w.tape w.drawn (.appendCap (n + m) n e)) this
    omega
  have key := run_append_grow (P := P) w t o.type e i z ht hi hz ad n n xs (by rw [hsize]; omega) holds B m d ys (by rw [hsize]; omega) hnews (by omega) (by omega) (growslice_fits (by omega) (by rw [hby]; omega))
  refine wpList_plain hgd fun K hK => ?_
  unfold Oper.wp execOp
  simp only [ho, resolve, invoke, builtin, Sem.run_bind, Sem.run_pure, Result.andThen_ok, List.map_toArray, List.map_cons, List.map_nil, hs, hev, key]
  refine hK _ _ (h _ _ ?_ hge hle (((Kept.refl _ w).drew).alloc _))
  intro _
  refine ⟨_, _, rfl, fun j u hu => ?_⟩
  rw [World.cell?_alloc_at _ _ _ _ (by simp)]
  have hj : j < (xs ++ ys).length := (List.getElem?_eq_some_iff.1 hu).1
  rw [Nat.zero_add, Array.getElem?_append_left (by simpa using hj), List.append_toArray]
  simpa using hu
end

/-- One place further on. -/
def MR.on : MR → MR
  | .ok s q => .ok s (q + 1)
  | .bad a c => .bad (a + 1) c
section
variable {b b' : List UInt8} {p q : Nat}
theorem hasB_on (h : ∀ p, 1 ≤ p → b'.drop (p + 1) = b.drop p) (hp : 1 ≤ p) (lit : List UInt8) : hasB b' (p + 1) lit = hasB b p lit := by
  unfold hasB
  rw [h p hp]
theorem get_on (h : ∀ p, 1 ≤ p → b'.drop (p + 1) = b.drop p) (hp : 1 ≤ p) : b'[p + 1]? = b[p]? := by
  have h1 := congrArg (fun l => l[0]?) (h p hp)
  simpa using h1
theorem oneM_on (h : ∀ p, 1 ≤ p → b'.drop (p + 1) = b.drop p) (hp : 1 ≤ p) : oneM b' (p + 1) = (oneM b p).map fun x => (x.1, x.2 + 1) := by
  unfold oneM
  rw [get_on h hp, get_on h (p := p + 1) (by omega)]
  cases b[p]? with
  | none => rfl
  | some c =>
    simp only
    split
    · rfl
    · cases b[p + 1]? <;> rfl
theorem classM_on (h : ∀ p, 1 ≤ p → b'.drop (p + 1) = b.drop p) (hl : b'.length = b.length + 1) (hp : 1 ≤ p) : classM b' (p + 1) = (classM b p).on := by
  unfold classM
  rw [show p + 1 + 2 = (p + 2) + 1 by omega, h (p + 2) (by omega), hl]
  split
  · rfl
  · cases clsOf ((b.drop (p + 2)).take (Lib.index (b.drop (p + 2)) [58, 93]).toNat) with
    | none => rfl
    | some s => simp only [MR.on]; congr 1; omega
theorem memberM_on (h : ∀ p, 1 ≤ p → b'.drop (p + 1) = b.drop p) (hl : b'.length = b.length + 1) (hp : 1 ≤ p) : memberM b' (p + 1) = (memberM b p).on := by
  unfold memberM
  rw [hasB_on h hp, classM_on h hl hp, oneM_on h hp, hl]
  split
  · rfl
  · cases h1 : oneM b p with
    | none => rfl
    | some x =>
      obtain ⟨c, q⟩ := x
      have hq := (oneM_ok h1).2.1
      simp only [Option.map_some]
      rw [hasB_on h (p := q) (by omega), hasB_on h (p := q) (by omega), hasB_on h (p := q + 1) (by omega), oneM_on h (p := q + 1) (by omega)]
      split
      · rfl
      · split
        · rfl
        · cases h2 : oneM b (q + 1) with
          | none => rfl
          | some y =>
            obtain ⟨d, r⟩ := y
            simp only [Option.map_some]
            split <;> rfl
theorem loopM_on (h : ∀ p, 1 ≤ p → b'.drop (p + 1) = b.drop p) (hl : b'.length = b.length + 1) : ∀ (k p : Nat) (s : CS), 1 ≤ p → b.length < p + k → p ≤ b.length → loopM b' (k + 1) (p + 1) s = (loopM b k p s).on ∧ loopM b' k (p + 1) s = (loopM b k p s).on
  | 0, p, s, hp, hk, hpl => by omega
  | k + 1, p, s, hp, hk, hpl => by
    have key : ∀ j, (∀ q s, p < q → q ≤ b.length → (j = k ∨ j = k + 1) → loopM b' j (q + 1) s = (loopM b k q s).on) → (j = k ∨ j = k + 1) → loopM b' (j + 1) (p + 1) s = (loopM b (k + 1) p s).on := by
      intro j hj hjk
      simp only [loopM]
      rw [memberM_on h hl hp]
      cases hm : memberM b p with
      | bad a c => rfl
      | ok m q =>
        obtain ⟨h1, h2⟩ := memberM_ok hm
        simp only [MR.on]
        rw [hasB_on h (p := q) (by omega)]
        split
        · rfl
        · exact hj q _ h1 h2 hjk
    refine ⟨key (k + 1) (fun q s h1 h2 _ => ?_) (.inr rfl), key k (fun q s h1 h2 _ => ?_) (.inl rfl)⟩
    · exact (loopM_on h hl k q s (by omega) (by omega) h2).1
    · exact (loopM_on h hl k q s (by omega) (by omega) h2).2
end
theorem loopM_end {bs : List UInt8} : ∀ (k p : Nat) (s s' : CS) (q : Nat), loopM bs k p s = .ok s' q → hasB bs q [93] = true
  | 0, p, s, s', q, h => by cases h
  | k + 1, p, s, s', q, h => by
    simp only [loopM] at h
    split at h
    · cases h
    · split at h
      · cases h
        assumption
      · exact loopM_end k _ _ _ _ h
/-- With the sign in front, what is not in it, and one byte more; else both are refused. -/
theorem bracket_not (b : List UInt8) (h1 : b[0]? = some 91) (h2 : b[1]? ≠ some 94) (hl : 2 ≤ b.length) :
    (∃ s n, n ≤ b.length ∧ bracketM b ((0 : Nat) : Int) = .ok s n ∧ bracketM (91 :: 94 :: b.drop 1) ((0 : Nat) : Int) = .ok s.not (n + 1)) ∨
    (∃ a c a' c', bracketM b ((0 : Nat) : Int) = .bad a c ∧ bracketM (91 :: 94 :: b.drop 1) ((0 : Nat) : Int) = .bad a' c') := by
  have hd : ∀ p, 1 ≤ p → (91 :: 94 :: b.drop 1).drop (p + 1) = b.drop p := by
    intro p hp
    obtain ⟨q, rfl⟩ : ∃ q, p = q + 1 := ⟨p - 1, by omega⟩
    simp only [List.drop_succ_cons, List.drop_drop]
    congr 1
    omega
  have hl' : (91 :: 94 :: b.drop 1).length = b.length + 1 := by simp; omega
  have hn : hasB b 1 [94] = false := by
    unfold hasB
    cases hb : b.drop 1 with
    | nil => rfl
    | cons x t =>
      have hx : b[1]? = some x := by
        have := congrArg (fun l => l[0]?) hb
        simpa using this
      rw [hx] at h2
      have : ¬ (94 : UInt8) = x := fun e => h2 (by rw [e])
      simp [List.isPrefixOf, this]
  have hy : hasB (91 :: 94 :: b.drop 1) 1 [94] = true := by simp [hasB, List.isPrefixOf]
  have hb0 : ¬ (((0 : Nat) : Int) < 0 ∨ (b.length : Int) ≤ ((0 : Nat) : Int) ∨ b[((0 : Nat) : Int).toNat]? ≠ some 91) := by
    simp only [Int.toNat_natCast, h1]
    rintro (h | h | h)
    · omega
    · omega
    · exact h rfl
  have hb1 : ¬ (((0 : Nat) : Int) < 0 ∨ ((91 :: 94 :: b.drop 1).length : Int) ≤ ((0 : Nat) : Int) ∨ (91 :: 94 :: b.drop 1)[((0 : Nat) : Int).toNat]? ≠ some 91) := by
    rw [hl']
    simp
  have hlo := (loopM_on hd hl' (b.length + 1) 1 CS.empty (by omega) (by omega) (by omega)).1
  unfold bracketM
  rw [if_neg hb0, if_neg hb1]
  simp only [Int.toNat_natCast, Nat.zero_add, hn, hy, if_true, Bool.false_eq_true, if_false, Nat.add_zero, Nat.sub_zero]
  rw [hl', hlo]
  cases he : loopM b (b.length + 1) 1 CS.empty with
  | bad a c => exact .inr ⟨a, c, a + 1, c, rfl, rfl⟩
  | ok s q => exact .inl ⟨s, q + 1, hasB_le (loopM_end _ _ _ _ _ he) (by simp), rfl, rfl⟩
end Go.Proofs.Ytgaohmmhpcgkgaa

/- Steps in memory, which of them are a program, and the comparison of sets. No conditions. -/
import Derived.Test.YtjjlifljdbidbaaMem
import Derived.ChangeKeysEq
namespace Go.Proofs.Ytjjlifljdbidbaa
open Go.RowKit

theorem cells_u64' : Try.prog.cellsOf 25 = 1 := by kernel_rfl
theorem info_u64' : ∃ i, Try.prog.info? 25 = some i := info_of_underlying Try.underlying25
theorem eqIn_u64' (n : Nat) (x y : Int) (W : World) : (Op.equalIn (n + 1) 25 (.int .u64 x) (.int .u64 y)).run Try.prog W = .ok (x == y) W := by
  have hu := Try.underlying25
  simp [Op.equalIn, go_sem, hu]
theorem part_u64' (cs : Array Value) (i : Nat) (v : Value) (h : cs[i]? = some v) (W : World) : (part 25 cs i).run Try.prog W = .ok v W := by
  have hu := Try.underlying25
  simp [part, isAgg, run_underlying hu, h]
theorem eqIn_set' (n : Nat) (x0 x1 x2 x3 y0 y1 y2 y3 : Int) (W : World) :
    (Op.equalIn (n + 2) 27 (.agg #[.int .u64 x0, .int .u64 x1, .int .u64 x2, .int .u64 x3]) (.agg #[.int .u64 y0, .int .u64 y1, .int .u64 y2, .int .u64 y3])).run Try.prog W = .ok (x0 == y0 && (x1 == y1 && (x2 == y2 && x3 == y3))) W := by
  have hu := Try.underlying27
  obtain ⟨i, hi⟩ := info_u64'
  have h1 := eqIn_u64' n
  have p0 := fun a b c d W => part_u64' #[a, b, c, d] 0 a rfl W
  have p1 := fun a b c d W => part_u64' #[a, b, c, d] 1 b rfl W
  have p2 := fun a b c d W => part_u64' #[a, b, c, d] 2 c rfl W
  have p3 := fun a b c d W => part_u64' #[a, b, c, d] 3 d rfl W
  rw [run_equalIn_array W (n + 1) _ _ hu hi, cells_u64']
  have hr : List.range 4 = [0, 1, 2, 3] := rfl
  rw [hr]
  cases e0 : x0 == y0 <;> cases e1 : x1 == y1 <;> cases e2 : x2 == y2 <;> cases e3 : x3 == y3 <;>
    simp [Op.eqItems, p0, p1, p2, p3, h1, e0, e1, e2, e3]

/-- A step. -/
structure ST where
  kind : Int
  a : Int
  b : Int
  c : Int
  d : Int
  x : Int
  y : Int
def ST.cells (v : ST) : Array Value := #[.int .i64 v.kind, .int .u64 v.a, .int .u64 v.b, .int .u64 v.c, .int .u64 v.d, .int .i64 v.x, .int .i64 v.y]
structure StepAt (w : World) (g off : Nat) (v : ST) : Prop where
  c0 : w.cell? ⟨g, off, none⟩ = some (.int .i64 v.kind)
  c1 : w.cell? ⟨g, off + 1, none⟩ = some (.int .u64 v.a)
  c2 : w.cell? ⟨g, off + 2, none⟩ = some (.int .u64 v.b)
  c3 : w.cell? ⟨g, off + 3, none⟩ = some (.int .u64 v.c)
  c4 : w.cell? ⟨g, off + 4, none⟩ = some (.int .u64 v.d)
  c5 : w.cell? ⟨g, off + 5, none⟩ = some (.int .i64 v.x)
  c6 : w.cell? ⟨g, off + 6, none⟩ = some (.int .i64 v.y)
def StepsAt (w : World) (A : Option Addr) (l : List ST) : Prop :=
  ∀ i v, l[i]? = some v → ∃ g off, A = some ⟨g, off, none⟩ ∧ StepAt w g (off + i * 7) v
theorem StepAt.kept {w w' : World} {g off : Nat} {v : ST} (h : StepAt w g off v) (hk : Kept (fun _ => False) w w') : StepAt w' g off v := by
  have hlt : g < w.heap.size := World.block_lt_of_cell? w _ h.c0
  have hb := hk.block g hlt id
  have e : ∀ o, w'.cell? ⟨g, o, none⟩ = w.cell? ⟨g, o, none⟩ := fun o => World.cell?_of_block (w := w) hb
  exact ⟨(e _).trans h.c0, (e _).trans h.c1, (e _).trans h.c2, (e _).trans h.c3, (e _).trans h.c4, (e _).trans h.c5, (e _).trans h.c6⟩
theorem StepsAt.kept {w w' : World} {A : Option Addr} {l : List ST} (h : StepsAt w A l) (hk : Kept (fun _ => False) w w') : StepsAt w' A l := fun i v hv => by
  obtain ⟨g, off, e, ha⟩ := h i v hv
  exact ⟨g, off, e, ha.kept hk⟩
theorem StepsAt.get {w : World} {A : Option Addr} {l : List ST} (h : StepsAt w A l) {i : Nat} (hi : i < l.length) : ∃ g off, A = some ⟨g, off, none⟩ ∧ StepAt w g (off + i * 7) l[i] := h i _ (List.getElem?_eq_getElem hi)

def ST.zero (v : ST) : Bool := v.a == 0 && (v.b == 0 && (v.c == 0 && v.d == 0))
def ST.ok (n : Nat) (v : ST) : Bool :=
  decide (0 ≤ v.kind ∧ v.kind ≤ 4) && (decide (v.kind = 0) || v.zero) && (if v.kind = 4 then decide (v.x = 0) else decide (0 ≤ v.x ∧ v.x < n)) && (if v.kind = 1 then decide (0 ≤ v.y ∧ v.y < n) else decide (v.y = 0))
def anyFound (l : List ST) : Bool := l.any fun v => decide (v.kind = 4)
def validM (l : List ST) : Bool := l.all (ST.ok l.length) && anyFound l
theorem valid_bad {l : List ST} {j : Nat} (hj : j < l.length) (h : (l[j]).ok l.length = false) : validM l = false := by
  unfold validM
  have : l.all (ST.ok l.length) = false := by
    rw [List.all_eq_false]
    exact ⟨l[j], List.getElem_mem hj, by rw [h]; simp⟩
  rw [this]
  rfl
theorem valid_end {l : List ST} (h : ∀ i (hi : i < l.length), (l[i]).ok l.length = true) : validM l = anyFound l := by
  unfold validM
  have : l.all (ST.ok l.length) = true := by
    rw [List.all_eq_true]
    intro v hv
    obtain ⟨i, hi, rfl⟩ := List.getElem_of_mem hv
    exact h i hi
  rw [this]
  rfl
theorem found_succ {l : List ST} {j : Nat} (hj : j < l.length) : anyFound (l.take (j + 1)) = (anyFound (l.take j) || decide ((l[j]).kind = 4)) := by
  unfold anyFound
  rw [List.take_succ_eq_append_getElem hj, List.any_append]
  simp
/-- What the loop over the steps holds. -/
def StR (w : World) (l : List ST) (i f : Value) (W : World) : Prop :=
  ∃ j : Nat, j ≤ l.length ∧ i = .int .i64 j ∧ f = .bool (anyFound (l.take j)) ∧ (∀ i (hi : i < l.length), i < j → (l[i]).ok l.length = true) ∧ Kept (fun _ => False) w W
theorem StR.step {w W' : World} {l : List ST} {j : Nat} {f : Bool} (hj : j < l.length) (hf : f = anyFound (l.take j)) (ho : ∀ i (hi : i < l.length), i < j → (l[i]).ok l.length = true) (hk : Kept (fun _ => False) w W') (h : (l[j]).ok l.length = true) {f' : Bool} (hf' : f' = (f || decide ((l[j]).kind = 4))) :
    StR w l (.int .i64 ((j : Int) + 1)) (.bool f') W' := by
  refine ⟨j + 1, hj, by simp, by rw [found_succ hj, ← hf, hf'], fun i hi hij => ?_, hk⟩
  by_cases e : i = j
  · subst e; exact h
  · exact ho i hi (by omega)
end Go.Proofs.Ytjjlifljdbidbaa

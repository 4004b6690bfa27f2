/- errors.Is at two of the program's own error numbers; the number of an error. No conditions. -/
import Derived.Test.YtpdlpiepgeanjaaBase
import Derived.LaidEql
import Derived.Stop.Asserts
import Derived.RowKitTokens
namespace Go.Proofs.Ytpdlpiepgeanjaa
open Go.RowKit Go.Extern.Stop Go.Stop Go.Extern

section
variable {P : Program} (w : World)
theorem run_equalIn_iface_int (d : Nat) {ti tn : TypeId} {ms : Array (String × TypeId)} {i : TypeInfo} {k : IntKind} (a b : Int)
    (hi : P.underlying ti = some (.interface ms)) (hn : P.underlying tn = some (.int k)) (hinfo : P.info? tn = some i) (hcomp : i.comparable = true) :
    (Op.equalIn (d + 2) ti (.iface tn (.int k a)) (.iface tn (.int k b))).run P w = .ok (a == b) w := by
  simp [Op.equalIn, run_underlying hi, run_underlying hn, typeInfo, hinfo, hcomp]
theorem run_eql_iface_int {ti tn : TypeId} {ms : Array (String × TypeId)} {i : TypeInfo} {k : IntKind} (a b : Int)
    (hi : P.underlying ti = some (.interface ms)) (hn : P.underlying tn = some (.int k)) (hinfo : P.info? tn = some i) (hcomp : i.comparable = true) :
    (binOp .eql ti (.iface tn (.int k a)) (.iface tn (.int k b))).run P w = .ok (.bool (a == b)) w := by
  simp only [binOp]
  simp [Op.equal, Op.maxDepth, run_equalIn_iface_int w 9998 a b hi hn hinfo hcomp]
end

theorem eno_typeOf (v : Value) (w : World) : (Extern.ReflectliteType.typeOf #[.iface 60 v]).run Try.prog w = .ok (.iface 75 (.agg #[.pointer (some ⟨0, 60, none⟩)])) w := by kernel_rfl
def cmpM : Array Value → Sem Value := Extern.ReflectliteType.method fun t => do Extern.Rtype.noPackHeld "Comparable" t; pure (.bool (← typeInfo t).comparable)
theorem eno_comparable (w : World) : (cmpM #[.agg #[.pointer (some ⟨0, 60, none⟩)]]).run Try.prog w = .ok (.bool true) w := by kernel_rfl
theorem eno_method (v : Value) (w : World) : (Go.method 218 75 v "Comparable").run Try.prog w = .ok (51, v) w := by kernel_rfl
theorem eno_comp : (Try.prog.info? 60).map (·.comparable) = some true := by kernel_rfl
theorem eno_noIs (v : Value) (xT : TypeId) (w : World) : (Instr.typeAssert (.iface 60 v) xT 77 true).run Try.prog w = .ok (.tuple #[.nilIface, .bool false]) w := run_typeAssert_lacksB Try.underlying77 (by kernel_rfl) (by kernel_rfl) v xT w
theorem eno_noUnwrap (v : Value) (xT : TypeId) (w : World) : (Instr.typeAssert (.iface 60 v) xT 80 true).run Try.prog w = .ok (.tuple #[.nilIface, .bool false]) w := run_typeAssert_lacksB Try.underlying80 (by kernel_rfl) (by kernel_rfl) v xT w
theorem eno_noUnwraps (v : Value) (xT : TypeId) (w : World) : (Instr.typeAssert (.iface 60 v) xT 82 true).run Try.prog w = .ok (.tuple #[.nilIface, .bool false]) w := run_typeAssert_lacksB Try.underlying82 (by kernel_rfl) (by kernel_rfl) v xT w

set_option maxRecDepth 100000 in
/-- errors.Is at two error numbers. -/
theorem is_errno (k n : Int) (w : World) :
    Calls Try.prog 28 #[.iface 60 (.int .i64 k), .iface 60 (.int .i64 n)] w fun e w' => e = .returned (.bool (k == n)) ∧ w = w' := by
  obtain ⟨i, hi, hcmp⟩ := Option.map_eq_some_iff.1 eno_comp
  have h8 := @run_callFunc_extern Try.prog 30 _ Extern.ReflectliteType.typeOf Try.func30 (by kernel_rfl) (by kernel_rfl) (by kernel_rfl) (by kernel_rfl)
  have h32 := @run_callFunc_extern Try.prog 51 _ cmpM Try.func51 (by kernel_rfl) (by kernel_rfl) (by kernel_rfl) (by kernel_rfl)
  have tT := eno_typeOf
  have cT := eno_comparable
  have mR := eno_method
  have nE := eno_noIs
  have uE := eno_noUnwrap
  have vE := eno_noUnwraps
  have heq := run_eql_iface_int (P := Try.prog) w k n Try.underlying30 Try.underlying60 hi hcmp
  by_cases hk : k = n
  · subst hk
    go_enter Try.func28, Try.ntmps28
    go_wp2
    refine wp_loop_rounds 1 ?_
    rw [rounds_succ]
    go_wp2
    go_ret
    exact ⟨by simp, rfl⟩
  · have hb : (k == n) = false := by simpa using hk
    rw [hb] at heq
    go_enter Try.func28, Try.ntmps28
    go_wp2
    refine wp_loop_rounds 1 ?_
    rw [rounds_succ]
    go_wp2
    go_ret
    exact ⟨by rw [hb]; rfl, rfl⟩
/-- The number of no error, and of an error number. -/
theorem code_nil (w : World) : Calls Try.prog 19 #[.nilIface] w fun e w' => e = .returned (.int .i64 0) ∧ w = w' := by
  go_enter Try.func19, Try.ntmps19
  go_wp2
  go_ret
  exact ⟨rfl, rfl⟩
theorem code_errno (k : Int) (h1 : 1 ≤ k) (h2 : k ≤ 25) (w : World) : Calls Try.prog 19 #[.iface 60 (.int .i64 k)] w fun e w' => e = .returned (.int .i64 k) ∧ w = w' := by
  go_enter Try.func19, Try.ntmps19
  go_wp2
  go_loop [3] (fun i => ∃ n : Int, 1 ≤ n ∧ n ≤ k ∧ i = .int .i64 n) (fun i => (26 - intOf i).toNat)
  case atStart => exact ⟨1, by omega, h1, rfl⟩
  case round =>
    obtain ⟨n, hn1, hn2, rfl⟩ := hrel
    by_cases hk : k = n
    · subst hk
      go_wp2_with (go_at_call 28; refine (is_errno k k _).mono ?_; rintro e w' ⟨rfl, rfl⟩)
      go_ret
      exact ⟨rfl, rfl⟩
    · have hb : (k == n) = false := by simpa using hk
      go_wp2_with (go_at_call 28; refine (is_errno k n _).mono ?_; rintro e w' ⟨rfl, rfl⟩)
      go_round
      case rel => exact ⟨n + 1, by omega, by omega, rfl⟩
      case measure => simp [intOf]; omega
end Go.Proofs.Ytpdlpiepgeanjaa

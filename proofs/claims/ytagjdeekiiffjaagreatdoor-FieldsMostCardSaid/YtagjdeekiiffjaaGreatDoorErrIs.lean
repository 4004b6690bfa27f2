/- errors.Is at two of the program's own error numbers; the number of an error. No conditions. -/
import Derived.Test.YtagjdeekiiffjaaGreatDoorBase
import Derived.LaidEql
import Derived.Stop.Asserts
import Derived.RowKitTokens
namespace Go.Proofs.YtagjdeekiiffjaaGreatDoor
open Go.RowKit Go.Extern.Stop Go.Stop Go.Extern

section
variable {P : Program} (w : World)
theorem run_equalIn_iface_int (d : Nat) {ti tn : TypeId} {ms : Array (String × TypeId)} {i : TypeInfo} {k : IntKind} (a b : Int)
    (hi : P.underlying ti = some (.interface ms)) (hn : P.underlying tn = some (.int k)) (hinfo : P.info? tn = some i) (hcomp : i.comparable = true) :
    (Op.equalIn (d + 2) ti (.iface tn (.int k a)) (.iface tn (.int k b))).run P w = .ok (a == b) w := by
  simp [Op.equalIn, run_underlying hi, run_underlying hn, typeInfo, hinfo, hcomp]
theorem run_eql_iface_int {ti tn : TypeId} {ms : Array (String × TypeId)} {i : TypeInfo} {k : IntKind} (a b : Int)
    (hi : P.underlying ti = some (.interface ms)) (hn : P.underlying tn = some (.int k)) (hinfo : P.info? tn = some i) (hcomp : i.comparable = true) :
    (binOp .eql ti (.iface tn (.int k a)) (.iface tn (.int k b))).run P w = .ok (.bool (a == b)) w := by
  simp only [binOp]
  simp [Op.equal, Op.maxDepth, run_equalIn_iface_int w 9998 a b hi hn hinfo hcomp]
end

theorem eno_typeOf (v : Value) (w : World) : (Extern.ReflectliteType.typeOf #[.iface 74 v]).run Tryz.prog w = .ok (.iface 151 (.agg #[.pointer (some ⟨4, 74, none⟩)])) w := by kernel_rfl
def cmpM : Array Value → Sem Value := Extern.ReflectliteType.method fun t => do Extern.Rtype.noPackHeld "Comparable" t; pure (.bool (← typeInfo t).comparable)
theorem eno_comparable (w : World) : (cmpM #[.agg #[.pointer (some ⟨4, 74, none⟩)]]).run Tryz.prog w = .ok (.bool true) w := by kernel_rfl
theorem eno_method (v : Value) (w : World) : (Go.method 363 151 v "Comparable").run Tryz.prog w = .ok (185, v) w := by kernel_rfl
theorem eno_comp : (Tryz.prog.info? 74).map (·.comparable) = some true := by kernel_rfl
theorem eno_noIs (v : Value) (xT : TypeId) (w : World) : (Instr.typeAssert (.iface 74 v) xT 175 true).run Tryz.prog w = .ok (.tuple #[.nilIface, .bool false]) w := run_typeAssert_lacksB Tryz.underlying175 (by kernel_rfl) (by kernel_rfl) v xT w
theorem eno_noUnwrap (v : Value) (xT : TypeId) (w : World) : (Instr.typeAssert (.iface 74 v) xT 158 true).run Tryz.prog w = .ok (.tuple #[.nilIface, .bool false]) w := run_typeAssert_lacksB Tryz.underlying158 (by kernel_rfl) (by kernel_rfl) v xT w
theorem eno_noUnwraps (v : Value) (xT : TypeId) (w : World) : (Instr.typeAssert (.iface 74 v) xT 160 true).run Tryz.prog w = .ok (.tuple #[.nilIface, .bool false]) w := run_typeAssert_lacksB Tryz.underlying160 (by kernel_rfl) (by kernel_rfl) v xT w

set_option maxRecDepth 100000 in
/-- errors.Is at two error numbers. -/
theorem is_errno (k n : Int) (w : World) :
    Calls Tryz.prog 45 #[.iface 74 (.int .i64 k), .iface 74 (.int .i64 n)] w fun e w' => e = .returned (.bool (k == n)) ∧ w = w' := by
  obtain ⟨i, hi, hcmp⟩ := Option.map_eq_some_iff.1 eno_comp
  have h8 := @run_callFunc_extern Tryz.prog 74 _ Extern.ReflectliteType.typeOf Tryz.func74 (by kernel_rfl) (by kernel_rfl) (by kernel_rfl) (by kernel_rfl)
  have h32 := @run_callFunc_extern Tryz.prog 185 _ cmpM Tryz.func185 (by kernel_rfl) (by kernel_rfl) (by kernel_rfl) (by kernel_rfl)
  have tT := eno_typeOf
  have cT := eno_comparable
  have mR := eno_method
  have nE := eno_noIs
  have uE := eno_noUnwrap
  have vE := eno_noUnwraps
  have heq := run_eql_iface_int (P := Tryz.prog) w k n Tryz.underlying28 Tryz.underlying74 hi hcmp
  by_cases hk : k = n
  · subst hk
    go_enter Tryz.func45, Tryz.ntmps45
    go_wp2
    refine wp_loop_rounds 1 ?_
    rw [rounds_succ]
    go_wp2
    go_ret
    exact ⟨by simp, rfl⟩
  · have hb : (k == n) = false := by simpa using hk
    rw [hb] at heq
    go_enter Tryz.func45, Tryz.ntmps45
    go_wp2
    refine wp_loop_rounds 1 ?_
    rw [rounds_succ]
    go_wp2
    go_ret
    exact ⟨by rw [hb]; rfl, rfl⟩
/-- The number of no error, and of an error number. -/
theorem code_nil (w : World) : Calls Tryz.prog 19 #[.nilIface] w fun e w' => e = .returned (.int .i64 0) ∧ w = w' := by
  go_enter Tryz.func19, Tryz.ntmps19
  go_wp2
  go_ret
  exact ⟨rfl, rfl⟩
theorem code_errno (k : Int) (h1 : 1 ≤ k) (h2 : k ≤ 25) (w : World) : Calls Tryz.prog 19 #[.iface 74 (.int .i64 k)] w fun e w' => e = .returned (.int .i64 k) ∧ w = w' := by
  go_enter Tryz.func19, Tryz.ntmps19
  go_wp2
  go_loop [3] (fun i => ∃ n : Int, 1 ≤ n ∧ n ≤ k ∧ i = .int .i64 n) (fun i => (26 - intOf i).toNat)
  case atStart => exact ⟨1, by omega, h1, rfl⟩
  case round =>
    obtain ⟨n, hn1, hn2, rfl⟩ := hrel
    by_cases hk : k = n
    · subst hk
      go_wp2_with (go_at_call 45; refine (is_errno k k _).mono ?_; rintro e w' ⟨rfl, rfl⟩)
      go_ret
      exact ⟨rfl, rfl⟩
    · have hb : (k == n) = false := by simpa using hk
      go_wp2_with (go_at_call 45; refine (is_errno k n _).mono ?_; rintro e w' ⟨rfl, rfl⟩)
      go_round
      case rel => exact ⟨n + 1, by omega, by omega, rfl⟩
      case measure => simp [intOf]; omega
end Go.Proofs.YtagjdeekiiffjaaGreatDoor

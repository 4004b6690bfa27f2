/- steps: what the layer's functions and the checks do at the parts that the law's awake builds. No conditions. -/
import Derived.Test.YtjjlifljdbidbaaStD
import Derived.LaidEql
namespace Go.Proofs.Ytjjlifljdbidbaa
open Go.RowKit

theorem lat_any (W : World) (B n c : Nat) (A : Option Addr) (h : W.cell? ⟨B, 0, none⟩ = some (.slice A n c)) :
    Calls Try.prog 21 #[.pointer (some ⟨B, 0, none⟩)] W fun e w' => e = .returned (.int .i64 n) ∧ W = w' := by
  go_enter Try.func21, Try.ntmps21
  go_wp2
  go_ret
  exact ⟨rfl, rfl⟩
theorem capped_any (W : World) (n : Nat) (h : n ≤ 4001) : Calls Try.prog 17 #[.int .i64 n] W fun e w' => e = .returned (.int .i64 n) ∧ Kept (fun _ => False) W w' := by
  have h1 : (n : Int) ≤ 4001 := by omega
  go_enter Try.func17, Try.ntmps17
  go_wp2
  go_ret
  exact ⟨by simp, Kept.refl _ _⟩
theorem isnil_any (W : World) (k : Int) : Calls Try.prog 11 #[.nilIface, .iface 41 (.int .i64 k)] W fun e w' => e = .returned (.bool false) ∧ W = w' := by
  have hq := fun W => run_eql_iface_nil_left (P := Try.prog) W 41 (.int .i64 k) Try.underlying33
  go_enter Try.func11, Try.ntmps11
  go_wp2_with fail
  go_ret
  exact ⟨rfl, rfl⟩
theorem check_set (W : World) (a b e d mn mx dp : Int) (L : Option Addr) (n c : Nat) (hd : dp ≤ 1200) :
    Calls Try.prog 10 #[.agg #[.int .i64 1, .int .u64 a, .int .u64 b, .int .u64 e, .int .u64 d, .int .i64 mn, .int .i64 mx, .slice L n c], .int .i64 dp] W fun e w' => e = .returned .nilIface ∧ Kept (fun _ => False) W w' := by
  go_enter Try.func10, Try.ntmps10
  go_wp2
  go_ret
  exact ⟨rfl, (Kept.refl _ _).alloc _⟩
theorem size_set (W : World) (a b e d mn mx : Int) (L : Option Addr) (n c : Nat) :
    Calls Try.prog 12 #[.agg #[.int .i64 1, .int .u64 a, .int .u64 b, .int .u64 e, .int .u64 d, .int .i64 mn, .int .i64 mx, .slice L n c]] W fun e w' => e = .returned (.int .i64 1) ∧ Kept (fun _ => False) W w' := by
  go_enter Try.func12, Try.ntmps12
  go_wp2
  go_ret
  exact ⟨rfl, (Kept.refl _ _).alloc _⟩

end Go.Proofs.Ytjjlifljdbidbaa

/- steps' layer: one. No conditions. -/
import Derived.Test.YtjjlifljdbidbaaStE
import Derived.Test.YtjjlifljdbidbaaInvT
namespace Go.Proofs.Ytjjlifljdbidbaa
open Go.RowKit

set_option maxRecDepth 100000 in
set_option maxHeartbeats 4000000 in
theorem lone_any (w0 w : World) (B : Nat) (l : List ST) (A : Option Addr) (c : Nat) (kd a b e d : Int) (h : Lay w0 w B l A c) (hl : l.length ≤ 100000) :
    Calls Try.prog 18 #[.pointer (some ⟨B, 0, none⟩), .int .i64 kd, .agg #[.int .u64 a, .int .u64 b, .int .u64 e, .int .u64 d]] w fun e' w' => e' = .returned (.tuple #[]) ∧ ∃ A' c', Lay w0 w' B (l ++ [⟨kd, a, b, e, d, l.length + 1, 0⟩]) A' c' ∧ Mv B A w A' w' := by
  go_enter Try.func18, Try.ntmps18
  go_wp2_with fail
  refine wp_region_tail [6, 7, 8, 9, 10, 11, 12, 13] [0, 1, 2, 3, 4, 5, 6, 7] [.pointer (some ⟨B, 0, none⟩), .int .i64 kd, .agg #[.int .u64 a, .int .u64 b, .int .u64 e, .int .u64 d], .pointer (some ⟨B, 0, none⟩), .int .i64 l.length, .int .i64 ((l.length : Int) + 1), .agg #[.int .i64 kd, .int .u64 a, .int .u64 b, .int .u64 e, .int .u64 d, .int .i64 ((l.length : Int) + 1), .int .i64 0], .int .i64 l.length] 7 (fun W => (Lay w0 W B l A c ∧ Kept (fun _ => False) w W) ∧ Blk W w.heap.size 27 #[.int .u64 a, .int .u64 b, .int .u64 e, .int .u64 d]) (fun W => ∃ A' c', Lay w0 W B (l ++ [⟨kd, a, b, e, d, l.length + 1, 0⟩]) A' c' ∧ Mv B A w A' W) (by kernel_rfl) (by kernel_rfl) ?_ ?_ ?_
  · exact ⟨⟨(h.kept ((Kept.refl (fun _ => False) w).alloc _)).kept (Kept.refl _ _).drew, ((Kept.refl (fun _ => False) w).alloc _).drew⟩, (Blk.new w _ _).drew⟩
  · simp only [tailOps]
    refine ⟨?_, ?_, ?_, ?_, ?_, ?_, ?_, ?_, trivial⟩
    · intro dn W hd x6 x7 x8 x9 x10 x11 x12 x13 H hJ K hK
      have HK := Lib.hid hK
      clear hK
      simp [depsOf, Region.binds] at hd
      simp only [putAll, Act.put, List.setIfInBounds_toArray, List.set_cons_succ, List.set_cons_zero]
      have HJ := Lib.hid hJ
      have cB : W.cell? ⟨B, 0, none⟩ = some (.slice A l.length c) := hJ.1.1.blk.cell 0
      have hS := hJ.2
      have s0 : W.cell? ⟨w.heap.size, 0, none⟩ = some (.int .u64 a) := hS.cell 0
      have s1 : W.cell? ⟨w.heap.size, 1, none⟩ = some (.int .u64 b) := hS.cell 1
      have s2 : W.cell? ⟨w.heap.size, 2, none⟩ = some (.int .u64 e) := hS.cell 2
      have s3 : W.cell? ⟨w.heap.size, 3, none⟩ = some (.int .u64 d) := hS.cell 3
      clear hS hJ
      go_wp2_with fail
      have hk := fun W' => HK.out [.pointer (some ⟨B, 0, none⟩), x7, x8, x9, x10, x11, x12, x13] W' rfl
      simp only [putAll, Act.put, List.setIfInBounds_toArray, List.set_cons_succ, List.set_cons_zero] at hk
      exact nrm (hk _ (H.upd 0 rfl rfl (by decide)) HJ.out)
    · intro dn W hd x6 x7 x8 x9 x10 x11 x12 x13 H hJ K hK
      have HK := Lib.hid hK
      clear hK
      simp [depsOf, Region.binds] at hd
      simp only [putAll, Act.put, List.setIfInBounds_toArray, List.set_cons_succ, List.set_cons_zero]
      have HJ := Lib.hid hJ
      have cB : W.cell? ⟨B, 0, none⟩ = some (.slice A l.length c) := hJ.1.1.blk.cell 0
      have hS := hJ.2
      have s0 : W.cell? ⟨w.heap.size, 0, none⟩ = some (.int .u64 a) := hS.cell 0
      have s1 : W.cell? ⟨w.heap.size, 1, none⟩ = some (.int .u64 b) := hS.cell 1
      have s2 : W.cell? ⟨w.heap.size, 2, none⟩ = some (.int .u64 e) := hS.cell 2
      have s3 : W.cell? ⟨w.heap.size, 3, none⟩ = some (.int .u64 d) := hS.cell 3
      clear hS hJ
      go_wp2_with fail
      have hk := fun W' => HK.out [x6, .int .i64 kd, x8, x9, x10, x11, x12, x13] W' rfl
      simp only [putAll, Act.put, List.setIfInBounds_toArray, List.set_cons_succ, List.set_cons_zero] at hk
      exact nrm (hk _ (H.upd 1 rfl rfl (by decide)) HJ.out)
    · intro dn W hd x6 x7 x8 x9 x10 x11 x12 x13 H hJ K hK
      have HK := Lib.hid hK
      clear hK
      simp [depsOf, Region.binds] at hd
      simp only [putAll, Act.put, List.setIfInBounds_toArray, List.set_cons_succ, List.set_cons_zero]
      have HJ := Lib.hid hJ
      have cB : W.cell? ⟨B, 0, none⟩ = some (.slice A l.length c) := hJ.1.1.blk.cell 0
      have hS := hJ.2
      have s0 : W.cell? ⟨w.heap.size, 0, none⟩ = some (.int .u64 a) := hS.cell 0
      have s1 : W.cell? ⟨w.heap.size, 1, none⟩ = some (.int .u64 b) := hS.cell 1
      have s2 : W.cell? ⟨w.heap.size, 2, none⟩ = some (.int .u64 e) := hS.cell 2
      have s3 : W.cell? ⟨w.heap.size, 3, none⟩ = some (.int .u64 d) := hS.cell 3
      clear hS hJ
      go_wp2_with fail
      have hk := fun W' => HK.out [x6, x7, .agg #[.int .u64 a, .int .u64 b, .int .u64 e, .int .u64 d], x9, x10, x11, x12, x13] W' rfl
      simp only [putAll, Act.put, List.setIfInBounds_toArray, List.set_cons_succ, List.set_cons_zero] at hk
      exact nrm (hk _ (H.upd 2 rfl rfl (by decide)) HJ.out)
    · intro dn W hd x6 x7 x8 x9 x10 x11 x12 x13 H hJ K hK
      have HK := Lib.hid hK
      clear hK
      simp [depsOf, Region.binds] at hd
      simp only [putAll, Act.put, List.setIfInBounds_toArray, List.set_cons_succ, List.set_cons_zero]
      have HJ := Lib.hid hJ
      have cB : W.cell? ⟨B, 0, none⟩ = some (.slice A l.length c) := hJ.1.1.blk.cell 0
      have hS := hJ.2
      have s0 : W.cell? ⟨w.heap.size, 0, none⟩ = some (.int .u64 a) := hS.cell 0
      have s1 : W.cell? ⟨w.heap.size, 1, none⟩ = some (.int .u64 b) := hS.cell 1
      have s2 : W.cell? ⟨w.heap.size, 2, none⟩ = some (.int .u64 e) := hS.cell 2
      have s3 : W.cell? ⟨w.heap.size, 3, none⟩ = some (.int .u64 d) := hS.cell 3
      clear hS hJ
      go_wp2_with fail
      have hk := fun W' => HK.out [x6, x7, x8, .pointer (some ⟨B, 0, none⟩), x10, x11, x12, x13] W' rfl
      simp only [putAll, Act.put, List.setIfInBounds_toArray, List.set_cons_succ, List.set_cons_zero] at hk
      exact nrm (hk _ (H.upd 3 rfl rfl (by decide)) HJ.out)
    · intro dn W hd x6 x7 x8 x9 x10 x11 x12 x13 H hJ K hK
      have HK := Lib.hid hK
      clear hK
      simp [depsOf, Region.binds] at hd
      simp only [putAll, Act.put, List.setIfInBounds_toArray, List.set_cons_succ, List.set_cons_zero]
      obtain rfl : x9 = .pointer (some ⟨B, 0, none⟩) := H.get 3 rfl rfl rfl (by simp [hd])
      have HJ := Lib.hid hJ
      have cB : W.cell? ⟨B, 0, none⟩ = some (.slice A l.length c) := hJ.1.1.blk.cell 0
      have hS := hJ.2
      have s0 : W.cell? ⟨w.heap.size, 0, none⟩ = some (.int .u64 a) := hS.cell 0
      have s1 : W.cell? ⟨w.heap.size, 1, none⟩ = some (.int .u64 b) := hS.cell 1
      have s2 : W.cell? ⟨w.heap.size, 2, none⟩ = some (.int .u64 e) := hS.cell 2
      have s3 : W.cell? ⟨w.heap.size, 3, none⟩ = some (.int .u64 d) := hS.cell 3
      clear hS hJ
      go_wp2_with fail
      refine (lat_any _ B l.length c A cB).mono ?_
      rintro e' W1 ⟨rfl, rfl⟩
      go_wp2_with fail
      have hk := fun W' => HK.out [x6, x7, x8, .pointer (some ⟨B, 0, none⟩), .int .i64 l.length, x11, x12, x13] W' rfl
      simp only [putAll, Act.put, List.setIfInBounds_toArray, List.set_cons_succ, List.set_cons_zero] at hk
      exact nrm (hk _ (H.upd 4 rfl rfl (by decide)) HJ.out)
    · intro dn W hd x6 x7 x8 x9 x10 x11 x12 x13 H hJ K hK
      have HK := Lib.hid hK
      clear hK
      simp [depsOf, Region.binds] at hd
      simp only [putAll, Act.put, List.setIfInBounds_toArray, List.set_cons_succ, List.set_cons_zero]
      obtain rfl : x10 = .int .i64 l.length := H.get 4 rfl rfl rfl (by simp [hd])
      have HJ := Lib.hid hJ
      have cB : W.cell? ⟨B, 0, none⟩ = some (.slice A l.length c) := hJ.1.1.blk.cell 0
      have hS := hJ.2
      have s0 : W.cell? ⟨w.heap.size, 0, none⟩ = some (.int .u64 a) := hS.cell 0
      have s1 : W.cell? ⟨w.heap.size, 1, none⟩ = some (.int .u64 b) := hS.cell 1
      have s2 : W.cell? ⟨w.heap.size, 2, none⟩ = some (.int .u64 e) := hS.cell 2
      have s3 : W.cell? ⟨w.heap.size, 3, none⟩ = some (.int .u64 d) := hS.cell 3
      clear hS hJ
      go_wp2_with fail
      have hk := fun W' => HK.out [x6, x7, x8, x9, .int .i64 l.length, .int .i64 ((l.length : Int) + 1), x12, x13] W' rfl
      simp only [putAll, Act.put, List.setIfInBounds_toArray, List.set_cons_succ, List.set_cons_zero] at hk
      exact nrm (hk _ (H.upd 5 rfl rfl (by decide)) HJ.out)
    · intro dn W hd x6 x7 x8 x9 x10 x11 x12 x13 H hJ K hK
      have HK := Lib.hid hK
      clear hK
      simp [depsOf, Region.binds] at hd
      simp only [putAll, Act.put, List.setIfInBounds_toArray, List.set_cons_succ, List.set_cons_zero]
      obtain rfl : x7 = .int .i64 kd := H.get 1 rfl rfl rfl (by simp [hd])
      obtain rfl : x8 = .agg #[.int .u64 a, .int .u64 b, .int .u64 e, .int .u64 d] := H.get 2 rfl rfl rfl (by simp [hd])
      obtain rfl : x11 = .int .i64 ((l.length : Int) + 1) := H.get 5 rfl rfl rfl (by simp [hd])
      have HJ := Lib.hid hJ
      have cB : W.cell? ⟨B, 0, none⟩ = some (.slice A l.length c) := hJ.1.1.blk.cell 0
      have hS := hJ.2
      have s0 : W.cell? ⟨w.heap.size, 0, none⟩ = some (.int .u64 a) := hS.cell 0
      have s1 : W.cell? ⟨w.heap.size, 1, none⟩ = some (.int .u64 b) := hS.cell 1
      have s2 : W.cell? ⟨w.heap.size, 2, none⟩ = some (.int .u64 e) := hS.cell 2
      have s3 : W.cell? ⟨w.heap.size, 3, none⟩ = some (.int .u64 d) := hS.cell 3
      clear hS hJ
      go_wp2_with fail
      have hk := fun W' => HK.out [x6, .int .i64 kd, .agg #[.int .u64 a, .int .u64 b, .int .u64 e, .int .u64 d], x9, x10, .int .i64 ((l.length : Int) + 1), .agg #[.int .i64 kd, .int .u64 a, .int .u64 b, .int .u64 e, .int .u64 d, .int .i64 ((l.length : Int) + 1), .int .i64 0], x13] W' rfl
      simp only [putAll, Act.put, List.setIfInBounds_toArray, List.set_cons_succ, List.set_cons_zero] at hk
      exact nrm (hk _ (H.upd 6 rfl rfl (by decide)) HJ.out)
    · intro dn W hd x6 x7 x8 x9 x10 x11 x12 x13 H hJ K hK
      have HK := Lib.hid hK
      clear hK
      simp [depsOf, Region.binds] at hd
      simp only [putAll, Act.put, List.setIfInBounds_toArray, List.set_cons_succ, List.set_cons_zero]
      obtain rfl : x6 = .pointer (some ⟨B, 0, none⟩) := H.get 0 rfl rfl rfl (by simp [hd])
      obtain rfl : x12 = .agg #[.int .i64 kd, .int .u64 a, .int .u64 b, .int .u64 e, .int .u64 d, .int .i64 ((l.length : Int) + 1), .int .i64 0] := H.get 6 rfl rfl rfl (by simp [hd])
      have HJ := Lib.hid hJ
      have cB : W.cell? ⟨B, 0, none⟩ = some (.slice A l.length c) := hJ.1.1.blk.cell 0
      have hS := hJ.2
      have s0 : W.cell? ⟨w.heap.size, 0, none⟩ = some (.int .u64 a) := hS.cell 0
      have s1 : W.cell? ⟨w.heap.size, 1, none⟩ = some (.int .u64 b) := hS.cell 1
      have s2 : W.cell? ⟨w.heap.size, 2, none⟩ = some (.int .u64 e) := hS.cell 2
      have s3 : W.cell? ⟨w.heap.size, 3, none⟩ = some (.int .u64 d) := hS.cell 3
      clear hS hJ
      go_wp2_with fail
      refine (ladd_any w0 _ B l A c ⟨kd, a, b, e, d, l.length + 1, 0⟩ HJ.out.1.1 hl).mono ?_
      rintro e' W1 ⟨rfl, hJ1⟩
      go_wp2_with fail
      replace hJ1 : ∃ A' c', Lay w0 W1 B (l ++ [⟨kd, a, b, e, d, l.length + 1, 0⟩]) A' c' ∧ Mv B A w A' W1 := hJ1.elim fun A' h => h.elim fun c' h => ⟨A', c', h.1, h.2.past HJ.out.1.2⟩
      have hk := fun W' => HK.out [.pointer (some ⟨B, 0, none⟩), x7, x8, x9, x10, x11, .agg #[.int .i64 kd, .int .u64 a, .int .u64 b, .int .u64 e, .int .u64 d, .int .i64 ((l.length : Int) + 1), .int .i64 0], .int .i64 l.length] W' rfl
      simp only [putAll, Act.put, List.setIfInBounds_toArray, List.set_cons_succ, List.set_cons_zero] at hk
      exact nrm (hk _ (H.upd 7 rfl rfl (by decide)) hJ1)
  intro dn W x6 x7 x8 x9 x10 x11 x12 x13 hall H hJ
  clear hall H
  simp only [putAll, Act.put, List.setIfInBounds_toArray, List.set_cons_succ, List.set_cons_zero]
  go_wp2_with fail
  go_end0
  exact ⟨rfl, hJ⟩
end Go.Proofs.Ytjjlifljdbidbaa

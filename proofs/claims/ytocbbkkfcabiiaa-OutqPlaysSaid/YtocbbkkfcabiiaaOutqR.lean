/- The document's queue (fieldfareref19), function by function. No conditions. -/
import Derived.Test.YtocbbkkfcabiiaaOutqA
namespace Go.Proofs.Ytocbbkkfcabiiaa
open Go.RowKit

/-- The document's queue, as a value. -/
@[reducible] def RQ (lo hi rm : Int) (all : List UInt8) (gone held : Int) (ab : Bool) : Value := .agg #[.int .i64 lo, .int .i64 hi, .int .i64 rm, .string ⟨all.toArray⟩, .int .i64 gone, .int .i64 held, .bool ab]

theorem rgood_any (lo hi rm : Int) (w : World) : Calls Try.prog 19 #[.int .i64 lo, .int .i64 hi, .int .i64 rm] w fun e w' =>
    e = .returned (.bool (decide (0 ≤ lo ∧ lo < hi ∧ hi ≤ rm ∧ rm ≤ 65536))) ∧ w = w' := by
  by_cases h1 : 0 ≤ lo
  · by_cases h2 : lo < hi
    · by_cases h3 : hi ≤ rm
      · by_cases h4 : rm ≤ 65536
        all_goals
          go_enter Try.func19, Try.ntmps19
          go_wp2
          go_ret
          simp; omega
      · go_enter Try.func19, Try.ntmps19
        go_wp2
        go_ret
        simp; omega
    · go_enter Try.func19, Try.ntmps19
      go_wp2
      go_ret
      simp; omega
  · go_enter Try.func19, Try.ntmps19
    go_wp2
    go_ret
    simp; omega
theorem Blk.seven {w : World} {g : Nat} {t : TypeId} {a0 a1 a2 a3 a4 a5 a6 : Value} (h : Blk w g t #[a0, a1, a2, a3, a4, a5, a6]) : w.cell? ⟨g, 0, none⟩ = some a0 ∧ w.cell? ⟨g, 1, none⟩ = some a1 ∧ w.cell? ⟨g, 2, none⟩ = some a2 ∧
    w.cell? ⟨g, 3, none⟩ = some a3 ∧ w.cell? ⟨g, 4, none⟩ = some a4 ∧ w.cell? ⟨g, 5, none⟩ = some a5 ∧ w.cell? ⟨g, 6, none⟩ = some a6 ∧ (∀ i, w.frozen? ⟨g, i, none⟩ = false) ∧ g < w.heap.size :=
  ⟨h.cell 0, h.cell 1, h.cell 2, h.cell 3, h.cell 4, h.cell 5, h.cell 6, h.frozen, h.lt⟩
theorem Blk.store7 {w : World} {g : Nat} {t : TypeId} {a0 a1 a2 a3 a4 a5 a6 : Value} (h : Blk w g t #[a0, a1, a2, a3, a4, a5, a6]) (b0 b1 b2 b3 b4 b5 b6 : Value) :
    Blk (((((((w.setCell ⟨g, 0, none⟩ b0).setCell ⟨g, 1, none⟩ b1).setCell ⟨g, 2, none⟩ b2).setCell ⟨g, 3, none⟩ b3).setCell ⟨g, 4, none⟩ b4).setCell ⟨g, 5, none⟩ b5).setCell ⟨g, 6, none⟩ b6) g t #[b0, b1, b2, b3, b4, b5, b6] := by
  have h0 : Blk (_) g t #[b0, a1, a2, a3, a4, a5, a6] := Blk.set_ h 0 b0
  have h1 : Blk (_) g t #[b0, b1, a2, a3, a4, a5, a6] := Blk.set_ h0 1 b1
  have h2 : Blk (_) g t #[b0, b1, b2, a3, a4, a5, a6] := Blk.set_ h1 2 b2
  have h3 : Blk (_) g t #[b0, b1, b2, b3, a4, a5, a6] := Blk.set_ h2 3 b3
  have h4 : Blk (_) g t #[b0, b1, b2, b3, b4, a5, a6] := Blk.set_ h3 4 b4
  have h5 : Blk (_) g t #[b0, b1, b2, b3, b4, b5, a6] := Blk.set_ h4 5 b5
  have h6 : Blk (_) g t #[b0, b1, b2, b3, b4, b5, b6] := Blk.set_ h5 6 b6
  exact h6
theorem Kept.store7 {S : Nat → Prop} {w0 w : World} {g : Nat} (h : Kept S w0 w) (hg : S g ∨ w0.heap.size ≤ g) (b0 b1 b2 b3 b4 b5 b6 : Value) :
    Kept S w0 (((((((w.setCell ⟨g, 0, none⟩ b0).setCell ⟨g, 1, none⟩ b1).setCell ⟨g, 2, none⟩ b2).setCell ⟨g, 3, none⟩ b3).setCell ⟨g, 4, none⟩ b4).setCell ⟨g, 5, none⟩ b5).setCell ⟨g, 6, none⟩ b6) := by
  refine Kept.setCell ?_ (by exact hg) _
  refine Kept.setCell ?_ (by exact hg) _
  refine Kept.setCell ?_ (by exact hg) _
  refine Kept.setCell ?_ (by exact hg) _
  refine Kept.setCell ?_ (by exact hg) _
  refine Kept.setCell ?_ (by exact hg) _
  refine Kept.setCell ?_ (by exact hg) _
  exact h
theorem rmark_any (lo hi rm : Int) (all : List UInt8) (gone held : Int) (ab : Bool) (w : World) (hl : lo < hi) : Calls Try.prog 41 #[RQ lo hi rm all gone held ab] w fun e w' =>
    e = .returned (RQ lo hi rm all gone held (markB lo hi held ab)) ∧ Kept (fun _ => False) w w' := by
  by_cases h1 : hi ≤ held
  · have h2 : lo < held := by omega
    go_enter Try.func41, Try.ntmps41
    go_wp2
    exact bodyPost_ret (v := RQ lo hi rm all gone held true) (by simp [results, Try.results41, go_sem]) rfl ⟨by unfold markB; rw [if_pos h1], by repeat (first | refine Kept.setCell ?_ (.inr (by simp)) _ | refine Kept.alloc ?_ _ | refine Kept.drewN ?_ _ | exact Kept.refl _ _)⟩
  · by_cases h2 : held ≤ lo
    · go_enter Try.func41, Try.ntmps41
      go_wp2
      exact bodyPost_ret (v := RQ lo hi rm all gone held false) (by simp [results, Try.results41, go_sem]) rfl ⟨by unfold markB; rw [if_neg (by omega), if_pos h2], by repeat (first | refine Kept.setCell ?_ (.inr (by simp)) _ | refine Kept.alloc ?_ _ | refine Kept.drewN ?_ _ | exact Kept.refl _ _)⟩
    · go_enter Try.func41, Try.ntmps41
      go_wp2
      exact bodyPost_ret (v := RQ lo hi rm all gone held ab) (by simp [results, Try.results41, go_sem]) rfl ⟨by unfold markB; rw [if_neg (by omega), if_neg (by omega)], by repeat (first | refine Kept.setCell ?_ (.inr (by simp)) _ | refine Kept.alloc ?_ _ | refine Kept.drewN ?_ _ | exact Kept.refl _ _)⟩

def RputP (w : World) (lo hi rm : Int) (all : List UInt8) (gone held : Int) (ab : Bool) (code : Int) (e : Ending) (w' : World) : Prop :=
  e = .returned (.tuple #[RQ lo hi rm all gone held ab, .int .i64 code]) ∧ Kept (fun _ => False) w w'
theorem rput_full (lo hi rm : Int) (all s : List UInt8) (gone held : Int) (ab : Bool) (w : World) (hs : (s.length : Int) ≤ 1000000) (hh : 0 ≤ held) (hh2 : held ≤ 1000000) (h : rm < held + s.length) :
    Calls Try.prog 20 #[RQ lo hi rm all gone held ab, .string ⟨s.toArray⟩] w (RputP w lo hi rm all gone held ab 17) := by
  go_enter Try.func20, Try.ntmps20
  go_wp2
  exact bodyPost_ret (v := .tuple #[RQ lo hi rm all gone held ab, .int .i64 17]) (by simp [results, Try.results20, go_sem]) rfl ⟨rfl, by repeat (first | refine Kept.setCell ?_ (.inr (by simp)) _ | refine Kept.alloc ?_ _ | refine Kept.drewN ?_ _ | exact Kept.refl _ _)⟩
theorem rput_room (lo hi rm : Int) (all s : List UInt8) (gone held : Int) (ab : Bool) (w : World) (hl : lo < hi) (hs : (s.length : Int) ≤ 1000000) (hall : (all.length : Int) ≤ 1000000) (hh : 0 ≤ held) (hh2 : held ≤ 1000000) (h : held + s.length ≤ rm) :
    Calls Try.prog 20 #[RQ lo hi rm all gone held ab, .string ⟨s.toArray⟩] w (RputP w lo hi rm (all ++ s) gone (held + s.length) (markB lo hi (held + s.length) ab) 0) := by
  have hadd : (ByteArray.mk all.toArray ++ ByteArray.mk s.toArray) = ByteArray.mk (all ++ s).toArray := Go.ByteArray.mk_append_mk all s
  go_enter Try.func20, Try.ntmps20
  go_wp2_with fail
  refine (rmark_any lo hi rm (all ++ s) gone (held + s.length) ab _ hl).mono ?_
  rintro e w1 ⟨rfl, k1⟩
  have hB : Blk w1 (w.heap.size + 1) 42 #[Value.int .i64 0, Value.int .i64 0, Value.int .i64 0, Value.string ⟨#[]⟩, Value.int .i64 0, Value.int .i64 0, Value.bool false] := Blk.kept (Blk.new' (by simp)) k1 id
  have hz : w.heap.size + 1 < w1.heap.size := hB.lt
  have c0 := hB.cell 0
  have c1 := hB.cell 1
  have c2 := hB.cell 2
  have c3 := hB.cell 3
  have c4 := hB.cell 4
  have c5 := hB.cell 5
  have c6 := hB.cell 6
  simp at c0 c1 c2 c3 c4 c5 c6
  have fz := hB.frozen
  have k2 : Kept (fun _ => False) w w1 := Kept.trans (by repeat (first | refine Kept.setCell ?_ (.inr (by simp)) _ | refine Kept.alloc ?_ _ | refine Kept.drewN ?_ _ | exact Kept.refl _ _)) k1
  go_wp2_with fail
  refine bodyPost_ret (v := .tuple #[RQ lo hi rm (all ++ s) gone (held + s.length) (markB lo hi (held + s.length) ab), .int .i64 0]) ?_ rfl ?_
  · simp [results, Try.results20, go_sem, c0, c1, c2, c3, c4, c5, c6]
  · refine ⟨rfl, ?_⟩
    repeat (first | refine Kept.setCell ?_ (.inr (by simp)) _ | exact k2)

theorem extract_mk (l : List UInt8) (k : Nat) : (⟨l.toArray⟩ : ByteArray).extract 0 k = ⟨(l.take k).toArray⟩ := by
  apply ByteArray.ext
  simp [ByteArray.data_extract]
theorem rnext_any (lo hi rm : Int) (all : List UInt8) (gone : Int) (xs pre : List UInt8) (ab : Bool) (n : Int) (w : World) (hall : (all.length : Int) ≤ 1000000) (he : all = pre ++ xs) :
    Calls Try.prog 24 #[RQ lo hi rm all gone xs.length ab, .int .i64 n] w fun e w' => e = .returned (.string ⟨(xs.take (takeN n xs.length)).toArray⟩) ∧ Kept (fun _ => False) w w' := by
  have hl : all.length = pre.length + xs.length := by rw [he]; simp
  have hl1 : xs.length ≤ all.length := by omega
  have hl2 : all.length - xs.length = pre.length := by omega
  have Hl := Lib.hid hl
  have He := Lib.hid he
  have Hl2 := Lib.hid hl2
  clear hl he hl2
  have hx : ((⟨all.toArray⟩ : ByteArray).extract (all.length - xs.length) all.length) = ⟨xs.toArray⟩ := by
    apply ByteArray.ext
    simp only [ByteArray.data_extract]
    rw [He.out]
    simp
  rcases Int.lt_or_le n 0 with hn | hn
  · have ht : takeN n xs.length = 0 := by unfold takeN; omega
    rw [ht]
    go_enter Try.func24, Try.ntmps24
    go_wp2_with fail
    go_ret
    exact ⟨rfl, by repeat (first | refine Kept.setCell ?_ (.inr (by simp)) _ | refine Kept.alloc ?_ _ | refine Kept.drewN ?_ _ | exact Kept.refl _ _)⟩
  · obtain ⟨k, rfl⟩ := Int.eq_ofNat_of_zero_le hn
    rcases Nat.lt_or_ge k xs.length with hk | hk
    · have ht : takeN k xs.length = k := by unfold takeN; omega
      rw [ht]
      have hk' : (k : Int) < xs.length := by omega
      go_enter Try.func24, Try.ntmps24
      go_wp2_with fail
      go_ret
      exact ⟨congrArg (fun b => Ending.returned (.string b)) (extract_mk xs k), by repeat (first | refine Kept.setCell ?_ (.inr (by simp)) _ | refine Kept.alloc ?_ _ | refine Kept.drewN ?_ _ | exact Kept.refl _ _)⟩
    · have ht : takeN k xs.length = xs.length := by unfold takeN; omega
      rw [ht]
      have hk' : (xs.length : Int) ≤ k := by omega
      go_enter Try.func24, Try.ntmps24
      go_wp2_with fail
      go_ret
      exact ⟨by simp, by repeat (first | refine Kept.setCell ?_ (.inr (by simp)) _ | refine Kept.alloc ?_ _ | refine Kept.drewN ?_ _ | exact Kept.refl _ _)⟩
theorem rtook_any (lo hi rm : Int) (all : List UInt8) (gone : Int) (xs pre : List UInt8) (ab : Bool) (n : Int) (w : World) (hlh : lo < hi) (hall : (all.length : Int) ≤ 1000000) (hg0 : 0 ≤ gone) (hg1 : gone ≤ 1000000) (he : all = pre ++ xs) :
    Calls Try.prog 21 #[RQ lo hi rm all gone xs.length ab, .int .i64 n] w
      (RputP w lo hi rm all (gone + takeN n xs.length) (xs.length - takeN n xs.length : Nat) (markB lo hi (xs.length - takeN n xs.length : Nat) ab) (takeN n xs.length)) := by
  have htl : takeN n xs.length ≤ xs.length := by unfold takeN; omega
  have hxl : xs.length ≤ all.length := by rw [he]; simp
  have hN := fun w => rnext_any lo hi rm all gone xs pre ab n w hall he
  have hcast : ((xs.length - takeN n xs.length : Nat) : Int) = xs.length - (takeN n xs.length : Nat) := by omega
  rw [hcast]
  have htk : (xs.take (takeN n xs.length)).length = takeN n xs.length := by simp; omega
  generalize takeN n xs.length = t at *
  clear hcast he
  go_enter Try.func21, Try.ntmps21
  go_wp2_with fail
  refine (hN _).mono ?_
  clear hN
  rintro e w1 ⟨rfl, k1⟩
  have hA : Blk w1 w.heap.size 42 #[Value.int .i64 lo, Value.int .i64 hi, Value.int .i64 rm, Value.string ⟨all.toArray⟩, Value.int .i64 gone, Value.int .i64 xs.length, Value.bool ab] := Blk.kept (Blk.alloc (Blk.new' rfl) _) k1 id
  have hB : Blk w1 (w.heap.size + 1) 42 #[Value.int .i64 0, Value.int .i64 0, Value.int .i64 0, Value.string ⟨#[]⟩, Value.int .i64 0, Value.int .i64 0, Value.bool false] := Blk.kept (Blk.new' (by simp)) k1 id
  obtain ⟨c0, c1, c2, c3, c4, c5, c6, fz, hz⟩ := hA.seven
  have k2 : Kept (fun _ => False) w w1 := Kept.trans (by repeat (first | refine Kept.setCell ?_ (.inr (by simp)) _ | refine Kept.alloc ?_ _ | refine Kept.drewN ?_ _ | exact Kept.refl _ _)) k1
  go_wp2_with fail
  try refine wp_region_text (by kernel_rfl) (by kernel_rfl) ?_
  go_wp2_with fail
  refine (rmark_any lo hi rm all (gone + t) (xs.length - t) ab _ hlh).mono ?_
  rintro e w2 ⟨rfl, k3⟩
  have hB2 : Blk w2 (w.heap.size + 1) 42 #[Value.int .i64 0, Value.int .i64 0, Value.int .i64 0, Value.string ⟨#[]⟩, Value.int .i64 0, Value.int .i64 0, Value.bool false] :=
    Blk.kept (Blk.far (Blk.far hB (by simp) _) (by simp) _) k3 id
  obtain ⟨d0, d1, d2, d3, d4, d5, d6, gz, hz2⟩ := hB2.seven
  have k4 : Kept (fun _ => False) w w2 := Kept.trans ((k2.setCell (.inr (by simp)) _).setCell (.inr (by simp)) _) k3
  go_wp2_with fail
  try refine nrm ?_
  try go_wp2_with fail
  refine bodyPost_ret (v := .tuple #[RQ lo hi rm all (gone + t) (xs.length - t) (markB lo hi (xs.length - t) ab), .int .i64 t]) ?_ rfl ?_
  · simp [results, Try.results21, go_sem, d0, d1, d2, d3, d4, d5, d6]
  · refine ⟨rfl, ?_⟩
    repeat (first | refine Kept.setCell ?_ (.inr (by simp)) _ | exact k4)
theorem rclear_any (lo hi rm : Int) (all : List UInt8) (gone held : Int) (ab : Bool) (w : World) (hlh : lo < hi) :
    Calls Try.prog 23 #[RQ lo hi rm all gone held ab] w fun e w' => e = .returned (RQ lo hi rm all gone 0 (markB lo hi 0 ab)) ∧ Kept (fun _ => False) w w' := by
  go_enter Try.func23, Try.ntmps23
  go_wp2_with fail
  refine (rmark_any lo hi rm all gone 0 ab _ hlh).mono ?_
  rintro e w2 ⟨rfl, k3⟩
  have hB2 : Blk w2 (w.heap.size + 1) 42 #[Value.int .i64 0, Value.int .i64 0, Value.int .i64 0, Value.string ⟨#[]⟩, Value.int .i64 0, Value.int .i64 0, Value.bool false] := Blk.kept (Blk.new' (by simp)) k3 id
  obtain ⟨d0, d1, d2, d3, d4, d5, d6, gz, hz2⟩ := hB2.seven
  have k4 : Kept (fun _ => False) w w2 := Kept.trans (by repeat (first | refine Kept.setCell ?_ (.inr (by simp)) _ | refine Kept.alloc ?_ _ | refine Kept.drewN ?_ _ | exact Kept.refl _ _)) k3
  go_wp2_with fail
  refine bodyPost_ret (v := RQ lo hi rm all gone 0 (markB lo hi 0 ab)) ?_ rfl ?_
  · simp [results, Try.results23, go_sem, d0, d1, d2, d3, d4, d5, d6]
  · refine ⟨rfl, ?_⟩
    repeat (first | refine Kept.setCell ?_ (.inr (by simp)) _ | exact k4)
end Go.Proofs.Ytocbbkkfcabiiaa

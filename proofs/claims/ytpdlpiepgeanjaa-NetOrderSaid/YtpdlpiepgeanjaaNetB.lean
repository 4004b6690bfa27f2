/- Which block of the net belongs to what; contracts of what happens to one connection. No conditions. -/
import Derived.Test.YtpdlpiepgeanjaaNetA
import Derived.Test.YtpdlpiepgeanjaaClone
import Derived.Deep.RegionHeld3
namespace Go.Proofs.Ytpdlpiepgeanjaa
open Go.RowKit

/-- What a block belongs to. -/
inductive Tag where
  | net | arr | told | wire (i : Nat) | inn (i : Nat) | got (i : Nat)
abbrev Tags := Nat → Option Tag

theorem Kept.over {S S' : Nat → Prop} {w w' w'' : World} (h : Kept S w w') (k : Kept S' w' w'') (hs : ∀ x, x < w.heap.size → S' x → S x) : Kept S w w'' :=
  ⟨k.os.trans h.os, k.tape.trans h.tape, k.output.trans h.output, Nat.le_trans h.size k.size,
    fun i hi hn => (k.block i (Nat.lt_of_lt_of_le hi h.size) fun hx => hn (hs i hi hx)).trans (h.block i hi hn), fun p hp => (k.frz p (Nat.lt_of_lt_of_le hp h.size)).trans (h.frz p hp)⟩
/-- A slice whose cells, and spare cells, belong to t. -/
structure Own (w : World) (tag : Tags) (t : Tag) (A : Option Addr) (c : Nat) (xs : List Value) : Prop where
  rd : Rd w A xs
  sp : Sp w A xs.length c
  le : xs.length ≤ c
  nil : A = none → c = 0
  tg : 0 < c → ∀ g, At A g → tag g = some t
  fz : 0 < c → ∀ g, At A g → ∀ i, w.frozen? ⟨g, i, none⟩ = false

section
variable {w w' : World} {tag tag' : Tags} {t : Tag} {A : Option Addr} {c : Nat} {xs ys : List Value} {S : Nat → Prop}
theorem Own.lt (h : Own w tag t A c xs) (hc : 0 < c) {g : Nat} (hg : At A g) : g < w.heap.size := by
  by_cases hx : xs = []
  · obtain ⟨g', off, rfl, hh⟩ := h.sp (by rw [hx]; exact hc)
    obtain ⟨ad, he, rfl⟩ := hg
    cases he
    obtain ⟨u, hu⟩ := Option.isSome_iff_exists.1 (hh xs.length (Nat.le_refl _) (by rw [hx]; exact hc)).1
    exact World.block_lt_of_cell? w ⟨g', off + xs.length, none⟩ hu
  · obtain ⟨g', off, rfl, hh⟩ := h.rd.lt hx
    obtain ⟨ad, he, rfl⟩ := hg
    cases he
    exact hh
theorem Own.none_ (w : World) (tag : Tags) (t : Tag) : Own w tag t none 0 [] := ⟨Rd.nil _ _, Sp.none_ _ _ _, Nat.le_refl _, fun _ => rfl, fun h => absurd h (Nat.lt_irrefl _), fun h => absurd h (Nat.lt_irrefl _)⟩
theorem Own.kept (h : Own w tag t A c xs) (hk : Kept S w w') (hS : ∀ g, S g → tag g ≠ some t) (ht : ∀ g, g < w.heap.size → tag' g = tag g) : Own w' tag' t A c xs := by
  rcases Nat.eq_zero_or_pos c with h0 | h0
  · subst h0
    obtain rfl : xs = [] := List.eq_nil_of_length_eq_zero (by have := h.le; omega)
    exact ⟨Rd.nil _ _, Sp.none_ _ _ _, Nat.le_refl _, fun _ => rfl, fun h => absurd h (Nat.lt_irrefl _), fun h => absurd h (Nat.lt_irrefl _)⟩
  · have hs : ∀ g, At A g → ¬ S g := fun g hg hsg => hS g hsg (h.tg h0 g hg)
    exact ⟨h.rd.kept hk hs, h.sp.kept hk hs, h.le, h.nil, fun _ g hg => (ht g (h.lt h0 hg)).trans (h.tg h0 g hg), fun h0 g hg i => (hk.frz _ (h.lt h0 hg)).trans (h.fz h0 g hg i)⟩
/-- Behind append. -/
theorem Own.append (h : Own w tag t A c xs) {A' : Option Addr} {c' : Nat} (hlt : ∀ g, tag g ≠ none → g < w.heap.size) (r1 : Rd w' A' (xs ++ ys)) (r2 : Sp w' A' (xs ++ ys).length c') (r3 : (xs ++ ys).length ≤ c') (r4 : A' = none → c' = 0)
    (r5 : (A' = A ∧ c' = c ∧ Kept (fun k => xs.length < c ∧ At A k) w w') ∨ (∃ g, A' = some ⟨g, 0, none⟩ ∧ w.heap.size ≤ g ∧ Grew w w' g)) :
    ∃ tag', Own w' tag' t A' c' (xs ++ ys) ∧ Kept (fun k => tag k = some t) w w' ∧ (∀ g, g < w.heap.size → tag' g = tag g) ∧ (∀ g, tag' g ≠ none → g < w'.heap.size) := by
  rcases r5 with ⟨rfl, rfl, hk⟩ | ⟨g, rfl, hg, hk⟩
  · exact ⟨tag, ⟨r1, r2, r3, r4, h.tg, fun h0 g hg i => (hk.frz _ (h.lt h0 hg)).trans (h.fz h0 g hg i)⟩, hk.mono fun k _ hh => h.tg (Nat.lt_of_le_of_lt (Nat.zero_le _) hh.1) k hh.2, fun _ _ => rfl, fun g hg => Nat.lt_of_lt_of_le (hlt g hg) hk.size⟩
  · rcases Nat.eq_zero_or_pos c' with h0 | h0
    · subst h0
      exact ⟨tag, ⟨r1, r2, r3, r4, fun h => absurd h (Nat.lt_irrefl _), fun h => absurd h (Nat.lt_irrefl _)⟩, hk.weak, fun _ _ => rfl, fun g hg => Nat.lt_of_lt_of_le (hlt g hg) hk.size⟩
    · have hlt' : g < w'.heap.size := by
        have ho : Own w' (fun _ => some t) t (some ⟨g, 0, none⟩) c' (xs ++ ys) := ⟨r1, r2, r3, r4, fun _ _ _ => rfl, fun _ q hq i => by obtain ⟨_, he, rfl⟩ := hq; cases he; exact hk.nf i⟩
        exact ho.lt h0 ⟨_, rfl, rfl⟩
      refine ⟨fun k => if k = g then some t else tag k, ⟨r1, r2, r3, r4, ?_, fun _ q hq i => by obtain ⟨_, he, rfl⟩ := hq; cases he; exact hk.nf i⟩, hk.weak, fun k hk2 => if_neg (by omega), fun k hk2 => ?_⟩
      · rintro _ _ ⟨_, he, rfl⟩
        cases he
        exact if_pos rfl
      · by_cases he : k = g
        · omega
        · simp only [if_neg he] at hk2
          exact Nat.lt_of_lt_of_le (hlt k hk2) hk.size
theorem Own.drop (h : Own w tag t A c xs) (k : Nat) (hk : k ≤ xs.length) : Own w tag t (if c = k then A else A.map (·.add k)) (c - k) (xs.drop k) := by
  have hle := h.le
  refine ⟨h.rd.drop k c h.le, ?_, by simp only [List.length_drop]; omega, ?_, ?_, ?_⟩
  · intro hn
    simp only [List.length_drop] at hn
    obtain ⟨g, off, rfl, hc⟩ := h.sp (by omega)
    rw [if_neg (by omega)]
    refine ⟨g, off + k, ?_, fun j h1 h2 => ?_⟩
    · simp only [Option.map_some, Addr.add]
      split
      · subst k; rfl
      · rfl
    · rw [Nat.add_assoc]
      simp only [List.length_drop] at h1
      exact hc (k + j) (by omega) (by omega)
  · intro he
    split at he
    · have := h.nil he; omega
    · simp only [Option.map_eq_none_iff] at he
      have := h.nil he; omega
  · intro hc g hg
    rw [if_neg (by omega)] at hg
    refine h.tg (by omega) g ?_
    obtain ⟨ad, he, rfl⟩ := hg
    cases A with
    | none => cases he
    | some a =>
      cases he
      refine ⟨a, rfl, ?_⟩
      simp only [Addr.add]
      split <;> rfl
  · intro hc g hg
    refine h.fz (by omega) g ?_
    split at hg
    · exact hg
    obtain ⟨ad, he, rfl⟩ := hg
    cases A with
    | none => cases he
    | some a =>
      cases he
      refine ⟨a, rfl, ?_⟩
      simp only [Addr.add]
      split <;> rfl
end

/-- Connection i stands in block g. -/
def WireAt (w : World) (tag : Tags) (i g : Nat) (v : WV) : Prop :=
  ∃ iA iC gA gC, WB w g v iA iC gA gC ∧ Own w tag (.inn i) iA iC (bv v.inn) ∧ Own w tag (.got i) gA gC (bv v.got) ∧ tag g = some (.wire i)
/-- Only what belongs to connection i may have changed. -/
structure StepW (tag tag' : Tags) (i : Nat) (w w' : World) : Prop where
  kept : Kept (fun k => tag k = some (.wire i) ∨ tag k = some (.inn i) ∨ tag k = some (.got i)) w w'
  same : ∀ k, k < w.heap.size → tag' k = tag k
  lt : ∀ k, tag' k ≠ none → k < w'.heap.size
/-- The numbers of a connection are within their bounds. -/
def WV.ok (v : WV) : Prop := 0 ≤ v.win ∧ v.win ≤ 1048576 ∧ v.inn.length ≤ 65536
/-- An error, by number; 0: none. -/
def errV (k : Int) : Value := if k = 0 then .nilIface else .iface 60 (.int .i64 k)

section
variable {w w' w'' : World} {tag tag' tag'' : Tags} {i g : Nat} {v v' : WV}
theorem WireAt.kept {S : Nat → Prop} (h : WireAt w tag i g v) (hk : Kept S w w') (hS : ∀ k, S k → tag k ≠ some (.wire i) ∧ tag k ≠ some (.inn i) ∧ tag k ≠ some (.got i)) (ht : ∀ k, k < w.heap.size → tag' k = tag k) : WireAt w' tag' i g v := by
  obtain ⟨iA, iC, gA, gC, h1, h2, h3, h4⟩ := h
  exact ⟨iA, iC, gA, gC, h1.kept hk fun hs => (hS g hs).1 h4, h2.kept hk (fun k hs => (hS k hs).2.1) ht, h3.kept hk (fun k hs => (hS k hs).2.2) ht, (ht g h1.lt).trans h4⟩
theorem StepW.still (hlt : ∀ k, tag k ≠ none → k < w.heap.size) (hk : Kept (fun _ => False) w w') : StepW tag tag i w w' := ⟨hk.weak, fun _ _ => rfl, fun k h => Nat.lt_of_lt_of_le (hlt k h) hk.size⟩
theorem StepW.one (hlt : ∀ k, tag k ≠ none → k < w.heap.size) (hk : Kept (· = g) w w') (hg : tag g = some (.wire i)) : StepW tag tag i w w' := ⟨hk.mono fun _ _ h => .inl (h ▸ hg), fun _ _ => rfl, fun k h => Nat.lt_of_lt_of_le (hlt k h) hk.size⟩
theorem StepW.trans (h : StepW tag tag' i w w') (k : StepW tag' tag'' i w' w'') : StepW tag tag'' i w w'' :=
  ⟨h.kept.over k.kept fun x hlt hx => by rw [h.same x hlt] at hx; exact hx, fun x hx => (k.same x (Nat.lt_of_lt_of_le hx h.kept.size)).trans (h.same x hx), k.lt⟩
end

def WV.happen (v : WV) (e : EV) : WV × Int :=
  if v.st ≠ (if e.kind = 5 ∨ e.kind = 6 then 0 else 1) ∨ (v.ended = true ∧ (e.kind = 1 ∨ e.kind = 2)) then (v, 23)
  else if e.kind = 5 then ({ v with st := 1, win := e.n }, 0)
  else if e.kind = 6 ∨ e.kind = 3 then (v.cut, 0)
  else if e.kind = 4 then ({ v with win := min (v.win + e.n) 1048576 }, 0)
  else if e.kind = 2 then (({ v with ended := true } : WV).settle, 0)
  else if e.kind = 1 then (if 65536 < v.inn.length + e.bs.length then (v, 17) else ({ v with inn := v.inn ++ e.bs }, 0))
  else (v, 0)

set_option maxRecDepth 100000 in
set_option maxHeartbeats 4000000 in
theorem happen_any (w : World) (tag : Tags) (i g : Nat) (v : WV) (e : EV) (h : WireAt w tag i g v) (hlt : ∀ k, tag k ≠ none → k < w.heap.size) (hv : v.ok) (he : Rd w e.A (bv e.bs)) (hr : e.right = true) (hk : 1 ≤ e.kind ∧ e.kind ≤ 6) :
    Calls Try.prog 23 #[.pointer (some ⟨g, 0, none⟩), e.val] w fun x w' => x = .returned (errV (v.happen e).2) ∧ ∃ tag', StepW tag tag' i w w' ∧ WireAt w' tag' i g (v.happen e).1 := by
  have hv0 := hv
  obtain ⟨hv1, hv2, hv3⟩ := hv
  have hW := h
  obtain ⟨iA, iC, gA, gC, hB, hI, hG, hT⟩ := h
  obtain ⟨c0, c1, c2, c3, c4, c5, c6, c7, fz⟩ := hB.cells
  obtain ⟨kind, conn, n, bs, A, c⟩ := e
  simp only at he hk
  have hk6 : kind = 1 ∨ kind = 2 ∨ kind = 3 ∨ kind = 4 ∨ kind = 5 ∨ kind = 6 := by omega
  clear hk
  go_enter Try.func23, Try.ntmps23
  rcases hk6 with rfl | rfl | rfl | rfl | rfl | rfl
  · have hn : bs.length ≤ 4096 := by simpa [EV.right] using hr
    go_wp2_with fail
    all_goals try (go_ret; have hap : v.happen ⟨1, conn, n, bs, A, c⟩ = (v, 23) := by { unfold WV.happen; simp [*] }; rw [hap]; have ka := (Kept.refl (fun _ => False) w).alloc (.cells #[.int .i64 1, .int .i64 conn, .int .i64 n, .slice A bs.length c] 34); exact ⟨rfl, tag, StepW.still hlt ka, hW.kept ka (fun _ hh => hh.elim) fun _ _ => rfl⟩)
    refine wp_region_text (by kernel_rfl) (by kernel_rfl) ?_
    go_wp2_with fail
    refine nrm ?_
    go_wp2_with fail
    · go_ret
      have hap : v.happen ⟨1, conn, n, bs, A, c⟩ = (v, 17) := by { unfold WV.happen; simp [*]; omega }
      rw [hap]
      have ka := ((Kept.refl (fun _ => False) w).alloc (.cells #[.int .i64 1, .int .i64 conn, .int .i64 n, .slice A bs.length c] 34)).drew
      exact ⟨rfl, tag, StepW.still hlt ka, hW.kept ka (fun _ hh => hh.elim) fun _ _ => rfl⟩
    · have ka := (((Kept.refl (fun _ => False) w).alloc (.cells #[.int .i64 1, .int .i64 conn, .int .i64 n, .slice A bs.length c] 34)).drew).drew
      have hI2 : Own _ tag (.inn i) iA iC (bv v.inn) := hI.kept ka (fun _ hh => hh.elim) fun _ _ => rfl
      have he2 := he.same ka
      have hlt2 : ∀ k, tag k ≠ none → k < ((w.alloc (.cells #[.int .i64 1, .int .i64 conn, .int .i64 n, .slice A bs.length c] 34)).drew).drew.heap.size := fun k hk => Nat.lt_of_lt_of_le (hlt k hk) ka.size
      obtain ⟨i0, hi0, hz0, hz1, hz2⟩ := info_parts infou8
      refine wp_region_text (by kernel_rfl) (by kernel_rfl) ?_
      go_wp2_with (at_builtin; refine wpList_append_rd _ rfl (.tmp 89) (.tmp 91) _ rfl 5 i0 _ 1 1 Try.underlying32 hi0 hz0 hz1 hz2 rfl (by omega) iA v.inn.length iC rfl (bv v.inn) (by simp [bv_length]) hI2.rd (by simpa [bv_length] using hI2.le) (by simpa [bv_length] using hI2.sp) hI2.nil A bs.length c rfl (bv bs) (by simp [bv_length]) he2 (bv_one bs) (by simp only [maxLen]; omega) (by omega) ?_; intro A' c' w1 r1 r2 r3 r4 r5; obtain ⟨tag', o1, o2, o3, o4⟩ := hI2.append hlt2 r1 (by simpa [bv_length] using r2) (by simpa [bv_length] using r3) r4 (by simpa [bv_length] using r5); have hB2 : WB w1 g v iA iC gA gC := (hB.kept ka id).kept o2 (by rw [hT]; simp); have d2 := hB2.cells.2.2.1; have f2 := Blk.frozen hB2 2; have hg1 := hB2.lt)
      refine nrm ?_
      go_wp2_with fail
      go_ret
      have hap : v.happen ⟨1, conn, n, bs, A, c⟩ = ({ v with inn := v.inn ++ bs }, 0) := by { unfold WV.happen; simp [*]; omega }
      rw [hap]
      have hTg : tag' g = some (.wire i) := (o3 g (Nat.lt_of_lt_of_le hB.lt ka.size)).trans hT
      refine ⟨rfl, tag', ⟨(ka.weak.trans (o2.mono fun _ _ hh => .inr (.inl hh))).setCell (.inl (.inl hT)) _, fun k hk => o3 k (Nat.lt_of_lt_of_le hk ka.size), fun k hk => by simpa [World.setCell] using o4 k hk⟩, A', c', gA, gC, ?_, ?_, ?_, hTg⟩
      · unfold WB
        simp only [List.length_append]
        exact Blk.set_ hB2 2 _
      · rw [bv_append]
        exact o1.kept ((Kept.refl (· = g) w1).set1 _) (fun x hx => by subst hx; rw [hTg]; simp) fun _ _ => rfl
      · have hG2 : Own _ tag (.got i) gA gC (bv v.got) := hG.kept ka (fun _ hh => hh.elim) fun _ _ => rfl
        have hG3 : Own w1 tag' (.got i) gA gC (bv v.got) := hG2.kept o2 (fun x hx => by rw [hx]; simp) o3
        exact hG3.kept ((Kept.refl (· = g) w1).set1 _) (fun x hx => by subst hx; rw [hTg]; simp) fun _ _ => rfl
  · go_wp2_with fail
    all_goals try (go_ret; have hap : v.happen ⟨2, conn, n, bs, A, c⟩ = (v, 23) := by { unfold WV.happen; simp [*] }; rw [hap]; have ka := (Kept.refl (fun _ => False) w).alloc (.cells #[.int .i64 2, .int .i64 conn, .int .i64 n, .slice A bs.length c] 34); exact ⟨rfl, tag, StepW.still hlt ka, hW.kept ka (fun _ hh => hh.elim) fun _ _ => rfl⟩)
    all_goals
      refine (settle_any _ g { v with ended := true } iA gA iC gC (Blk.alloc (Blk.set_ hB 5 _) _)).mono ?_
      rintro _ w1 ⟨rfl, k1, hB1⟩
      go_wp2_with fail
      go_ret
      have hap : v.happen ⟨2, conn, n, bs, A, c⟩ = (({ v with ended := true } : WV).settle, 0) := by { unfold WV.happen; simp [*] }
      rw [hap]
      have kk : Kept (· = g) w w1 := (((Kept.refl _ w).set1 _).alloc _).trans k1
      have hs := StepW.one (i := i) hlt kk hT
      refine ⟨rfl, tag, hs, iA, iC, gA, gC, hB1, ?_, ?_, hT⟩
      · have e : (({ v with ended := true } : WV).settle).inn = v.inn := by unfold WV.settle; split <;> rfl
        rw [e]
        exact hI.kept kk (fun x hx => by subst hx; rw [hT]; simp) fun _ _ => rfl
      · have e : (({ v with ended := true } : WV).settle).got = v.got := by unfold WV.settle; split <;> rfl
        rw [e]
        exact hG.kept kk (fun x hx => by subst hx; rw [hT]; simp) fun _ _ => rfl
  · go_wp2_with fail
    all_goals try (go_ret; have hap : v.happen ⟨3, conn, n, bs, A, c⟩ = (v, 23) := by { unfold WV.happen; simp [*] }; rw [hap]; have ka := (Kept.refl (fun _ => False) w).alloc (.cells #[.int .i64 3, .int .i64 conn, .int .i64 n, .slice A bs.length c] 34); exact ⟨rfl, tag, StepW.still hlt ka, hW.kept ka (fun _ hh => hh.elim) fun _ _ => rfl⟩)
    all_goals
      refine (cut_any _ g v iA gA iC gC (Blk.alloc hB _)).mono ?_
      rintro _ w1 ⟨rfl, k1, hB1⟩
      go_wp2_with fail
      go_ret
      have hap : v.happen ⟨3, conn, n, bs, A, c⟩ = (v.cut, 0) := by { unfold WV.happen; simp [*] }
      rw [hap]
      have kk : Kept (· = g) w w1 := ((Kept.refl _ w).alloc _).trans k1
      have hs := StepW.one (i := i) hlt kk hT
      exact ⟨rfl, tag, hs, none, 0, gA, gC, hB1, Own.none_ _ _ _, hG.kept kk (fun x hx => by subst hx; rw [hT]; simp) fun _ _ => rfl, hT⟩
  · have hn : 0 ≤ n ∧ n ≤ 65536 := by simpa [EV.right, winB] using hr
    obtain ⟨hn1, hn2⟩ := hn
    go_wp2_with fail
    all_goals try (go_ret; have hap : v.happen ⟨4, conn, n, bs, A, c⟩ = (v, 23) := by { unfold WV.happen; simp [*] }; rw [hap]; have ka := (Kept.refl (fun _ => False) w).alloc (.cells #[.int .i64 4, .int .i64 conn, .int .i64 n, .slice A bs.length c] 34); exact ⟨rfl, tag, StepW.still hlt ka, hW.kept ka (fun _ hh => hh.elim) fun _ _ => rfl⟩)
    all_goals
      refine wp_region_text (by kernel_rfl) (by kernel_rfl) ?_
      go_wp2_with fail
    all_goals
      go_ret
      have hap : v.happen ⟨4, conn, n, bs, A, c⟩ = ({ v with win := min (v.win + n) 1048576 }, 0) := by { unfold WV.happen; simp [*] }
      rw [hap]
      first
        | have hm : min (v.win + n) 1048576 = v.win + n := by omega
        | have hm : min (v.win + n) 1048576 = 1048576 := by omega
      rw [hm]
      refine ⟨rfl, tag, StepW.one (i := i) hlt (((Kept.refl _ w).set1 _).alloc _).drew hT, iA, iC, gA, gC, Blk.drew (Blk.alloc (Blk.set_ hB 3 _) _), ?_, ?_, hT⟩
      · exact hI.kept (((Kept.refl (· = g) w).set1 _).alloc _).drew (fun x hx => by subst hx; rw [hT]; simp) fun _ _ => rfl
      · exact hG.kept (((Kept.refl (· = g) w).set1 _).alloc _).drew (fun x hx => by subst hx; rw [hT]; simp) fun _ _ => rfl
  · go_wp2_with fail
    all_goals try (go_ret; have hap : v.happen ⟨5, conn, n, bs, A, c⟩ = (v, 23) := by { unfold WV.happen; simp [*] }; rw [hap]; have ka := (Kept.refl (fun _ => False) w).alloc (.cells #[.int .i64 5, .int .i64 conn, .int .i64 n, .slice A bs.length c] 34); exact ⟨rfl, tag, StepW.still hlt ka, hW.kept ka (fun _ hh => hh.elim) fun _ _ => rfl⟩)
    all_goals
      go_region_held3 (fun w' => w'.cell? ⟨w.heap.size, 2, none⟩ = some (.int .i64 n))
        (first | assumption | exact Blk.cell (Blk.drew (Blk.new' (g := w.heap.size) (by simp [World.setCell]))) 2)
        (fail)
    all_goals
      go_wp2_with fail
      go_ret
      have hap : v.happen ⟨5, conn, n, bs, A, c⟩ = ({ v with st := 1, win := n }, 0) := by { unfold WV.happen; simp [*] }
      rw [hap]
      refine ⟨rfl, tag, StepW.one (i := i) hlt ((((Kept.refl _ w).set1 _).set1 _).alloc _).drew hT, iA, iC, gA, gC, Blk.drew (Blk.alloc (Blk.set_ (Blk.set_ hB 0 _) 3 _) _), ?_, ?_, hT⟩
      · exact hI.kept ((((Kept.refl (· = g) w).set1 _).set1 _).alloc _).drew (fun x hx => by subst hx; rw [hT]; simp) fun _ _ => rfl
      · exact hG.kept ((((Kept.refl (· = g) w).set1 _).set1 _).alloc _).drew (fun x hx => by subst hx; rw [hT]; simp) fun _ _ => rfl
  · go_wp2_with fail
    all_goals try (go_ret; have hap : v.happen ⟨6, conn, n, bs, A, c⟩ = (v, 23) := by { unfold WV.happen; simp [*] }; rw [hap]; have ka := (Kept.refl (fun _ => False) w).alloc (.cells #[.int .i64 6, .int .i64 conn, .int .i64 n, .slice A bs.length c] 34); exact ⟨rfl, tag, StepW.still hlt ka, hW.kept ka (fun _ hh => hh.elim) fun _ _ => rfl⟩)
    all_goals
      refine (cut_any _ g v iA gA iC gC (Blk.alloc hB _)).mono ?_
      rintro _ w1 ⟨rfl, k1, hB1⟩
      go_wp2_with fail
      go_ret
      have hap : v.happen ⟨6, conn, n, bs, A, c⟩ = (v.cut, 0) := by { unfold WV.happen; simp [*] }
      rw [hap]
      have kk : Kept (· = g) w w1 := ((Kept.refl _ w).alloc _).trans k1
      have hs := StepW.one (i := i) hlt kk hT
      exact ⟨rfl, tag, hs, none, 0, gA, gC, hB1, Own.none_ _ _ _, hG.kept kk (fun x hx => by subst hx; rw [hT]; simp) fun _ _ => rfl, hT⟩
end Go.Proofs.Ytpdlpiepgeanjaa

/- OutqPlays's walk. No conditions. -/
import Derived.Test.YtocbbkkfcabiiaaOutqR
import Derived.Test.YtocbbkkfcabiiaaOutqE
import Derived.Test.YtocbbkkfcabiiaaErrIs
import Derived.Deep.CutBlock
import Derived.Test.YtocbbkkfcabiiaaEager
namespace Go.Proofs.Ytocbbkkfcabiiaa
open Go.RowKit

/-- What holds at the head of a round. -/
def PlayR (w0 : World) (b xb : Nat) (lo hi rm : Int) (k : Nat) (wr : World) : Prop :=
  ∃ (A : Option Addr) (c : Nat) (ab : Bool) (pre xs : List UInt8) (gn : Nat), QB wr b lo hi rm (.slice A xs.length c) ab (pre ++ xs).length gn ∧ Rd wr A (bv xs) ∧ xs.length ≤ c ∧ (A = none → c = 0) ∧
    Blk wr xb 42 #[.int .i64 lo, .int .i64 hi, .int .i64 rm, .string ⟨(pre ++ xs).toArray⟩, .int .i64 gn, .int .i64 xs.length, .bool ab] ∧
    (pre ++ xs).length ≤ 60 * k ∧ gn ≤ pre.length ∧ (xs.length : Int) ≤ rm ∧ Kept (fun _ => False) w0 wr
/-- What holds throughout the round's last test. -/
def PlaySP (w0 : World) (b xb : Nat) (lo hi rm : Int) (all xs : List UInt8) (A : Option Addr) (c : Nat) (ab : Bool) (gn : Nat) (w' : World) : Prop :=
  Blk w' xb 42 #[.int .i64 lo, .int .i64 hi, .int .i64 rm, .string ⟨all.toArray⟩, .int .i64 gn, .int .i64 xs.length, .bool ab] ∧ QB w' b lo hi rm (.slice A xs.length c) ab all.length gn ∧ Rd w' A (bv xs) ∧ Kept (fun _ => False) w0 w'
section
variable {w0 w w' : World} {b xb : Nat} {lo hi rm : Int} {all xs : List UInt8} {A : Option Addr} {c : Nat} {ab : Bool} {gn : Nat}
theorem PlaySP.q (h : PlaySP w0 b xb lo hi rm all xs A c ab gn w) : QB w b lo hi rm (.slice A xs.length c) ab all.length gn := h.2.1
theorem PlaySP.r (h : PlaySP w0 b xb lo hi rm all xs A c ab gn w) : Rd w A (bv xs) := h.2.2.1
theorem PlaySP.k (h : PlaySP w0 b xb lo hi rm all xs A c ab gn w) : Kept (fun _ => False) w0 w := h.2.2.2
theorem PlaySP.drew (h : PlaySP w0 b xb lo hi rm all xs A c ab gn w) : PlaySP w0 b xb lo hi rm all xs A c ab gn w.drew := ⟨h.1, h.2.1, h.2.2.1, h.2.2.2.drew⟩
theorem PlaySP.kept (k : Kept (fun _ => False) w w') (h : PlaySP w0 b xb lo hi rm all xs A c ab gn w) : PlaySP w0 b xb lo hi rm all xs A c ab gn w' := ⟨Blk.kept h.1 k id, QB.kept h.2.1 k id, h.2.2.1.same k, h.2.2.2.trans k⟩
theorem PlaySP.cells (h : PlaySP w0 b xb lo hi rm all xs A c ab gn w) : w.cell? ⟨xb, 0, none⟩ = some (.int .i64 lo) ∧ w.cell? ⟨xb, 1, none⟩ = some (.int .i64 hi) ∧ w.cell? ⟨xb, 2, none⟩ = some (.int .i64 rm) ∧ w.cell? ⟨xb, 3, none⟩ = some (.string ⟨all.toArray⟩) ∧
    w.cell? ⟨xb, 4, none⟩ = some (.int .i64 gn) ∧ w.cell? ⟨xb, 5, none⟩ = some (.int .i64 xs.length) ∧ w.cell? ⟨xb, 6, none⟩ = some (.bool ab) ∧ PlaySP w0 b xb lo hi rm all xs A c ab gn w :=
  ⟨h.1.cell 0, h.1.cell 1, h.1.cell 2, h.1.cell 3, h.1.cell 4, h.1.cell 5, h.1.cell 6, h⟩
end
theorem PlayR.mk {w0 wr : World} {b xb : Nat} {lo hi rm : Int} {k : Nat} {pre xs all : List UInt8} {A : Option Addr} {n c gn : Nat} {ab : Bool} {qd g1 g2 held : Int}
    (q : QB wr b lo hi rm (.slice A n c) ab qd g1) (x : Blk wr xb 42 #[.int .i64 lo, .int .i64 hi, .int .i64 rm, .string ⟨all.toArray⟩, .int .i64 g2, .int .i64 held, .bool ab]) (hall : all = pre ++ xs) (hn : xs.length = n) (hqd : qd = all.length)
    (h1 : g1 = gn) (h2 : g2 = gn) (hh : held = n) (hr : Rd wr A (bv xs)) (hc : n ≤ c) (hA : A = none → c = 0) (h60 : all.length ≤ 60 * k) (hg : gn ≤ pre.length) (hxr : (n : Int) ≤ rm) (hk : Kept (fun _ => False) w0 wr) : PlayR w0 b xb lo hi rm k wr := by
  subst hn h1 h2 hh hqd hall
  exact ⟨A, c, ab, pre, xs, gn, q, hr, hc, hA, x, h60, hg, hxr, hk⟩
/-- Bytes don't lie in a block without bytes. -/
theorem Rd.keptB {w w' : World} {A : Option Addr} {l : List Value} {g : Nat} {t : TypeId} {cs : Array Value} (h : Rd w A l) (hb : Blk w g t cs) (hcs : ∀ (i : Nat) (k : Int), cs[i]? ≠ some (.int .u8 k))
    (hk : Kept (· = g) w w') (hl : ∀ u ∈ l, ∃ k, u = .int .u8 k) : Rd w' A l := by
  by_cases hn : l = []
  · subst hn; exact Rd.nil _ _
  refine h.kept hk ?_
  rintro g' ⟨ad, rfl, rfl⟩ rfl
  obtain ⟨x, hx⟩ : ∃ x, l[0]? = some x := ⟨l[0]'(List.length_pos_iff.2 hn), List.getElem?_eq_getElem _⟩
  obtain ⟨g, off, h1, hc⟩ := h.get hx
  cases h1
  obtain ⟨k, rfl⟩ := hl x (List.mem_of_getElem? hx)
  rw [Nat.add_zero, Blk.cell hb off] at hc
  exact hcs off k hc
theorem no_u8 (lo hi rm g h : Int) (s : ByteArray) (ab : Bool) : ∀ (i : Nat) (k : Int), (#[.int .i64 lo, .int .i64 hi, .int .i64 rm, .string s, .int .i64 g, .int .i64 h, .bool ab] : Array Value)[i]? ≠ some (.int .u8 k) := by
  intro i k
  match i with
  | 0 => simp
  | 1 => simp
  | 2 => simp
  | 3 => simp
  | 4 => simp
  | 5 => simp
  | 6 => simp
  | i + 7 => simp
set_option maxRecDepth 100000 in
set_option maxHeartbeats 16000000 in
theorem play_any (w : World) (lo hi rm nn : Int) (A : Option Addr) (c : Nat) (l : List ActV) (h : ActsAt w A l) (hc : l.length ≤ maxLen) :
    Calls Try.prog 5 #[.int .i64 lo, .int .i64 hi, .int .i64 rm, .slice A l.length c, .int .i64 nn] w fun e w' => e = .returned (.bool true) ∧ Kept (fun _ => False) w w' := by
  unfold maxLen at hc
  by_cases hbad : lo < 0 ∨ hi ≤ lo ∨ rm < hi ∨ 65536 < rm
  · have hgd : decide (0 ≤ lo ∧ lo < hi ∧ hi ≤ rm ∧ rm ≤ 65536) = false := by simp; omega
    have hG := fun w => rgood_any lo hi rm w
    rw [hgd] at hG
    go_enter Try.func5, Try.ntmps5
    go_wp2_with (first | (go_at_call 9; refine (awake19 _).mono ?_; rintro e w1 ⟨rfl, k1⟩) | (go_at_call 10; refine (new_bad _ lo hi rm hbad).mono ?_; rintro e w2 ⟨rfl, rfl⟩) | (go_at_call 19; refine (hG _).mono ?_; rintro e w2 ⟨rfl, rfl⟩))
    go_ret
    exact ⟨rfl, k1⟩
  · have b1 : 0 ≤ lo := by omega
    have b2 : lo < hi := by omega
    have b3 : hi ≤ rm := by omega
    have b4 : rm ≤ 65536 := by omega
    clear hbad
    have hgd : decide (0 ≤ lo ∧ lo < hi ∧ hi ≤ rm ∧ rm ≤ 65536) = true := by simp; omega
    have hG := fun w => rgood_any lo hi rm w
    rw [hgd] at hG
    by_cases hf : fewB l = true
    · have Hf := Lib.hid hf
      obtain ⟨f1, f2⟩ := fewB_spec hf
      go_enter Try.func5, Try.ntmps5
      go_wp2_with fail
      refine (awake19 _).mono ?_
      rintro e w1 ⟨rfl, k1⟩
      go_wp2_with fail
      refine (new_good _ lo hi rm (by omega) (by omega) (by omega) (by omega)).mono ?_
      rintro e w2 ⟨rfl, k2, q2⟩
      go_wp2_with fail
      refine (hG _).mono ?_
      rintro e w3 ⟨rfl, rfl⟩
      go_wp2_with fail
      refine (few_any _ A c l (h.kept (k1.trans k2)) (by unfold maxLen; omega)).mono ?_
      rintro e w3 ⟨rfl, rfl⟩
      have k3 := k1.trans k2
      have hb0 : w.heap.size ≤ w1.heap.size := k1.size
      generalize w1.heap.size = b at *
      clear k1 k2 hG hgd
      go_wp2_with fail
      have q3 := QB.kept q2 ((Kept.refl (fun _ => False) w2).alloc (.cells #[Value.int .i64 lo, Value.int .i64 hi, Value.int .i64 rm, Value.string ⟨#[]⟩, Value.int .i64 0, Value.int .i64 0, Value.bool false] 42)) id
      have k4 := k3.alloc (.cells #[Value.int .i64 lo, Value.int .i64 hi, Value.int .i64 rm, Value.string ⟨#[]⟩, Value.int .i64 0, Value.int .i64 0, Value.bool false] 42)
      have x4 := Blk.new w2 42 #[Value.int .i64 lo, Value.int .i64 hi, Value.int .i64 rm, Value.string ⟨#[]⟩, Value.int .i64 0, Value.int .i64 0, Value.bool false]
      have hxb0 : w.heap.size ≤ w2.heap.size := k3.size
      have hxb1 : b < w2.heap.size := Blk.lt q2
      have h4 := h.kept k4
      generalize w2.heap.size = xb at *
      go_loopw [13] (fun v13 wr => ∃ k : Nat, k ≤ l.length ∧ v13 = .int .i64 k ∧ PlayR w b xb lo hi rm k wr) (fun i _ => l.length - (intOf i).toNat)
      case atStart => exact ⟨0, Nat.zero_le _, rfl, none, 0, false, [], [], 0, q3, Rd.nil _ _, Nat.le_refl _, fun _ => rfl, x4, Nat.le_refl _, Nat.le_refl _, by simp; omega, k4⟩
      case round =>
        obtain ⟨k, hk, rfl, A1, c1, ab, pre, xs, gn, q, hr, hxc, hA1, hx, hil, hgn, hxr, hkp⟩ := hrel
        by_cases hlt : k < l.length
        · have h5 := h.kept hkp
          obtain ⟨g, off, rfl, a0, a1, a2, hrv, hvc, hvA, hvm⟩ := h5.get hlt
          have hb60 := f2 _ (List.getElem_mem hlt)
          have hal : (pre ++ xs).length ≤ 2400 := by omega
          have hxl2 : xs.length ≤ (pre ++ xs).length := by simp
          have hpl2 : pre.length ≤ (pre ++ xs).length := by simp
          have hblt : b < wr.heap.size := Blk.lt q
          have hxlt : xb < wr.heap.size := Blk.lt hx
          have hne1 : ¬ xb = wr.heap.size := by omega
          have hne2 : ¬ wr.heap.size = xb := by omega
          have hne3 : ¬ xb = b := by omega
          have hne4 : ¬ b = xb := by omega
          have ka := (Kept.refl (fun _ => False) wr).alloc (.cells #[Value.int .i64 l[k].kind, Value.int .i64 l[k].n, Value.slice l[k].A l[k].bs.length l[k].c] 29)
          have qa := QB.kept q ka id
          have xa := Blk.kept hx ka id
          have aa := Blk.new wr 29 #[Value.int .i64 l[k].kind, Value.int .i64 l[k].n, Value.slice l[k].A l[k].bs.length l[k].c]
          have ra := hr.same ka
          have rva := hrv.same ka
          obtain ⟨x0, x1, x2, x3, x4', x5, x6, xz, xlt⟩ := hx.seven
          go_upto_block 2 with (fail)
          go_cut [] (fun wx => PlayR w b xb lo hi rm (k + 1) wx)
          case first =>
            by_cases hk01 : l[k].kind = 0 ∨ l[k].kind = 1
            · by_cases hroom : (l[k].bs.length : Int) ≤ rm - xs.length
              · have hs := run_str (P := Try.prog) (n := l[k].bs.length) (c := l[k].c) Try.underlying27 Try.underlying5 Try.underlying9 rva rfl
                have hP := fun w => rput_room lo hi rm (pre ++ xs) l[k].bs gn xs.length ab w b2 (by omega) (by omega) (by omega) (by omega) (by omega)
                have hk0 : (l[k].kind == 0) = true ∨ ((l[k].kind == 0) = false ∧ (l[k].kind == 1) = true) := by
                  rcases hk01 with e | e
                  · left; rw [e]; rfl
                  · right; rw [e]; exact ⟨rfl, rfl⟩
                clear hk01
                rcases hk0 with hk0 | ⟨hk0, hk1⟩
                all_goals
                  go_wp2_with fail
                  refine (hP _).mono ?_
                  clear hP hs
                  rintro e w4 ⟨rfl, k4⟩
                  have xB := Blk.kept xa k4 id
                  have aB := Blk.kept aa k4 id
                  have q4 := QB.kept qa k4 id
                  obtain ⟨d0, d1, d2, d3, d4, d5, d6, dz, dlt⟩ := xB.seven
                  have e1 := aB.cell 1
                  have e2 := aB.cell 2
                  simp at e1 e2
                  have alt := aB.lt
                  have kx := ((Kept.refl (· = xb) w4).store7 (g := xb) (.inl rfl) (.int .i64 lo) (.int .i64 hi) (.int .i64 rm) (.string ⟨(pre ++ (xs ++ l[k].bs)).toArray⟩) (.int .i64 (↑gn)) (.int .i64 (↑xs.length + ↑l[k].bs.length)) (.bool (markB lo hi (↑xs.length + ↑l[k].bs.length) ab))).alloc (.cells #[.int .i64 lo, .int .i64 hi, .int .i64 rm, .string ⟨(pre ++ (xs ++ l[k].bs)).toArray⟩, .int .i64 (↑gn), .int .i64 (↑xs.length + ↑l[k].bs.length), .bool (markB lo hi (↑xs.length + ↑l[k].bs.length) ab)] 42)
                  have xB5 := Blk.alloc (xB.store7 (.int .i64 lo) (.int .i64 hi) (.int .i64 rm) (.string ⟨(pre ++ (xs ++ l[k].bs)).toArray⟩) (.int .i64 (↑gn)) (.int .i64 (↑xs.length + ↑l[k].bs.length)) (.bool (markB lo hi (↑xs.length + ↑l[k].bs.length) ab))) (.cells #[.int .i64 lo, .int .i64 hi, .int .i64 rm, .string ⟨(pre ++ (xs ++ l[k].bs)).toArray⟩, .int .i64 (↑gn), .int .i64 (↑xs.length + ↑l[k].bs.length), .bool (markB lo hi (↑xs.length + ↑l[k].bs.length) ab)] 42)
                  have q5 := QB.kept q4 kx hne4
                  have r5 := (ra.same k4).keptB xB (no_u8 _ _ _ _ _ _ _) kx (bv_u8 _)
                  have rv5 := (rva.same k4).keptB xB (no_u8 _ _ _ _ _ _ _) kx (bv_u8 _)
                  have kw5 : Kept (fun i => i = xb ∨ i = b) w _ := ((hkp.trans ka).trans k4).weak.trans (kx.mono fun _ _ e => .inl e)
                  go_wp2_with fail
                  refine (put_room _ b lo hi rm _ _ A1 l[k].A xs.length c1 l[k].bs.length l[k].c ab xs l[k].bs q5 (by unfold maxLen; omega) (by omega) b4 (by omega) (by omega) (by omega) hxc r5 rv5 rfl rfl).mono ?_
                  rintro e w6 ⟨rfl, k6, A6, c6, hc6, hA6, r6, q6⟩
                  have xB6 := Blk.kept xB5 k6 hne3
                  have kw6 := kw5.trans (k6.mono fun _ _ e => .inr e)
                  clear kw5 kx xB5 q5 r5 rv5 k6 xB aB q4
                  go_wp2_with (go_at_call 18; refine (code_nil _).mono ?_; rintro e w7 ⟨rfl, rfl⟩)
                  go_meet
                  exact PlayR.mk q6 xB6 (pre := pre) (xs := xs ++ l[k].bs) (gn := gn) (by simp) (by simp) (by simp; omega) rfl rfl (by omega) r6 (by omega) hA6 (by simp only [List.length_append]; simp only [List.length_append] at hil; omega) hgn (by omega) (kw6.mono fun i hi hh => by rcases hh with hh | hh <;> omega)
              · have hs := run_str (P := Try.prog) (n := l[k].bs.length) (c := l[k].c) Try.underlying27 Try.underlying5 Try.underlying9 rva rfl
                have hP := fun w => rput_full lo hi rm (pre ++ xs) l[k].bs gn xs.length ab w (by omega) (by omega) (by omega) (by omega)
                have hk0 : (l[k].kind == 0) = true ∨ ((l[k].kind == 0) = false ∧ (l[k].kind == 1) = true) := by
                  rcases hk01 with e | e
                  · left; rw [e]; rfl
                  · right; rw [e]; exact ⟨rfl, rfl⟩
                clear hk01
                rcases hk0 with hk0 | ⟨hk0, hk1⟩
                all_goals
                  go_wp2_with fail
                  refine (hP _).mono ?_
                  clear hP hs
                  rintro e w4 ⟨rfl, k4⟩
                  have xB := Blk.kept xa k4 id
                  have aB := Blk.kept aa k4 id
                  have q4 := QB.kept qa k4 id
                  obtain ⟨d0, d1, d2, d3, d4, d5, d6, dz, dlt⟩ := xB.seven
                  have e1 := aB.cell 1
                  have e2 := aB.cell 2
                  simp at e1 e2
                  have alt := aB.lt
                  have kx := ((Kept.refl (· = xb) w4).store7 (g := xb) (.inl rfl) (.int .i64 lo) (.int .i64 hi) (.int .i64 rm) (.string ⟨(pre ++ xs).toArray⟩) (.int .i64 (↑gn)) (.int .i64 (↑xs.length)) (.bool (ab))).alloc (.cells #[.int .i64 lo, .int .i64 hi, .int .i64 rm, .string ⟨(pre ++ xs).toArray⟩, .int .i64 (↑gn), .int .i64 (↑xs.length), .bool (ab)] 42)
                  have xB5 := Blk.alloc (xB.store7 (.int .i64 lo) (.int .i64 hi) (.int .i64 rm) (.string ⟨(pre ++ xs).toArray⟩) (.int .i64 (↑gn)) (.int .i64 (↑xs.length)) (.bool (ab))) (.cells #[.int .i64 lo, .int .i64 hi, .int .i64 rm, .string ⟨(pre ++ xs).toArray⟩, .int .i64 (↑gn), .int .i64 (↑xs.length), .bool (ab)] 42)
                  have q5 := QB.kept q4 kx hne4
                  have r5 := (ra.same k4).keptB xB (no_u8 _ _ _ _ _ _ _) kx (bv_u8 _)
                  have rv5 := (rva.same k4).keptB xB (no_u8 _ _ _ _ _ _ _) kx (bv_u8 _)
                  have kw5 : Kept (fun i => i = xb ∨ i = b) w _ := ((hkp.trans ka).trans k4).weak.trans (kx.mono fun _ _ e => .inl e)
                  go_wp2_with fail
                  refine (put_full _ b lo hi rm _ _ A1 l[k].A xs.length c1 l[k].bs.length l[k].c ab q5 (by unfold maxLen; omega) (by omega) b4 (by omega)).mono ?_
                  rintro e w6 ⟨rfl, k6⟩
                  have xB6 := Blk.kept xB5 k6 id
                  have q6 := QB.kept q5 k6 id
                  have r6 := r5.same k6
                  have kw6 := kw5.trans (k6.weak)
                  clear kw5 kx xB5 q5 r5 rv5 k6 xB aB q4
                  go_wp2_with (go_at_call 18; refine (code_errno 17 (by omega) (by omega) _).mono ?_; rintro e w7 ⟨rfl, rfl⟩)
                  go_meet
                  exact PlayR.mk q6 xB6 (pre := pre) (xs := xs) (gn := gn) rfl rfl rfl rfl rfl rfl r6 hxc hA1 (by omega) hgn hxr (kw6.mono fun i hi hh => by rcases hh with hh | hh <;> omega)
            · by_cases hk23 : l[k].kind = 2 ∨ l[k].kind = 3
              · have htl : takeN l[k].n xs.length ≤ xs.length := by unfold takeN; omega
                have hP := fun w => rtook_any lo hi rm (pre ++ xs) gn xs pre ab l[k].n w b2 (by omega) (by omega) (by omega) rfl
                have hT := fun (w : World) (h5 : QB w b lo hi rm (.slice A1 xs.length c1) ab (pre ++ xs).length gn) (h6 : Rd w A1 (bv xs)) => took_any w b lo hi rm _ _ A1 xs.length c1 ab xs l[k].n h5 (by omega) hxc hA1 h6 rfl (by omega) (by omega)
                generalize takeN l[k].n xs.length = t at *
                have k0F : (l[k].kind == 0) = false := by rcases hk23 with e | e <;> rw [e] <;> rfl
                have k1F : (l[k].kind == 1) = false := by rcases hk23 with e | e <;> rw [e] <;> rfl
                have hk0 : (l[k].kind == 2) = true ∨ ((l[k].kind == 2) = false ∧ (l[k].kind == 3) = true) := by
                  rcases hk23 with e | e
                  · left; rw [e]; rfl
                  · right; rw [e]; exact ⟨rfl, rfl⟩
                clear hk01 hk23
                rcases hk0 with hk0 | ⟨hk0, hk1⟩
                all_goals
                  go_wp2_with fail
                  refine (hP _).mono ?_
                  clear hP
                  rintro e w4 ⟨rfl, k4⟩
                  have xB := Blk.kept xa k4 id
                  have aB := Blk.kept aa k4 id
                  have q4 := QB.kept qa k4 id
                  obtain ⟨d0, d1, d2, d3, d4, d5, d6, dz, dlt⟩ := xB.seven
                  have e1 := aB.cell 1
                  have e2 := aB.cell 2
                  simp at e1 e2
                  have alt := aB.lt
                  have kx := ((Kept.refl (· = xb) w4).store7 (g := xb) (.inl rfl) (.int .i64 lo) (.int .i64 hi) (.int .i64 rm) (.string ⟨(pre ++ xs).toArray⟩) (.int .i64 (↑gn + ↑t)) (.int .i64 (↑(xs.length - t))) (.bool (markB lo hi ↑(xs.length - t) ab))).alloc (.cells #[.int .i64 lo, .int .i64 hi, .int .i64 rm, .string ⟨(pre ++ xs).toArray⟩, .int .i64 (↑gn + ↑t), .int .i64 (↑(xs.length - t)), .bool (markB lo hi ↑(xs.length - t) ab)] 42)
                  have xB5 := Blk.alloc (xB.store7 (.int .i64 lo) (.int .i64 hi) (.int .i64 rm) (.string ⟨(pre ++ xs).toArray⟩) (.int .i64 (↑gn + ↑t)) (.int .i64 (↑(xs.length - t))) (.bool (markB lo hi ↑(xs.length - t) ab))) (.cells #[.int .i64 lo, .int .i64 hi, .int .i64 rm, .string ⟨(pre ++ xs).toArray⟩, .int .i64 (↑gn + ↑t), .int .i64 (↑(xs.length - t)), .bool (markB lo hi ↑(xs.length - t) ab)] 42)
                  have q5 := QB.kept q4 kx hne4
                  have r5 := (ra.same k4).keptB xB (no_u8 _ _ _ _ _ _ _) kx (bv_u8 _)
                  have rv5 := (rva.same k4).keptB xB (no_u8 _ _ _ _ _ _ _) kx (bv_u8 _)
                  have kw5 : Kept (fun i => i = xb ∨ i = b) w _ := ((hkp.trans ka).trans k4).weak.trans (kx.mono fun _ _ e => .inl e)
                  go_wp2_with fail
                  refine (hT _ q5 r5).mono ?_
                  clear hT
                  rintro e w6 ⟨rfl, k6, A6, hA6, r6, q6⟩
                  have xB6 := Blk.kept xB5 k6 hne3
                  have kw6 := kw5.trans (k6.mono fun _ _ e => .inr e)
                  clear kw5 kx xB5 q5 r5 rv5 k6 xB aB q4
                  go_wp2_with fail
                  go_meet
                  exact PlayR.mk q6 xB6 (pre := pre ++ xs.take t) (xs := xs.drop t) (gn := gn + t) (by simp) (by simp) rfl (by omega) (by omega) rfl r6 (by omega) hA6 (by omega) (by simp; omega) (by omega) (kw6.mono fun i hi hh => by rcases hh with hh | hh <;> omega)
              · by_cases hk4 : l[k].kind = 4
                · have k0F : (l[k].kind == 0) = false := by rw [hk4]; rfl
                  have k1F : (l[k].kind == 1) = false := by rw [hk4]; rfl
                  have k2F : (l[k].kind == 2) = false := by rw [hk4]; rfl
                  have k3F : (l[k].kind == 3) = false := by rw [hk4]; rfl
                  have k4T : (l[k].kind == 4) = true := by rw [hk4]; rfl
                  clear hk01 hk23 hk4
                  go_wp2_with fail
                  refine (clear_any _ b lo hi rm _ _ A1 xs.length c1 ab qa).mono ?_
                  rintro e w4 ⟨rfl, k4, q4⟩
                  have xB := Blk.kept xa k4 hne3
                  obtain ⟨d0, d1, d2, d3, d4, d5, d6, dz, dlt⟩ := xB.seven
                  go_wp2_with fail
                  refine (rclear_any lo hi rm (pre ++ xs) gn xs.length ab _ b2).mono ?_
                  rintro e w5 ⟨rfl, k5⟩
                  have xB5 := Blk.kept xB k5 id
                  obtain ⟨g0, g1, g2, g3, g4, g5, g6, gz, glt⟩ := xB5.seven
                  have q5 := QB.kept q4 k5 id
                  go_wp2_with fail
                  go_meet
                  have kx := (Kept.refl (· = xb) w5).store7 (g := xb) (.inl rfl) (.int .i64 lo) (.int .i64 hi) (.int .i64 rm) (.string ⟨(pre ++ xs).toArray⟩) (.int .i64 (↑gn)) (.int .i64 (0)) (.bool (markB lo hi 0 ab))
                  exact PlayR.mk (QB.kept q5 kx hne4) (xB5.store7 (.int .i64 lo) (.int .i64 hi) (.int .i64 rm) (.string ⟨(pre ++ xs).toArray⟩) (.int .i64 (↑gn)) (.int .i64 (0)) (.bool (markB lo hi 0 ab))) (pre := pre ++ xs) (xs := []) (gn := gn) (by simp) rfl rfl rfl rfl rfl (Rd.nil _ _) (Nat.le_refl _) (fun _ => rfl) (by omega) (by simp; omega) (by omega) (((((hkp.trans ka).weak (S := fun i => i = xb ∨ i = b)).trans (k4.mono fun _ _ e => .inr e)).trans (k5.weak.trans (kx.mono fun _ _ e => .inl e))).mono fun i hi hh => by rcases hh with hh | hh <;> omega)
                · have k0F : (l[k].kind == 0) = false := by simp; omega
                  have k1F : (l[k].kind == 1) = false := by simp; omega
                  have k2F : (l[k].kind == 2) = false := by simp; omega
                  have k3F : (l[k].kind == 3) = false := by simp; omega
                  have k4F : (l[k].kind == 4) = false := by simp; omega
                  clear hk01 hk23 hk4
                  go_wp2_with fail
                  go_meet
                  exact PlayR.mk qa xa (pre := pre) (xs := xs) (gn := gn) rfl rfl rfl rfl rfl rfl ra hxc hA1 (by omega) hgn hxr (hkp.trans ka)
          case rest =>
            obtain ⟨A2, c2, ab2, pre2, xs2, gn2, q2', hr2, hxc2, hA2, hx2, hil2, hgn2, hxr2, hkp2⟩ := hcut
            obtain ⟨x0, x1, x2, x3, x4', x5, x6, xz, xlt⟩ := hx2.seven
            have hal2 : (pre2 ++ xs2).length ≤ 2460 := by omega
            have hxl3 : xs2.length ≤ (pre2 ++ xs2).length := by simp
            have hN := fun (w' : World) (hq : QB w' b lo hi rm (.slice A2 xs2.length c2) ab2 (pre2 ++ xs2).length gn2) (hr : Rd w' A2 (bv xs2)) => next_any w' b lo hi rm _ _ A2 xs2.length c2 ab2 xs2 nn hq (by omega) hxc2 hA2 hr rfl
            have hR := fun w' => rnext_any lo hi rm (pre2 ++ xs2) gn2 xs2 pre2 ab2 nn w' (by omega) rfl
            have htl : takeN nn xs2.length ≤ xs2.length := by unfold takeN; omega
            have htk : (xs2.take (takeN nn xs2.length)).length = takeN nn xs2.length := by simp; omega
            generalize takeN nn xs2.length = t at *
            have sp0 : PlaySP w b xb lo hi rm (pre2 ++ xs2) xs2 A2 c2 ab2 gn2 wc := ⟨hx2, q2', hr2, hkp2⟩
            go_wp2_with fail
            refine wp_region_eager [(false, [0, 1, 4, 5]), (true, [2]), (false, [3]), (true, [6]), (true, [7]), (false, [8, 9, 11, 12]), (true, [10]), (true, [13]), (false, [14, 15, 16, 18, 19]), (true, [17]), (true, [20]), (false, [21, 22, 23, 25, 26, 27]), (true, [24]), (true, [28]), (false, [29, 30, 31, 33, 34]), (true, [32]), (true, [35]), (false, [36])] (by kernel_rfl) (by kernel_rfl) ?_
            simp only [wpSegs, List.filterMap_cons, List.filterMap_nil, List.getElem?_toArray, List.getElem?_cons_zero, List.getElem?_cons_succ]
            have sp1 := PlaySP.drew sp0
            obtain ⟨y0, y1, y2, y3, y4, y5, y6, yz⟩ := sp1.cells
            go_wp2_with fail
            refine nrm ⟨(fun hh => by cases hh), ?_⟩
            go_wp2_with fail
            refine (hN _ sp1.q sp1.r).mono ?_
            rintro e w4 ⟨A4, c4, rfl, hc4, k4, r4, _⟩
            go_wp2_with fail
            refine nrm ⟨fun _ => k4, ?_⟩
            have sp4 := PlaySP.kept k4 sp1
            have hst4 := run_str (P := Try.prog) (n := t) (c := c4) Try.underlying27 Try.underlying5 Try.underlying9 r4 htk
            obtain ⟨z0, z1, z2, z3, z4, z5, z6, zz⟩ := sp4.cells
            go_wp2_with fail
            refine nrm ⟨(fun hh => by cases hh), ?_⟩
            go_wp2_with fail
            refine (hR _).mono ?_
            rintro e w5 ⟨rfl, k5⟩
            go_wp2_with fail
            refine nrm ⟨fun _ => k5, ?_⟩
            have sp5 := PlaySP.kept k5 sp4
            obtain ⟨u0, u1, u2, u3, u4, u5, u6, uz⟩ := sp5.cells
            go_wp2_with fail
            refine nrm ⟨fun _ => Kept.refl _ _, ?_⟩
            go_wp2_with fail
            refine nrm ⟨(fun hh => by cases hh), ?_⟩
            go_wp2_with fail
            refine (held_any _ b _ _ _ _ _ _ _ _ _ sp5.q).mono ?_
            rintro e w6 ⟨rfl, rfl⟩
            go_wp2_with fail
            refine nrm ⟨fun _ => Kept.refl _ _, ?_⟩
            go_wp2_with fail
            refine nrm ⟨fun _ => Kept.refl _ _, ?_⟩
            go_wp2_with fail
            refine nrm ⟨(fun hh => by cases hh), ?_⟩
            go_wp2_with fail
            refine (above_any _ b _ _ _ _ _ _ _ sp5.q).mono ?_
            rintro e w6 ⟨rfl, rfl⟩
            go_wp2_with fail
            refine nrm ⟨fun _ => Kept.refl _ _, ?_⟩
            go_wp2_with fail
            refine nrm ⟨fun _ => Kept.refl _ _, ?_⟩
            go_wp2_with fail
            refine nrm ⟨(fun hh => by cases hh), ?_⟩
            go_wp2_with fail
            refine (queued_any _ b _ _ _ _ _ _ _ sp5.q).mono ?_
            rintro e w6 ⟨rfl, rfl⟩
            go_wp2_with fail
            refine nrm ⟨fun _ => Kept.refl _ _, ?_⟩
            go_wp2_with fail
            refine nrm ⟨fun _ => Kept.refl _ _, ?_⟩
            go_wp2_with fail
            refine nrm ⟨(fun hh => by cases hh), ?_⟩
            go_wp2_with fail
            refine (gone_any _ b _ _ _ _ _ _ _ sp5.q).mono ?_
            rintro e w6 ⟨rfl, rfl⟩
            go_wp2_with fail
            refine nrm ⟨fun _ => Kept.refl _ _, ?_⟩
            go_wp2_with fail
            refine nrm ⟨fun _ => Kept.refl _ _, ?_⟩
            go_wp2_with fail
            refine nrm ⟨(fun hh => by cases hh), ?_⟩
            go_wp2_with fail
            exact ⟨⟨k + 1, by omega, by simp, A2, c2, ab2, pre2, xs2, gn2, sp5.q, sp5.r, hxc2, hA2, sp5.1, hil2, hgn2, hxr2, sp5.k⟩, by simp only [intOf]; omega⟩
        · go_wp2
          go_ret
          exact ⟨rfl, hkp⟩
    · have hfF : fewB l = false := by simpa using hf
      have Hf := Lib.hid hfF
      clear hf hfF
      go_enter Try.func5, Try.ntmps5
      go_wp2_with fail
      refine (awake19 _).mono ?_
      rintro e w1 ⟨rfl, k1⟩
      go_wp2_with fail
      refine (new_good _ lo hi rm (by omega) (by omega) (by omega) (by omega)).mono ?_
      rintro e w2 ⟨rfl, k2, q2⟩
      go_wp2_with fail
      refine (hG _).mono ?_
      rintro e w3 ⟨rfl, rfl⟩
      go_wp2_with fail
      refine (few_any _ A c l (h.kept (k1.trans k2)) (by unfold maxLen; omega)).mono ?_
      rintro e w3 ⟨rfl, rfl⟩
      rw [Hf.out]
      have k3 := k1.trans k2
      go_wp2_with fail
      go_ret
      exact ⟨rfl, k3⟩
end Go.Proofs.Ytocbbkkfcabiiaa

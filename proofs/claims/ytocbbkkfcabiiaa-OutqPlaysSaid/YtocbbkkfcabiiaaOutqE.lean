/- OutqOrder's walk. No conditions. -/
import Derived.Test.YtocbbkkfcabiiaaOutqD
import Derived.Deep.DeepCutAuto
namespace Go.Proofs.Ytocbbkkfcabiiaa
open Go.RowKit

/-- What holds at the head of a round. -/
def OrdR (w0 : World) (b : Nat) (lo hi rm : Int) (k : Nat) (ins outs : List UInt8) (wr : World) : Prop :=
  ∃ (A : Option Addr) (c : Nat) (ab : Bool) (xs : List UInt8), QB wr b lo hi rm (.slice A xs.length c) ab ins.length outs.length ∧ Rd wr A (bv xs) ∧ xs.length ≤ c ∧ (A = none → c = 0) ∧
    ins = outs ++ xs ∧ ins.length ≤ 60 * k ∧ (xs.length : Int) ≤ rm ∧ (hi ≤ xs.length → ab = true) ∧ ((xs.length : Int) ≤ lo → ab = false) ∧ Kept (fun _ => False) w0 wr
theorem markB_hi {lo hi n : Int} {ab : Bool} (h : hi ≤ n) : markB lo hi n ab = true := by unfold markB; rw [if_pos h]
theorem markB_lo {lo hi n : Int} {ab : Bool} (h : n ≤ lo) (hl : lo < hi) : markB lo hi n ab = false := by unfold markB; rw [if_neg (by omega), if_pos h]
theorem OrdR.mk {w0 wr : World} {b : Nat} {lo hi rm : Int} {k : Nat} {ins outs xs : List UInt8} {A : Option Addr} {n c : Nat} {ab : Bool} {qd gn m : Int} (hl : lo < hi)
    (q : QB wr b lo hi rm (.slice A n c) (markB lo hi m ab) qd gn) (hn : xs.length = n) (hm : m = n) (hqd : qd = ins.length) (hgn : gn = outs.length) (hr : Rd wr A (bv xs)) (hc : n ≤ c) (hA : A = none → c = 0)
    (he : ins = outs ++ xs) (hi60 : ins.length ≤ 60 * k) (hxr : (n : Int) ≤ rm) (hk : Kept (fun _ => False) w0 wr) : OrdR w0 b lo hi rm k ins outs wr := by
  subst hn hqd hgn hm
  exact ⟨A, c, _, xs, q, hr, hc, hA, he, hi60, hxr, fun h => markB_hi h, fun h => markB_lo h hl, hk⟩
theorem extract_toList (l : List UInt8) (n : Nat) : ((⟨l.toArray⟩ : ByteArray).extract 0 n).toList = l.take n := by
  rw [Go.ByteArray.toList_eq]
  simp [ByteArray.data_extract]
theorem mk_append (x y : List UInt8) : (ByteArray.mk x.toArray ++ ByteArray.mk y.toArray) = ByteArray.mk (x ++ y).toArray := Go.ByteArray.mk_append_mk x y
set_option maxRecDepth 100000 in
set_option maxHeartbeats 4000000 in
theorem order_any (w : World) (lo hi rm : Int) (A : Option Addr) (c : Nat) (l : List ActV) (h : ActsAt w A l) (hc : l.length ≤ maxLen) :
    Calls Try.prog 3 #[.int .i64 lo, .int .i64 hi, .int .i64 rm, .slice A l.length c] w fun e w' => e = .returned (.bool true) ∧ Kept (fun _ => False) w w' := by
  unfold maxLen at hc
  by_cases hbad : lo < 0 ∨ hi ≤ lo ∨ rm < hi ∨ 65536 < rm
  · go_enter Try.func3, Try.ntmps3
    go_wp2_with (first | (go_at_call 9; refine (awake19 _).mono ?_; rintro e w1 ⟨rfl, k1⟩) | (go_at_call 10; refine (new_bad _ lo hi rm hbad).mono ?_; rintro e w2 ⟨rfl, rfl⟩))
    go_ret
    exact ⟨rfl, k1⟩
  · have b1 : 0 ≤ lo := by omega
    have b2 : lo < hi := by omega
    have b3 : hi ≤ rm := by omega
    have b4 : rm ≤ 65536 := by omega
    clear hbad
    by_cases hf : fewB l = true
    · have Hf := Lib.hid hf
      have hspec := fewB_spec hf
      obtain ⟨f1, f2⟩ := hspec
      go_enter Try.func3, Try.ntmps3
      go_wp2_with fail
      refine (awake19 _).mono ?_
      rintro e w1 ⟨rfl, k1⟩
      go_wp2_with fail
      refine (new_good _ lo hi rm (by omega) (by omega) (by omega) (by omega)).mono ?_
      rintro e w2 ⟨rfl, k2, q2⟩
      go_wp2_with fail
      refine (few_any _ A c l (h.kept (k1.trans k2)) (by unfold maxLen; omega)).mono ?_
      rintro e w3 ⟨rfl, rfl⟩
      go_wp2_with fail
      have k3 := k1.trans k2
      have h3 := h.kept k3
      have hb0 : w.heap.size ≤ w1.heap.size := k1.size
      generalize w1.heap.size = b at *
      clear k1 k2
      go_loopw [10, 11, 12] (fun v10 v11 v12 wr => ∃ (k : Nat) (ins outs : List UInt8), k ≤ l.length ∧ v12 = .int .i64 k ∧ v10 = .string ⟨ins.toArray⟩ ∧ v11 = .string ⟨outs.toArray⟩ ∧ OrdR w b lo hi rm k ins outs wr) (fun _ _ i _ => l.length - (intOf i).toNat)
      case atStart => exact ⟨0, [], [], Nat.zero_le _, rfl, rfl, rfl, none, 0, false, [], q2, Rd.nil _ _, Nat.le_refl _, fun _ => rfl, rfl, Nat.le_refl _, by simp; omega, by simp; omega, fun _ => rfl, k3⟩
      case round =>
        obtain ⟨k, ins, outs, hk, rfl, rfl, rfl, A1, c1, ab, xs, q, hr, hxc, hA1, he, hil, hxr, hab1, hab2, hkp⟩ := hrel
        have hol : outs.length ≤ ins.length := by rw [he]; simp
        have He := Lib.hid he
        clear he
        by_cases hlt : k < l.length
        · have h4 := h.kept hkp
          obtain ⟨g, off, rfl, a0, a1, a2, hrv, hvc, hvA, hvm⟩ := h4.get hlt
          have hb60 := f2 _ (List.getElem_mem hlt)
          go_upto_if 41 with (fail)
          go_cut [10, 11] (fun v10 v11 wx => ∃ (ins outs : List UInt8), v10 = .string ⟨ins.toArray⟩ ∧ v11 = .string ⟨outs.toArray⟩ ∧ OrdR w b lo hi rm (k + 1) ins outs wx)
          case first =>
            have ka := (Kept.refl (fun _ => False) wr).alloc (.cells #[Value.int .i64 l[k].kind, Value.int .i64 l[k].n, Value.slice l[k].A l[k].bs.length l[k].c] 29)
            by_cases hkd : 2 ≤ l[k].kind
            · have htl : takeN l[k].n xs.length ≤ xs.length := by unfold takeN; omega
              have hN := next_any _ b lo hi rm _ _ A1 xs.length c1 ab xs l[k].n (QB.kept q ka id) (by omega) hxc hA1 (hr.same ka) rfl
              generalize takeN l[k].n xs.length = t at *
              go_wp2_with fail
              refine hN.mono ?_
              clear hN
              rintro e w4 ⟨A4, c4, rfl, hc4, k4, r4, _⟩
              have q4 := QB.kept (QB.kept q ka id) k4 id
              have r4x := (hr.same ka).same k4
              have hT := took_any _ b lo hi rm _ _ A1 xs.length c1 ab xs t q4 (by omega) hxc hA1 r4x rfl (by omega) (by omega)
              rw [show takeN (t : Int) xs.length = t by unfold takeN; omega] at hT
              go_wp2_with fail
              refine hT.mono ?_
              clear hT
              rintro e w5 ⟨rfl, k5, A5, hA5, r5, q5⟩
              have r5p := r4.keptQ q4 k5 (bv_u8 _)
              have hs := run_str (P := Try.prog) (n := t) (c := c4) Try.underlying27 Try.underlying5 Try.underlying9 r5p (by simp; omega)
              go_wp2_with fail
              go_meet
              refine ⟨ins, outs ++ xs.take t, rfl, by rw [mk_append], OrdR.mk b2 q5 (xs := xs.drop t) (by simp) rfl rfl (by simp; omega) r5 (by omega) hA5 (by rw [He.out]; simp) (by omega) (by omega) ?_⟩
              exact ((((hkp.alloc _).trans k4).weak (S := (· = b))).trans k5).mono fun i hi hib => by omega
            · by_cases hroom : (l[k].bs.length : Int) ≤ rm - xs.length
              · have q4 := QB.kept q ka id
                have hP := put_room _ b lo hi rm _ _ A1 l[k].A xs.length c1 l[k].bs.length l[k].c ab xs l[k].bs q4 (by unfold maxLen; omega) (by omega) b4 (by omega) (by omega) (by omega) hxc (hr.same ka) (hrv.same ka) rfl rfl
                go_wp2_with fail
                refine hP.mono ?_
                clear hP
                rintro e w5 ⟨rfl, k5, A5, c5, hc5, hA5, r5, q5⟩
                have hbk : Blk w5 wr.heap.size 29 #[Value.int .i64 l[k].kind, Value.int .i64 l[k].n, Value.slice l[k].A l[k].bs.length l[k].c] :=
                  (Blk.new wr _ _).kept k5 (by have := Blk.lt q; omega)
                have hb2 := hbk.cell 2
                simp at hb2
                have r5p := (hrv.same ka).keptQ q4 k5 (bv_u8 _)
                have hs := run_str (P := Try.prog) (n := l[k].bs.length) (c := l[k].c) Try.underlying27 Try.underlying5 Try.underlying9 r5p rfl
                go_wp2_with fail
                go_meet
                refine ⟨ins ++ l[k].bs, outs, by rw [mk_append], rfl, OrdR.mk b2 q5 (xs := xs ++ l[k].bs) (by simp) (by simp) (by simp) rfl r5 (by omega) hA5 (by rw [He.out]; simp) (by simp; omega) (by omega) ?_⟩
                exact ((hkp.alloc _).weak (S := (· = b)) |>.trans k5).mono fun i hi hib => by omega
              · have q4 := QB.kept q ka id
                have hP := put_full _ b lo hi rm _ _ A1 l[k].A xs.length c1 l[k].bs.length l[k].c ab q4 (by unfold maxLen; omega) (by omega) b4 (by omega)
                go_wp2_with fail
                refine hP.mono ?_
                clear hP
                rintro e w5 ⟨rfl, k5⟩
                go_wp2_with fail
                go_meet
                exact ⟨ins, outs, rfl, rfl, A1, c1, ab, xs, QB.kept q4 k5 id, (hr.same ka).same k5, hxc, hA1, He.out, by omega, hxr, hab1, hab2, (hkp.alloc _).trans k5⟩
          case rest =>
            obtain ⟨ins', outs', rfl, rfl, A', c', ab', xs', q', hr', hxc', hA', he', hil', hxr', hab1', hab2', hkp'⟩ := hcut
            have hol' : ins'.length = outs'.length + xs'.length := by rw [he']; simp
            have Hol := Lib.hid hol'
            have hol2 : outs'.length ≤ ins'.length := by omega
            have hol3 : outs'.length + xs'.length ≤ ins'.length := by omega
            have hol4 : ins'.length ≤ outs'.length + xs'.length := by omega
            have He' := Lib.hid he'
            have hx : ((⟨ins'.toArray⟩ : ByteArray).extract 0 outs'.length).toList = outs' := by rw [extract_toList, he']; simp
            clear he' hol'
            have Hab1 := Lib.hid hab1'
            have Hab2 := Lib.hid hab2'
            clear hab1' hab2'
            by_cases h1 : hi ≤ xs'.length
            · obtain rfl : ab' = true := Hab1.out h1
              go_wp2_with (first | (go_at_call 15; refine (held_any _ b _ _ _ _ _ _ _ _ _ q').mono ?_; rintro e w6 ⟨rfl, rfl⟩) | (go_at_call 16; refine (above_any _ b _ _ _ _ _ _ _ q').mono ?_; rintro e w6 ⟨rfl, rfl⟩))
              go_roundw
              case rel => exact ⟨k + 1, ins', outs', by omega, by go_num, rfl, rfl, A', c', true, xs', q', hr', hxc', hA', He'.out, by omega, hxr', fun _ => rfl, Hab2.out, hkp'⟩
              case measure => simp [intOf]; omega
            · by_cases h2 : (xs'.length : Int) ≤ lo
              · obtain rfl : ab' = false := Hab2.out h2
                go_wp2_with (first | (go_at_call 15; refine (held_any _ b _ _ _ _ _ _ _ _ _ q').mono ?_; rintro e w6 ⟨rfl, rfl⟩) | (go_at_call 16; refine (above_any _ b _ _ _ _ _ _ _ q').mono ?_; rintro e w6 ⟨rfl, rfl⟩))
                go_roundw
                case rel => exact ⟨k + 1, ins', outs', by omega, by go_num, rfl, rfl, A', c', false, xs', q', hr', hxc', hA', He'.out, by omega, hxr', Hab1.out, fun _ => rfl, hkp'⟩
                case measure => simp [intOf]; omega
              · skip
                go_wp2_with (first | (go_at_call 15; refine (held_any _ b _ _ _ _ _ _ _ _ _ q').mono ?_; rintro e w6 ⟨rfl, rfl⟩) | (go_at_call 16; refine (above_any _ b _ _ _ _ _ _ _ q').mono ?_; rintro e w6 ⟨rfl, rfl⟩))
                go_roundw
                case rel => exact ⟨k + 1, ins', outs', by omega, by go_num, rfl, rfl, A', c', ab', xs', q', hr', hxc', hA', He'.out, by omega, hxr', Hab1.out, Hab2.out, hkp'⟩
                case measure => simp [intOf]; omega
        · have hN := next_any _ b lo hi rm _ _ A1 xs.length c1 ab xs rm q (by omega) hxc hA1 hr rfl
          rw [show takeN rm xs.length = xs.length by unfold takeN; omega] at hN
          rw [show xs.take xs.length = xs by simp] at hN
          have hl4 : outs.length + xs.length ≤ 9223372036854775807 := by have := congrArg List.length He.out; simp at this; omega
          go_wp2_with fail
          refine hN.mono ?_
          clear hN
          rintro e w4 ⟨A4, c4, rfl, hc4, k4, r4, _⟩
          have hs := run_str (P := Try.prog) (n := xs.length) (c := c4) Try.underlying27 Try.underlying5 Try.underlying9 r4 rfl
          go_wp2_with fail
          go_ret
          refine ⟨?_, hkp.trans k4⟩
          have hb : ((ByteArray.mk outs.toArray ++ ByteArray.mk xs.toArray).toList == ins) = true := by
            rw [mk_append, Go.ByteArray.toList_mk, He.out]
            simp
          exact congrArg (fun b => Ending.returned (.bool b)) hb
    · have hf' : fewB l = false := by simpa using hf
      go_enter Try.func3, Try.ntmps3
      go_wp2_with fail
      refine (awake19 _).mono ?_
      rintro e w1 ⟨rfl, k1⟩
      go_wp2_with fail
      refine (new_good _ lo hi rm (by omega) (by omega) (by omega) (by omega)).mono ?_
      rintro e w2 ⟨rfl, k2, q2⟩
      go_wp2_with fail
      refine (few_any _ A c l (h.kept (k1.trans k2)) (by unfold maxLen; omega)).mono ?_
      rintro e w3 ⟨rfl, rfl⟩
      go_wp2_with fail
      go_ret
      exact ⟨rfl, k1.trans k2⟩
end Go.Proofs.Ytocbbkkfcabiiaa

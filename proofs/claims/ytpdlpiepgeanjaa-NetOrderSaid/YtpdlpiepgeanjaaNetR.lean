/- NetOrder's walk. No conditions. -/
import Derived.Test.YtpdlpiepgeanjaaNetQ
import Derived.Deep.CutBlock
import Derived.Deep.DeepCutAuto
import Derived.Deep.DeepBigQuietO
namespace Go.Proofs.Ytpdlpiepgeanjaa
open Go.RowKit

/-- What the loop over the acts holds. -/
def OrdR (w : World) (b q0 q1 q2 : Nat) (l : List NAct) (i : Value) (W : World) : Prop :=
  ∃ (j : Nat) (tag : Tags) (n : NV) (S R Wr : List (List UInt8)), j ≤ l.length ∧ i = .int .i64 j ∧ OrdS w W b q0 q1 q2 tag n S R Wr ∧ NOrd n S R Wr (100 * j)
/-- What the loop over the connections holds. -/
def OrdL (w : World) (b q0 q1 q2 : Nat) (tag : Tags) (n : NV) (S R Wr : List (List UInt8)) (i : Value) (W : World) : Prop :=
  ∃ c : Nat, 1 ≤ c ∧ c ≤ n.ws.length + 1 ∧ i = .int .i64 c ∧ OrdS w W b q0 q1 q2 tag n S R Wr

set_option maxRecDepth 100000 in
set_option maxHeartbeats 40000000 in
theorem order_any (w : World) (A : Option Addr) (c : Nat) (l : List NAct) (h : NActsAt w A l) (hl : l.length ≤ maxLen) :
    Calls Try.prog 5 #[.slice A l.length c] w fun x w' => x = .returned (.bool true) ∧ Kept (fun _ => False) w w' := by
  have hl0 := hl
  unfold maxLen at hl
  go_enter Try.func5, Try.ntmps5
  go_wp2_with fail
  refine (nawake_any _).mono ?_
  rintro x w1 ⟨rfl, k1⟩
  have hfew := few_any w1 A c l (h.kept k1) hl0
  go_wp2_with fail
  refine hfew.mono ?_
  clear hfew
  rintro x w2 ⟨rfl, k2⟩
  cases hf : fewN l with
  | false =>
    go_wp2_with fail
    go_ret
    exact ⟨rfl, k1.trans k2⟩
  | true =>
    obtain ⟨h80, hshort⟩ := fewN_spec hf
    clear hf
    have HS := Lib.hid hshort
    clear hshort
    go_wp2_with fail
    refine (nnew_any _).mono ?_
    rintro x w3 ⟨rfl, k3, n3⟩
    have k13 := (k1.trans k2).trans k3
    have s2 := (k1.trans k2).size
    have hb3 := n3.lt w2.heap.size (by simp [tag0])
    have hmk := make_strs
    have hst := OrdS.start n3 k13 s2 hb3
    have HST := Lib.hid hst
    clear hst
    generalize w2.heap.size = b at *
    go_upto_region 6 with fail
    go_cut [4, 5, 6] (fun s r v wx => ∃ q0 q1 q2, s = .slice (some ⟨q0, 0, none⟩) 100 100 ∧ r = .slice (some ⟨q1, 0, none⟩) 100 100 ∧ v = .slice (some ⟨q2, 0, none⟩) 100 100 ∧ OrdS w wx b q0 q1 q2 (tag0 b) ⟨0, [], []⟩ (List.replicate 100 []) (List.replicate 100 []) (List.replicate 100 []))
    case first =>
      as_aux_lemma =>
      go_region
      all_goals
        go_wp2_with fail
        go_meet
        case rel =>
          first
            | exact ⟨_, _, _, rfl, rfl, rfl, HST.out 0 1 2 (by decide) (by decide) (by decide) (by decide) (by decide) (by decide)⟩
            | exact ⟨_, _, _, rfl, rfl, rfl, HST.out 0 2 1 (by decide) (by decide) (by decide) (by decide) (by decide) (by decide)⟩
            | exact ⟨_, _, _, rfl, rfl, rfl, HST.out 1 0 2 (by decide) (by decide) (by decide) (by decide) (by decide) (by decide)⟩
            | exact ⟨_, _, _, rfl, rfl, rfl, HST.out 1 2 0 (by decide) (by decide) (by decide) (by decide) (by decide) (by decide)⟩
            | exact ⟨_, _, _, rfl, rfl, rfl, HST.out 2 0 1 (by decide) (by decide) (by decide) (by decide) (by decide) (by decide)⟩
            | exact ⟨_, _, _, rfl, rfl, rfl, HST.out 2 1 0 (by decide) (by decide) (by decide) (by decide) (by decide) (by decide)⟩
    case rest =>
    obtain ⟨q0, q1, q2, rfl, rfl, rfl, hw0⟩ := hcut
    clear hmk HST k1 k2 k3 k13 n3 s2 hb3
    go_wp2_with fail
    go_loopw [7] (fun i W => OrdR w b q0 q1 q2 l i W) (fun i _ => l.length - (intOf i).toNat)
    case atStart => exact ⟨0, _, _, _, _, _, Nat.zero_le _, rfl, hw0, NOrd.new⟩
    case round =>
      obtain ⟨j, tag, n, S, R, Wr, hj, rfl, hs, ho⟩ := hrel
      clear hw0
      by_cases hjl : j < l.length
      · obtain ⟨g, off, rfl, ha0⟩ := h.get hjl
        have ha := ha0.kept hs.kept
        obtain ⟨hsl, hbl⟩ := HS.out _ (List.getElem_mem hjl)
        have hrdw := ha0.rd
        clear ha0
        generalize l[j] = v at *
        obtain ⟨kd, cn, nn, s, ek, ec, en, bs, B, d⟩ := v
        dsimp only at hrdw hsl hbl
        obtain ⟨a0, a1, a2, a3, a4, a5, a6, a7, hrd, -, -⟩ := ha
        dsimp only at a0 a1 a2 a3 a4 a5 a6 a7 hrd
        have HO := Lib.hid ho
        clear ho
        have hT := hs.few
        generalize HB : (#[.int .i64 kd, .int .i64 cn, .int .i64 nn, .string ⟨s.toArray⟩, .int .i64 ek, .int .i64 ec, .int .i64 en, .slice B bs.length d] : Array Value) = BL
        have hB0 : Blk (wr.alloc (.cells BL 49)) wr.heap.size 49 BL := Blk.new' rfl
        have kA : Kept (fun _ => False) wr (wr.alloc (.cells BL 49)) := Kept.alloc (Kept.refl _ _) _
        have hs1 := hs.still kA
        have hfr := hs.free (Nat.le_refl _)
        have hrd1 := hrd.same kA
        subst HB
        by_cases h012 : kd = 0 ∨ kd = 1 ∨ kd = 2
        · as_aux_lemma =>
            have hc := nhappen_any _ b tag n hs1.net ⟨ek, ec, en, bs, B, d⟩ hrd1
            have hcn := fun h0 h1 => happen_conn (n := n) (e := ⟨ek, ec, en, bs, B, d⟩) h0 h1
            have hno := HO.out.happen hT ⟨ek, ec, en, bs, B, d⟩ hbl
            generalize n.happen ⟨ek, ec, en, bs, B, d⟩ = p at *
            obtain ⟨n', code⟩ := p
            dsimp only at hc hcn hno
            have HC := Lib.hid hcn
            have HN := Lib.hid hno
            clear hcn hno
            rcases h012 with rfl | rfl | rfl
            all_goals
              go_wp2_with fail
              refine hc.mono ?_
              clear hc
              rintro x w4 ⟨rfl, hto⟩
              obtain ⟨tag4, hs4, k4⟩ := hs1.to hto
              clear hto
              have hB4 := hB0.kept k4 (fun hS => hS hfr)
              have b4 := hB4.cell 4
              have b5 := hB4.cell 5
              have b7 := hB4.cell 7
              have b0 := hB4.cell 0
              simp at b0 b4 b5 b7
              by_cases hz : code = 0
              · subst hz
                by_cases h1 : ek = 1
                · subst h1
                  obtain ⟨cx, rfl, hc1, hc2⟩ := HC.out rfl rfl
                  have hno := HN.out
                  rw [if_pos ⟨rfl, rfl⟩, Int.toNat_natCast] at hno
                  have hls := HO.out.ls
                  have hb2 := (hno.bnd cx).1
                  rw [getD_set _ _ _ (by omega), if_pos rfl, List.length_append] at hb2
                  have hsd := hs4.drew
                  have hstr := run_str (P := Try.prog) (w := w4.drew) (n := bs.length) (c := d) Try.underlying32 Try.underlying5 Try.underlying9 (hrdw.same hsd.kept) rfl
                  have cS := hs4.bs.str (c := cx) (by omega)
                  have lt0 := hs4.bs.lt
                  have fz := hs4.bs.frozen
                  generalize S.getD cx [] = sx at *
                  have hadd := Go.ByteArray.mk_append_mk sx bs
                  have hrel : OrdR w b q0 q1 q2 l (.int .i64 ((j + 1 : Nat) : Int)) (w4.drew.setCell ⟨q0, cx, none⟩ (.string ⟨(sx ++ bs).toArray⟩)) := ⟨j + 1, tag4, n', _, R, Wr, by omega, rfl, hsd.putS cx (sx ++ bs), hno.more (by omega)⟩
                  have HR := Lib.hid hrel
                  clear hrel hno hls
                  unfold errV
                  go_wp2_with fail
                  refine wp_region_eager [(false, [0, 1, 2, 3, 4, 5, 6, 7, 8, 9, 10, 11, 12, 13]), (true, [14]), (false, [15, 16])] (by kernel_rfl) (by kernel_rfl) ?_
                  simp only [wpSegs, List.filterMap_cons, List.filterMap_nil, List.getElem?_toArray, List.getElem?_cons_zero, List.getElem?_cons_succ]
                  go_wp2_with fail
                  refine nrm ⟨(fun hh => by cases hh), ?_⟩
                  go_wp2_with fail
                  refine nrm ⟨fun _ => Kept.refl _ _, ?_⟩
                  go_wp2_with fail
                  refine nrm ⟨(fun hh => by cases hh), ?_⟩
                  go_wp2_with fail
                  go_roundw
                  case rel => exact HR.out
                  case measure => simp [intOf]; omega
                · have h1' : (ek == 1) = false := by simp [h1]
                  have hno := HN.out
                  rw [if_neg (by rintro ⟨-, e⟩; exact h1 e)] at hno
                  unfold errV
                  go_wp2_with fail
                  go_roundw
                  case rel => exact ⟨j + 1, tag4, n', S, R, Wr, by omega, by go_num, hs4, hno.more (by omega)⟩
                  case measure => simp [intOf]; omega
              · have hno := HN.out
                rw [if_neg (by rintro ⟨e, -⟩; exact hz e)] at hno
                have herr : errV code = .iface 60 (.int .i64 code) := by unfold errV; rw [if_neg hz]
                rw [herr]
                go_wp2_with fail
                go_roundw
                case rel => exact ⟨j + 1, tag4, n', S, R, Wr, by omega, by go_num, hs4, hno.more (by omega)⟩
                case measure => simp [intOf]; omega
        · have f0 : (kd == 0) = false := by simp; omega
          have f1 : (kd == 1) = false := by simp; omega
          have f2 : (kd == 2) = false := by simp; omega
          by_cases h5 : kd = 5
          · subst h5
            as_aux_lemma =>
              have hc := nread_any _ b tag n hs1.net cn nn
              unfold NReadP at hc
              have hcn := fun h0 => read_conn (n := n) (conn := cn) (most := nn) h0
              have hno := HO.out.read hT cn nn
              have hle := read_le HO.out cn nn
              generalize n.read cn nn = n' at *
              generalize n.readB cn nn = p at *
              obtain ⟨rb, eb, code⟩ := p
              dsimp only at hc hcn hno hle
              have HC := Lib.hid hcn
              have HN := Lib.hid hno
              clear hcn hno
              go_wp2_with fail
              refine hc.mono ?_
              clear hc
              rintro x w4 ⟨rA, rc, rfl, hr4, hn4, k4, -⟩
              have hs4 := hs1.over k4 hn4
              have hB4 := hB0.kept k4 (fun hS => hS hfr)
              have b1 := hB4.cell 1
              simp at b1
              by_cases hz : code = 0
              · subst hz
                obtain ⟨cx, rfl, hc1, hc2⟩ := HC.out rfl
                have hno := HN.out
                rw [if_pos rfl, Int.toNat_natCast] at hno
                have hlr := HO.out.lr
                have hb2 := HO.out.rle cx hc2 hc1
                have hsd := hs4.drew
                have hstr := run_str (P := Try.prog) (w := w4.drew) (n := rb.length) (c := rc) Try.underlying32 Try.underlying5 Try.underlying9 (Rd.drew hr4) rfl
                have cS := hs4.br.str (c := cx) (by omega)
                have lt0 := hs4.br.lt
                have fz := hs4.br.frozen
                generalize R.getD cx [] = sx at *
                have hadd := Go.ByteArray.mk_append_mk sx rb
                have hrel : OrdR w b q0 q1 q2 l (.int .i64 ((j + 1 : Nat) : Int)) (w4.drew.setCell ⟨q1, cx, none⟩ (.string ⟨(sx ++ rb).toArray⟩)) := ⟨j + 1, tag, n', S, _, Wr, by omega, rfl, hsd.putR cx (sx ++ rb), hno.more (by omega)⟩
                have HR := Lib.hid hrel
                clear hrel hno hlr
                unfold errV
                go_wp2_with fail
                refine wp_region_eager [(false, [0, 1, 2, 3, 4, 5, 6, 7, 8, 9]), (true, [10]), (false, [11, 12])] (by kernel_rfl) (by kernel_rfl) ?_
                simp only [wpSegs, List.filterMap_cons, List.filterMap_nil, List.getElem?_toArray, List.getElem?_cons_zero, List.getElem?_cons_succ]
                go_wp2_with fail
                refine nrm ⟨(fun hh => by cases hh), ?_⟩
                go_wp2_with fail
                refine nrm ⟨fun _ => Kept.refl _ _, ?_⟩
                go_wp2_with fail
                refine nrm ⟨(fun hh => by cases hh), ?_⟩
                go_wp2_with fail
                go_roundw
                case rel => exact HR.out
                case measure => simp [intOf]; omega
              · have hno := HN.out
                rw [if_neg hz] at hno
                have herr : errV code = .iface 60 (.int .i64 code) := by unfold errV; rw [if_neg hz]
                rw [herr]
                go_wp2_with fail
                go_roundw
                case rel => exact ⟨j + 1, tag, n', S, R, Wr, by omega, by go_num, hs4, hno.more (by omega)⟩
                case measure => simp [intOf]; omega
          · have f5 : (kd == 5) = false := by simp; omega
            by_cases h6 : kd = 6
            · subst h6
              as_aux_lemma =>
                obtain ⟨cap, W5, hcv, kW, rW, hcW, hltW⟩ := strBytes (P := Try.prog) (wr.alloc (.cells #[.int .i64 6, .int .i64 cn, .int .i64 nn, .string ⟨s.toArray⟩, .int .i64 ek, .int .i64 ec, .int .i64 en, .slice B bs.length d] 49)) 9 32 5 s Try.underlying9 Try.underlying32 Try.underlying5
                have esz : (wr.alloc (.cells #[.int .i64 6, .int .i64 cn, .int .i64 nn, .string ⟨s.toArray⟩, .int .i64 ek, .int .i64 ec, .int .i64 en, .slice B bs.length d] 49)).heap.size = wr.heap.size + 1 := by simp
                rw [esz] at rW hcv hltW
                have hs5 := hs1.still kW
                have hB5 := hB0.kept kW id
                have hc := nwrite_any _ b tag n hs5.net cn _ s cap rW hcW (by omega) (fun v hv => by have := HO.out.got v hv; omega)
                have hcn := fun h0 => write_conn (n := n) (conn := cn) h0
                have hno := HO.out.write hT cn s hsl
                have hk := writeK_le n cn s.length
                generalize n.write cn s = n' at *
                generalize n.writeC cn = code at *
                generalize n.writeK cn s.length = k at *
                have HC := Lib.hid hcn
                have HN := Lib.hid hno
                clear hcn hno
                have hk' : (k : Int) ≤ s.length := by omega
                have b5 := hB5.cell 1
                have b6 := hB5.cell 3
                simp at b5 b6
                go_wp2_with fail
                refine hc.mono ?_
                clear hc
                rintro x w4 ⟨rfl, hto⟩
                obtain ⟨tag4, hs4, k4⟩ := hs5.to hto
                clear hto
                have hB4 := hB5.kept k4 (fun hS => hS hfr)
                have c1 := hB4.cell 1
                have c3 := hB4.cell 3
                simp at c1 c3
                by_cases hz : code = 0
                · subst hz
                  obtain ⟨cx, rfl, hc1, hc2⟩ := HC.out rfl
                  have hno := HN.out
                  rw [if_pos rfl, Int.toNat_natCast] at hno
                  have hlw := HO.out.lw
                  have hb2 := (HO.out.bnd cx).2
                  have hsd := hs4.drew
                  have cS := hs4.bw.str (c := cx) (by omega)
                  have lt0 := hs4.bw.lt
                  have fz := hs4.bw.frozen
                  have hex := takeStr s k
                  have htl : (s.take k).length ≤ s.length := by simp; omega
                  generalize Wr.getD cx [] = sx at *
                  generalize s.take k = sk at *
                  have hadd := Go.ByteArray.mk_append_mk sx sk
                  have hrel : OrdR w b q0 q1 q2 l (.int .i64 ((j + 1 : Nat) : Int)) (w4.drew.setCell ⟨q2, cx, none⟩ (.string ⟨(sx ++ sk).toArray⟩)) := ⟨j + 1, tag4, n', S, R, _, by omega, rfl, hsd.putW cx (sx ++ sk), hno.more (by omega)⟩
                  have HR := Lib.hid hrel
                  clear hrel hno hlw
                  unfold errV
                  go_wp2_with fail
                  refine wp_region_eager [(false, [0, 1, 2, 3, 4, 5, 6, 7, 8, 9, 10, 11]), (true, [12]), (false, [13, 14])] (by kernel_rfl) (by kernel_rfl) ?_
                  simp only [wpSegs, List.filterMap_cons, List.filterMap_nil, List.getElem?_toArray, List.getElem?_cons_zero, List.getElem?_cons_succ]
                  go_wp2_with fail
                  refine nrm ⟨(fun hh => by cases hh), ?_⟩
                  go_wp2_with fail
                  refine nrm ⟨fun _ => Kept.refl _ _, ?_⟩
                  go_wp2_with fail
                  refine nrm ⟨(fun hh => by cases hh), ?_⟩
                  go_wp2_with fail
                  go_roundw
                  case rel => exact HR.out
                  case measure => simp [intOf]; omega
                · have hno := HN.out
                  rw [if_neg hz] at hno
                  have herr : errV code = .iface 60 (.int .i64 code) := by unfold errV; rw [if_neg hz]
                  rw [herr]
                  go_wp2_with fail
                  go_roundw
                  case rel => exact ⟨j + 1, tag4, n', S, R, Wr, by omega, by go_num, hs4, hno.more (by omega)⟩
                  case measure => simp [intOf]; omega
            · have f6 : (kd == 6) = false := by simp; omega
              by_cases h7 : kd = 7
              · subst h7
                as_aux_lemma =>
                  go_wp2_with fail
                  have hc := nshut_any _ b tag n hs1.net cn
                  refine hc.mono ?_
                  clear hc
                  rintro x w4 ⟨rfl, hto⟩
                  obtain ⟨tag4, hs4, k4⟩ := hs1.to hto
                  clear hto
                  go_wp2_with fail
                  go_roundw
                  case rel => exact ⟨j + 1, tag4, _, S, R, Wr, by omega, by go_num, hs4, (HO.out.shut hT cn).more (by omega)⟩
                  case measure => simp [intOf]; omega
              · have f7 : (kd == 7) = false := by simp; omega
                by_cases h8 : kd = 8
                · subst h8
                  as_aux_lemma =>
                    go_wp2_with fail
                    have hc := ndrop_any _ b tag n hs1.net cn
                    refine hc.mono ?_
                    clear hc
                    rintro x w4 ⟨rfl, hto⟩
                    obtain ⟨tag4, hs4, k4⟩ := hs1.to hto
                    clear hto
                    go_wp2_with fail
                    go_roundw
                    case rel => exact ⟨j + 1, tag4, _, S, R, Wr, by omega, by go_num, hs4, (HO.out.drop hT cn).more (by omega)⟩
                    case measure => simp [intOf]; omega
                · have f8 : (kd == 8) = false := by simp; omega
                  as_aux_lemma =>
                    go_wp2_with fail
                    go_roundw
                    case rel => exact ⟨j + 1, tag, n, S, R, Wr, by omega, by go_num, hs1, HO.out.more (by omega)⟩
                    case measure => simp [intOf]; omega
      · obtain rfl : j = l.length := by omega
        as_aux_lemma =>
          have HO := Lib.hid ho
          clear ho
          go_wp2_with fail
          go_loopw [14] (fun c W => OrdL w b q0 q1 q2 tag n S R Wr c W) (fun c _ => n.ws.length + 1 - (intOf c).toNat)
          case atStart => exact ⟨1, Nat.le_refl _, by omega, rfl, hs⟩
          case round =>
            obtain ⟨cx, hc1, hc2, rfl, hs2⟩ := hrel
            clear hs
            have hln := nlen_any _ b tag n hs2.net
            have hT := hs2.few
            by_cases hcl : cx ≤ n.ws.length
            · have hcl' : (cx : Int) ≤ n.ws.length := by omega
              obtain ⟨v, hv⟩ : ∃ v, n.ws[cx - 1]? = some v := ⟨_, List.getElem?_eq_getElem (by omega)⟩
              have hw := NV.wire_at hv
              rw [show (((cx - 1 : Nat) : Int) + 1) = cx by omega] at hw
              have hwi := HO.out.at_ hw
              rw [Int.toNat_natCast] at hwi
              have hbd := HO.out.bnd cx
              have hls := HO.out.ls
              have hlr := HO.out.lr
              have hlw := HO.out.lw
              obtain ⟨st, nm, inn, win, got, en, sh, rs⟩ := v
              obtain ⟨hg, hp, hi, -⟩ := hwi
              dsimp only at hg hi
              have hwc := nwire_any _ b tag n hs2.net cx _ hw (by dsimp only; rw [hg]; omega)
              unfold WireP at hwc
              dsimp only at hwc
              clear hw hv
              go_wp2_with fail
              refine hln.mono ?_
              clear hln
              rintro z w4 ⟨rfl, rfl⟩
              go_wp2_with fail
              refine hwc.mono ?_
              clear hwc
              rintro z w5 ⟨I, ic, G, gc, rfl, hrI, hrG, k5⟩
              have hs5 := hs2.still k5
              have kz := (Kept.refl (fun _ => False) w5).alloc (.cells #[.int .i64 st, .string nm, .slice I inn.length ic, .int .i64 win, .slice G got.length gc, .bool en, .bool sh, .bool rs] 41)
              have hs6 := fun k => hs5.still (kz.drewN k)
              have cS := hs5.bs.str (c := cx) (by omega)
              have cR := hs5.br.str (c := cx) (by omega)
              have cW := hs5.bw.str (c := cx) (by omega)
              have lt0 := hs5.bs.lt
              have lt1 := hs5.br.lt
              have lt2 := hs5.bw.lt
              have hsG := fun k : Nat => run_str (P := Try.prog) (w := (w5.alloc (.cells #[.int .i64 st, .string nm, .slice I inn.length ic, .int .i64 win, .slice G got.length gc, .bool en, .bool sh, .bool rs] 41)).drewN k) (n := got.length) (c := gc) Try.underlying32 Try.underlying5 Try.underlying9 (hrG.same (kz.drewN k)) rfl
              have hsI := fun k : Nat => run_str (P := Try.prog) (w := (w5.alloc (.cells #[.int .i64 st, .string nm, .slice I inn.length ic, .int .i64 win, .slice G got.length gc, .bool en, .bool sh, .bool rs] 41)).drewN k) (n := inn.length) (c := ic) Try.underlying32 Try.underlying5 Try.underlying9 (hrI.same (kz.drewN k)) rfl
              obtain ⟨t, ht, hti⟩ : ∃ t, S.getD cx [] = R.getD cx [] ++ t ∧ (rs = false → t = inn) := by
                obtain ⟨t, ht⟩ := hp
                refine ⟨t, ht.symm, fun hr => ?_⟩
                have := hi hr
                rw [← ht] at this
                exact (List.append_cancel_left this).symm
              clear hp hi hls hlr hlw
              rw [← hg] at cW
              have hadd := Go.ByteArray.mk_append_mk (R.getD cx []) t
              have hlen : (R.getD cx []).length ≤ (S.getD cx []).length := by rw [ht]; simp
              have hex := takeStr (S.getD cx []) (R.getD cx []).length
              have htk : (S.getD cx []).take (R.getD cx []).length = R.getD cx [] := by rw [ht]; simp
              have hcat : (R.getD cx []).length + t.length ≤ 100 * l.length := by
                have := congrArg List.length ht
                rw [List.length_append] at this
                omega
              rw [htk] at hex
              rw [← ht] at hadd
              clear htk ht hg
              generalize S.getD cx [] = sx at *
              generalize R.getD cx [] = rx at *
              generalize Wr.getD cx [] = wx at *
              have hlen' : (rx.length : Int) ≤ sx.length := by omega
              have hlb1 : decide ((sx.length : Int) < rx.length) = false := by simp; omega
              have hlb2 : decide (sx.length < rx.length) = false := by simp; omega
              have hcat2 : ¬ 9223372036854775807 < rx.length + t.length := by omega
              have hlb3 : ¬ sx.length < rx.length := by omega
              have hlb4 : ¬ (sx.length : Int) < rx.length := by omega
              cases rs with
              | true =>
                clear hti
                go_wp2_with fail
                go_quiet (fail)
                go_wp2_with fail
                go_roundw
                case rel => exact ⟨cx + 1, by omega, by omega, by go_num, hs6 _⟩
                case measure => simp [intOf]; omega
              | false =>
                obtain rfl := hti rfl
                clear hti
                go_wp2_with fail
                go_quiet (fail)
                go_wp2_with fail
                go_roundw
                case rel => exact ⟨cx + 1, by omega, by omega, by go_num, hs6 _⟩
                case measure => simp [intOf]; omega
            · obtain rfl : cx = n.ws.length + 1 := by omega
              go_wp2_with fail
              refine hln.mono ?_
              clear hln
              rintro z w4 ⟨rfl, rfl⟩
              go_wp2_with fail
              go_ret
              exact ⟨rfl, hs2.kept⟩
end Go.Proofs.Ytpdlpiepgeanjaa

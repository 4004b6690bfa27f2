/- NetEnds' walk. No conditions. -/
import Derived.Test.YtpdlpiepgeanjaaNetW
import Derived.Test.YtpdlpiepgeanjaaErrIs
namespace Go.Proofs.Ytpdlpiepgeanjaa
open Go.RowKit

def nx (st : Int) (inn : List UInt8) (ended shut reset : Bool) : NV := ⟨0, [⟨st, ByteArray.mk #[], inn, 5, [], ended, shut, reset⟩], [false]⟩
theorem nx_first : (NV.happen ⟨0, [], []⟩ ⟨0, 0, 5, [], none, 0⟩) = (nx 1 [] false false false, 0) := by simp [NV.happen, EV.right, winB, nx]
theorem nx_data (bs : List UInt8) (A : Option Addr) (c : Nat) (h : bs.length ≤ 100) : (NV.happen (nx 1 [] false false false) ⟨1, 1, 0, bs, A, c⟩) = (nx 1 bs false false false, 0) := by
  have h1 : (decide (bs.length ≤ 4096)) = true := by simp; omega
  have h2 : ¬ 65536 < bs.length := by omega
  have h3 : ¬ 4096 < bs.length := by omega
  simp [NV.happen, EV.right, nx, NV.wire?, WV.happen, NV.turn, h2, h3]
theorem nx_drop (bs : List UInt8) : (nx 1 bs false false false).drop 1 = (nx 2 [] false false true, 0) := by
  simp [NV.drop, nx, NV.wire?, WV.dropW, NV.turn, WV.cut]
theorem nx_reset (bs : List UInt8) : (NV.happen (nx 1 bs false false false) ⟨3, 1, 0, [], none, 0⟩) = (nx 2 [] false false true, 0) := by
  simp [NV.happen, EV.right, nx, NV.wire?, WV.happen, NV.turn, WV.cut]
theorem nx_readR : (nx 2 [] false false true).read 1 9 = nx 2 [] false false true := by
  simp [NV.read, nx, NV.wire?, stateC]
theorem nx_readRB : (nx 2 [] false false true).readB 1 9 = ([], false, 21) := by
  simp [NV.readB, nx, NV.wire?, stateC]
theorem nx_shut1 (bs : List UInt8) : (nx 1 bs false false false).shut 1 = (nx 1 bs false true false, 0) := by
  simp [NV.shut, nx, NV.wire?, WV.shutW, NV.turn, WV.settle, stateC]
theorem nx_fin1 (bs : List UInt8) : (NV.happen (nx 1 bs false false false) ⟨2, 1, 0, [], none, 0⟩) = (nx 1 bs true false false, 0) := by
  simp [NV.happen, EV.right, nx, NV.wire?, WV.happen, NV.turn, WV.settle]
theorem nx_fin2 (bs : List UInt8) (h : bs ≠ []) : (NV.happen (nx 1 bs false true false) ⟨2, 1, 0, [], none, 0⟩) = (nx 1 bs true true false, 0) := by
  simp [NV.happen, EV.right, nx, NV.wire?, WV.happen, NV.turn, WV.settle, h]
theorem nx_fin2e : (NV.happen (nx 1 [] false true false) ⟨2, 1, 0, [], none, 0⟩) = (nx 2 [] true true false, 0) := by
  simp [NV.happen, EV.right, nx, NV.wire?, WV.happen, NV.turn, WV.settle]
theorem nx_shut2 (bs : List UInt8) (h : bs ≠ []) : (nx 1 bs true false false).shut 1 = (nx 1 bs true true false, 0) := by
  simp [NV.shut, nx, NV.wire?, WV.shutW, NV.turn, WV.settle, stateC, h]
theorem nx_shut2e : (nx 1 [] true false false).shut 1 = (nx 2 [] true true false, 0) := by
  simp [NV.shut, nx, NV.wire?, WV.shutW, NV.turn, WV.settle, stateC]
theorem nx_readA (bs : List UInt8) (n : Nat) (h : bs.length ≤ n) : (nx 1 bs true true false).read 1 n = nx 2 [] true true false := by
  have e : takeN n bs.length = bs.length := by unfold takeN; omega
  simp [NV.read, nx, NV.wire?, stateC, WV.readW, NV.turn, WV.settle, e]
theorem nx_readAB (bs : List UInt8) (n : Nat) (h : bs.length ≤ n) : (nx 1 bs true true false).readB 1 n = (bs, true, 0) := by
  have e : takeN n bs.length = bs.length := by unfold takeN; omega
  simp [NV.readB, nx, NV.wire?, stateC, e]
theorem nx_readP (bs : List UInt8) (n : Nat) (h : n < bs.length) : (nx 1 bs true true false).read 1 n = nx 1 (bs.drop n) true true false := by
  have e : takeN n bs.length = n := by unfold takeN; omega
  have h2 : ¬ bs.length ≤ n := by omega
  simp [NV.read, nx, NV.wire?, stateC, WV.readW, NV.turn, WV.settle, e]
  omega
theorem nx_readPB (bs : List UInt8) (n : Nat) (h : n < bs.length) : (nx 1 bs true true false).readB 1 n = (bs.take n, false, 0) := by
  have e : takeN n bs.length = n := by unfold takeN; omega
  have h2 : ¬ bs.length ≤ n := by omega
  simp [NV.readB, nx, NV.wire?, stateC, e, h2]
def nxv (st : Int) (inn : List UInt8) (ended shut reset : Bool) : WV := ⟨st, ByteArray.mk #[], inn, 5, [], ended, shut, reset⟩
theorem nx_wire (st : Int) (inn : List UInt8) (ended shut reset : Bool) : (nx st inn ended shut reset).wire? 1 = some (nxv st inn ended shut reset) := by simp [nx, NV.wire?, nxv]

set_option maxRecDepth 100000 in
set_option maxHeartbeats 4000000 in
theorem ends_drop (w : World) (A : Option Addr) (c : Nat) (bs : List UInt8) (n : Int) (first : Bool) (hA : Rd w A (bv bs)) (hc : bs.length ≤ c) (hl : bs.length ≤ 100) :
    Calls Try.prog 6 #[.slice A bs.length c, .bool first, .int .u8 n, .bool true] w fun x w' => x = .returned (.bool true) ∧ Kept (fun _ => False) w w' := by
  cases first
  all_goals
    go_enter Try.func6, Try.ntmps6
    go_wp2_with fail
    refine (nawake_any _).mono ?_
    rintro x w1 ⟨rfl, k1⟩
    go_wp2_with fail
    refine (nnew_any _).mono ?_
    rintro x w2 ⟨rfl, k2, n2⟩
    have hsz := k1.size
    have ht0 : ∀ k, k < w.heap.size → tag0 w1.heap.size k = none := fun k hk => by unfold tag0; rw [if_neg (by omega)]
    go_wp2_with fail
    refine (nhappen_any _ _ _ _ n2 ⟨0, 0, 5, [], none, 0⟩ (Rd.nil _ _)).mono ?_
    rw [nx_first]
    rintro x w3 ⟨rfl, hto⟩
    obtain ⟨tag3, n3, k3, ht3⟩ := law_next (k1.trans k2) ht0 (Kept.refl _ _) hto
    clear hto n2 ht0 k1 k2
    generalize w1.heap.size = b at *
    unfold errV
    have h4 := nhappen_any _ _ _ _ n3 ⟨1, 1, 0, bs, A, c⟩ (hA.same k3)
    rw [nx_data bs A c hl] at h4
    go_wp2_with fail
    refine h4.mono ?_
    clear h4
    rintro x w4 ⟨rfl, hto⟩
    obtain ⟨tag4, n4, k4, ht4⟩ := law_next k3 ht3 (Kept.refl _ _) hto
    clear hto n3 ht3 k3
    unfold errV
    go_wp2_with fail
  · refine (nhappen_any _ _ _ _ n4 ⟨3, 1, 0, [], none, 0⟩ (Rd.nil _ _)).mono ?_
    rw [nx_reset]
    rintro x w5 ⟨rfl, hto⟩
    obtain ⟨tag5, n5, k5, ht5⟩ := law_next k4 ht4 (Kept.refl _ _) hto
    clear hto n4 ht4 k4
    unfold errV
    go_wp2_with fail
    refine (nwire_any _ b tag5 _ n5 1 _ (nx_wire _ _ _ _ _) (by simp [nxv])).mono ?_
    rintro z w6 ⟨I, ic, G, gc, rfl, -, -, k6⟩
    unfold nxv
    go_wp2_with fail
    have kz := k6.alloc (.cells #[.int .i64 2, .string ⟨#[]⟩, .slice I 0 ic, .int .i64 5, .slice G 0 gc, .bool false, .bool false, .bool true] 41)
    have hB := Blk.new w6 41 #[.int .i64 2, .string ⟨#[]⟩, .slice I 0 ic, .int .i64 5, .slice G 0 gc, .bool false, .bool false, .bool true]
    have hr := nread_any _ b tag5 _ (n5.kept kz (fun _ hh => hh.elim)) 1 9
    unfold NReadP at hr
    rw [nx_readR, nx_readRB] at hr
    refine hr.mono ?_
    clear hr
    rintro z w7 ⟨A', c', rfl, -, n7, k7, -⟩
    have hB7 := hB.kept k7 (fun hS => by have := n5.lt _ hS; have := k6.size; omega)
    have d0 := hB7.cell 0
    have d2 := hB7.cell 2
    have d7 := hB7.cell 7
    simp at d0 d2 d7
    unfold errV
    go_wp2_with (go_at_call 19; refine (code_errno 21 (by omega) (by omega) _).mono ?_; rintro e w8 ⟨rfl, rfl⟩)
    go_ret
    exact ⟨rfl, (k5.trans kz).over k7 fun k hk hS => hS (ht5 k hk)⟩
  · refine (ndrop_any _ _ _ _ n4 1).mono ?_
    rw [nx_drop]
    rintro x w5 ⟨rfl, hto⟩
    obtain ⟨tag5, n5, k5, ht5⟩ := law_next k4 ht4 (Kept.refl _ _) hto
    clear hto n4 ht4 k4
    unfold errV
    go_wp2_with fail
    refine (nwire_any _ b tag5 _ n5 1 _ (nx_wire _ _ _ _ _) (by simp [nxv])).mono ?_
    rintro z w6 ⟨I, ic, G, gc, rfl, -, -, k6⟩
    unfold nxv
    go_wp2_with fail
    have kz := k6.alloc (.cells #[.int .i64 2, .string ⟨#[]⟩, .slice I 0 ic, .int .i64 5, .slice G 0 gc, .bool false, .bool false, .bool true] 41)
    have hB := Blk.new w6 41 #[.int .i64 2, .string ⟨#[]⟩, .slice I 0 ic, .int .i64 5, .slice G 0 gc, .bool false, .bool false, .bool true]
    have hr := nread_any _ b tag5 _ (n5.kept kz (fun _ hh => hh.elim)) 1 9
    unfold NReadP at hr
    rw [nx_readR, nx_readRB] at hr
    refine hr.mono ?_
    clear hr
    rintro z w7 ⟨A', c', rfl, -, n7, k7, -⟩
    have hB7 := hB.kept k7 (fun hS => by have := n5.lt _ hS; have := k6.size; omega)
    have d0 := hB7.cell 0
    have d2 := hB7.cell 2
    have d7 := hB7.cell 7
    simp at d0 d2 d7
    unfold errV
    go_wp2_with (go_at_call 19; refine (code_errno 21 (by omega) (by omega) _).mono ?_; rintro e w8 ⟨rfl, rfl⟩)
    go_ret
    exact ⟨rfl, (k5.trans kz).over k7 fun k hk hS => hS (ht5 k hk)⟩

/-- The part of the law's work at which both ways of ending meet. -/
def MidR (w : World) (bs : List UInt8) (b : Nat) (n : NV) (W : World) : Prop := LawNet w W b n

set_option maxRecDepth 100000 in
set_option maxHeartbeats 4000000 in
theorem ends_sf_e (w : World) (A : Option Addr) (c : Nat) (n : Nat) (hn : n ≤ 255)  :
    Calls Try.prog 6 #[.slice A 0 c, .bool true, .int .u8 n, .bool false] w fun x w' => x = .returned (.bool true) ∧ Kept (fun _ => False) w w' := by
  go_enter Try.func6, Try.ntmps6
  go_wp2_with fail
  refine (nawake_any _).mono ?_
  rintro x w1 ⟨rfl, k1⟩
  go_wp2_with fail
  refine (nnew_any _).mono ?_
  rintro x w2 ⟨rfl, k2, n2⟩
  have hsz := k1.size
  have ht0 : ∀ k, k < w.heap.size → tag0 w1.heap.size k = none := fun k hk => by unfold tag0; rw [if_neg (by omega)]
  go_wp2_with fail
  refine (nhappen_any _ _ _ _ n2 ⟨0, 0, 5, [], none, 0⟩ (Rd.nil _ _)).mono ?_
  rw [nx_first]
  rintro x w3 ⟨rfl, hto⟩
  obtain ⟨tag3, n3, k3, ht3⟩ := law_next (k1.trans k2) ht0 (Kept.refl _ _) hto
  clear hto n2 ht0 k1 k2
  generalize w1.heap.size = b at *
  unfold errV
  have h4 := nhappen_any _ _ _ _ n3 ⟨1, 1, 0, [], A, c⟩ (Rd.nil _ _)
  rw [nx_data [] A c (by simp)] at h4
  go_wp2_with fail
  refine h4.mono ?_
  clear h4
  rintro x w4 ⟨rfl, hto⟩
  obtain ⟨tag4, n4, k4, ht4⟩ := law_next k3 ht3 (Kept.refl _ _) hto
  clear hto n3 ht3 k3
  unfold errV
  go_wp2_with fail
  refine (nshut_any _ _ _ _ n4 1).mono ?_
  rw [nx_shut1]
  rintro x w5 ⟨rfl, hto⟩
  obtain ⟨tag5, n5, k5, ht5⟩ := law_next k4 ht4 (Kept.refl _ _) hto
  clear hto
  unfold errV
  go_wp2_with fail
  refine (nhappen_any _ _ _ _ n5 ⟨2, 1, 0, [], none, 0⟩ (Rd.nil _ _)).mono ?_
  rw [nx_fin2e]
  rintro x w6 ⟨rfl, hto⟩
  obtain ⟨tag6, n6, k6, ht6⟩ := law_next k5 ht5 (Kept.refl _ _) hto
  clear hto
  unfold errV
  go_wp2_with fail
  refine (nwire_any _ b _ _ n6 1 _ (nx_wire _ _ _ _ _) (by simp [nxv])).mono ?_
  rintro z w7 ⟨I, ic, G, gc, rfl, -, -, k7⟩
  unfold nxv
  go_wp2_with fail
  go_ret
  exact ⟨rfl, (k6.trans k7).alloc _⟩

set_option maxRecDepth 100000 in
set_option maxHeartbeats 4000000 in
theorem ends_sf_all (w : World) (A : Option Addr) (c : Nat) (bs : List UInt8) (n : Nat) (hn : n ≤ 255) (hA : Rd w A (bv bs)) (hc : bs.length ≤ c) (hl : bs.length ≤ 100) (hz : 0 < bs.length) (ha : bs.length ≤ n) :
    Calls Try.prog 6 #[.slice A bs.length c, .bool true, .int .u8 n, .bool false] w fun x w' => x = .returned (.bool true) ∧ Kept (fun _ => False) w w' := by
  have hne : bs ≠ [] := fun e => by rw [e] at hz; simp at hz
  have hlen0 : ((bs.length : Int) == 0) = false := by simp; omega
  go_enter Try.func6, Try.ntmps6
  go_wp2_with fail
  refine (nawake_any _).mono ?_
  rintro x w1 ⟨rfl, k1⟩
  go_wp2_with fail
  refine (nnew_any _).mono ?_
  rintro x w2 ⟨rfl, k2, n2⟩
  have hsz := k1.size
  have ht0 : ∀ k, k < w.heap.size → tag0 w1.heap.size k = none := fun k hk => by unfold tag0; rw [if_neg (by omega)]
  go_wp2_with fail
  refine (nhappen_any _ _ _ _ n2 ⟨0, 0, 5, [], none, 0⟩ (Rd.nil _ _)).mono ?_
  rw [nx_first]
  rintro x w3 ⟨rfl, hto⟩
  obtain ⟨tag3, n3, k3, ht3⟩ := law_next (k1.trans k2) ht0 (Kept.refl _ _) hto
  clear hto n2 ht0 k1 k2
  generalize w1.heap.size = b at *
  unfold errV
  have h4 := nhappen_any _ _ _ _ n3 ⟨1, 1, 0, bs, A, c⟩ (hA.same k3)
  rw [nx_data bs A c hl] at h4
  go_wp2_with fail
  refine h4.mono ?_
  clear h4
  rintro x w4 ⟨rfl, hto⟩
  obtain ⟨tag4, n4, k4, ht4⟩ := law_next k3 ht3 (Kept.refl _ _) hto
  clear hto n3 ht3 k3
  unfold errV
  go_wp2_with fail
  refine (nshut_any _ _ _ _ n4 1).mono ?_
  rw [nx_shut1]
  rintro x w5 ⟨rfl, hto⟩
  obtain ⟨tag5, n5, k5, ht5⟩ := law_next k4 ht4 (Kept.refl _ _) hto
  clear hto
  unfold errV
  go_wp2_with fail
  refine (nhappen_any _ _ _ _ n5 ⟨2, 1, 0, [], none, 0⟩ (Rd.nil _ _)).mono ?_
  rw [nx_fin2 bs hne]
  rintro x w6 ⟨rfl, hto⟩
  obtain ⟨tag6, n6, k6, ht6⟩ := law_next k5 ht5 (Kept.refl _ _) hto
  clear hto
  unfold errV
  go_wp2_with fail
  refine (nwire_any _ b _ _ n6 1 _ (nx_wire _ _ _ _ _) (by simp [nxv])).mono ?_
  rintro z w7 ⟨I, ic, G, gc, rfl, -, -, k7⟩
  unfold nxv
  go_wp2_with fail
  have kz := k7.alloc (.cells #[.int .i64 1, .string ⟨#[]⟩, .slice I bs.length ic, .int .i64 5, .slice G 0 gc, .bool true, .bool true, .bool false] 41)
  have hr := nread_any _ b tag6 _ (n6.kept kz (fun _ hh => hh.elim)) 1 n
  unfold NReadP at hr
  rw [nx_readA bs n ha, nx_readAB bs n ha] at hr
  refine hr.mono ?_
  clear hr
  rintro z w8 ⟨A', c', rfl, -, n8, k8, -⟩
  unfold errV
  go_wp2_with fail
  refine (nwire_any _ b _ _ n8 1 _ (nx_wire _ _ _ _ _) (by simp [nxv])).mono ?_
  rintro z w9 ⟨I2, ic2, G2, gc2, rfl, -, -, k9⟩
  unfold nxv
  go_wp2_with fail
  all_goals
    go_ret
    refine ⟨by first | rfl | (simp <;> omega), ?_⟩
    exact (((k6.trans kz).over k8 fun k hk hS => hS (ht6 k hk)).trans k9).alloc _

set_option maxRecDepth 100000 in
set_option maxHeartbeats 4000000 in
theorem ends_sf_part (w : World) (A : Option Addr) (c : Nat) (bs : List UInt8) (n : Nat) (hn : n ≤ 255) (hA : Rd w A (bv bs)) (hc : bs.length ≤ c) (hl : bs.length ≤ 100) (hz : 0 < bs.length) (ha : n < bs.length) :
    Calls Try.prog 6 #[.slice A bs.length c, .bool true, .int .u8 n, .bool false] w fun x w' => x = .returned (.bool true) ∧ Kept (fun _ => False) w w' := by
  have hne : bs ≠ [] := fun e => by rw [e] at hz; simp at hz
  have hlen0 : ((bs.length : Int) == 0) = false := by simp; omega
  go_enter Try.func6, Try.ntmps6
  go_wp2_with fail
  refine (nawake_any _).mono ?_
  rintro x w1 ⟨rfl, k1⟩
  go_wp2_with fail
  refine (nnew_any _).mono ?_
  rintro x w2 ⟨rfl, k2, n2⟩
  have hsz := k1.size
  have ht0 : ∀ k, k < w.heap.size → tag0 w1.heap.size k = none := fun k hk => by unfold tag0; rw [if_neg (by omega)]
  go_wp2_with fail
  refine (nhappen_any _ _ _ _ n2 ⟨0, 0, 5, [], none, 0⟩ (Rd.nil _ _)).mono ?_
  rw [nx_first]
  rintro x w3 ⟨rfl, hto⟩
  obtain ⟨tag3, n3, k3, ht3⟩ := law_next (k1.trans k2) ht0 (Kept.refl _ _) hto
  clear hto n2 ht0 k1 k2
  generalize w1.heap.size = b at *
  unfold errV
  have h4 := nhappen_any _ _ _ _ n3 ⟨1, 1, 0, bs, A, c⟩ (hA.same k3)
  rw [nx_data bs A c hl] at h4
  go_wp2_with fail
  refine h4.mono ?_
  clear h4
  rintro x w4 ⟨rfl, hto⟩
  obtain ⟨tag4, n4, k4, ht4⟩ := law_next k3 ht3 (Kept.refl _ _) hto
  clear hto n3 ht3 k3
  unfold errV
  go_wp2_with fail
  refine (nshut_any _ _ _ _ n4 1).mono ?_
  rw [nx_shut1]
  rintro x w5 ⟨rfl, hto⟩
  obtain ⟨tag5, n5, k5, ht5⟩ := law_next k4 ht4 (Kept.refl _ _) hto
  clear hto
  unfold errV
  go_wp2_with fail
  refine (nhappen_any _ _ _ _ n5 ⟨2, 1, 0, [], none, 0⟩ (Rd.nil _ _)).mono ?_
  rw [nx_fin2 bs hne]
  rintro x w6 ⟨rfl, hto⟩
  obtain ⟨tag6, n6, k6, ht6⟩ := law_next k5 ht5 (Kept.refl _ _) hto
  clear hto
  unfold errV
  go_wp2_with fail
  refine (nwire_any _ b _ _ n6 1 _ (nx_wire _ _ _ _ _) (by simp [nxv])).mono ?_
  rintro z w7 ⟨I, ic, G, gc, rfl, -, -, k7⟩
  unfold nxv
  go_wp2_with fail
  have kz := k7.alloc (.cells #[.int .i64 1, .string ⟨#[]⟩, .slice I bs.length ic, .int .i64 5, .slice G 0 gc, .bool true, .bool true, .bool false] 41)
  have hr := nread_any _ b tag6 _ (n6.kept kz (fun _ hh => hh.elim)) 1 n
  unfold NReadP at hr
  rw [nx_readP bs n ha, nx_readPB bs n ha] at hr
  refine hr.mono ?_
  clear hr
  rintro z w8 ⟨A', c', rfl, -, n8, k8, -⟩
  unfold errV
  go_wp2_with fail
  refine (nwire_any _ b _ _ n8 1 _ (nx_wire _ _ _ _ _) (by simp [nxv])).mono ?_
  rintro z w9 ⟨I2, ic2, G2, gc2, rfl, -, -, k9⟩
  unfold nxv
  have htl : (bs.take n).length = n := by simp; omega
  simp only [htl]
  go_wp2_with fail
  all_goals
    go_ret
    refine ⟨by first | rfl | (simp <;> omega), ?_⟩
    exact (((k6.trans kz).over k8 fun k hk hS => hS (ht6 k hk)).trans k9).alloc _

set_option maxRecDepth 100000 in
set_option maxHeartbeats 4000000 in
theorem ends_fs_e (w : World) (A : Option Addr) (c : Nat) (n : Nat) (hn : n ≤ 255)  :
    Calls Try.prog 6 #[.slice A 0 c, .bool false, .int .u8 n, .bool false] w fun x w' => x = .returned (.bool true) ∧ Kept (fun _ => False) w w' := by
  go_enter Try.func6, Try.ntmps6
  go_wp2_with fail
  refine (nawake_any _).mono ?_
  rintro x w1 ⟨rfl, k1⟩
  go_wp2_with fail
  refine (nnew_any _).mono ?_
  rintro x w2 ⟨rfl, k2, n2⟩
  have hsz := k1.size
  have ht0 : ∀ k, k < w.heap.size → tag0 w1.heap.size k = none := fun k hk => by unfold tag0; rw [if_neg (by omega)]
  go_wp2_with fail
  refine (nhappen_any _ _ _ _ n2 ⟨0, 0, 5, [], none, 0⟩ (Rd.nil _ _)).mono ?_
  rw [nx_first]
  rintro x w3 ⟨rfl, hto⟩
  obtain ⟨tag3, n3, k3, ht3⟩ := law_next (k1.trans k2) ht0 (Kept.refl _ _) hto
  clear hto n2 ht0 k1 k2
  generalize w1.heap.size = b at *
  unfold errV
  have h4 := nhappen_any _ _ _ _ n3 ⟨1, 1, 0, [], A, c⟩ (Rd.nil _ _)
  rw [nx_data [] A c (by simp)] at h4
  go_wp2_with fail
  refine h4.mono ?_
  clear h4
  rintro x w4 ⟨rfl, hto⟩
  obtain ⟨tag4, n4, k4, ht4⟩ := law_next k3 ht3 (Kept.refl _ _) hto
  clear hto n3 ht3 k3
  unfold errV
  go_wp2_with fail
  refine (nhappen_any _ _ _ _ n4 ⟨2, 1, 0, [], none, 0⟩ (Rd.nil _ _)).mono ?_
  rw [nx_fin1]
  rintro x w5 ⟨rfl, hto⟩
  obtain ⟨tag5, n5, k5, ht5⟩ := law_next k4 ht4 (Kept.refl _ _) hto
  clear hto
  unfold errV
  go_wp2_with fail
  refine (nshut_any _ _ _ _ n5 1).mono ?_
  rw [nx_shut2e]
  rintro x w6 ⟨rfl, hto⟩
  obtain ⟨tag6, n6, k6, ht6⟩ := law_next k5 ht5 (Kept.refl _ _) hto
  clear hto
  unfold errV
  go_wp2_with fail
  refine (nwire_any _ b _ _ n6 1 _ (nx_wire _ _ _ _ _) (by simp [nxv])).mono ?_
  rintro z w7 ⟨I, ic, G, gc, rfl, -, -, k7⟩
  unfold nxv
  go_wp2_with fail
  go_ret
  exact ⟨rfl, (k6.trans k7).alloc _⟩

set_option maxRecDepth 100000 in
set_option maxHeartbeats 4000000 in
theorem ends_fs_all (w : World) (A : Option Addr) (c : Nat) (bs : List UInt8) (n : Nat) (hn : n ≤ 255) (hA : Rd w A (bv bs)) (hc : bs.length ≤ c) (hl : bs.length ≤ 100) (hz : 0 < bs.length) (ha : bs.length ≤ n) :
    Calls Try.prog 6 #[.slice A bs.length c, .bool false, .int .u8 n, .bool false] w fun x w' => x = .returned (.bool true) ∧ Kept (fun _ => False) w w' := by
  have hne : bs ≠ [] := fun e => by rw [e] at hz; simp at hz
  have hlen0 : ((bs.length : Int) == 0) = false := by simp; omega
  go_enter Try.func6, Try.ntmps6
  go_wp2_with fail
  refine (nawake_any _).mono ?_
  rintro x w1 ⟨rfl, k1⟩
  go_wp2_with fail
  refine (nnew_any _).mono ?_
  rintro x w2 ⟨rfl, k2, n2⟩
  have hsz := k1.size
  have ht0 : ∀ k, k < w.heap.size → tag0 w1.heap.size k = none := fun k hk => by unfold tag0; rw [if_neg (by omega)]
  go_wp2_with fail
  refine (nhappen_any _ _ _ _ n2 ⟨0, 0, 5, [], none, 0⟩ (Rd.nil _ _)).mono ?_
  rw [nx_first]
  rintro x w3 ⟨rfl, hto⟩
  obtain ⟨tag3, n3, k3, ht3⟩ := law_next (k1.trans k2) ht0 (Kept.refl _ _) hto
  clear hto n2 ht0 k1 k2
  generalize w1.heap.size = b at *
  unfold errV
  have h4 := nhappen_any _ _ _ _ n3 ⟨1, 1, 0, bs, A, c⟩ (hA.same k3)
  rw [nx_data bs A c hl] at h4
  go_wp2_with fail
  refine h4.mono ?_
  clear h4
  rintro x w4 ⟨rfl, hto⟩
  obtain ⟨tag4, n4, k4, ht4⟩ := law_next k3 ht3 (Kept.refl _ _) hto
  clear hto n3 ht3 k3
  unfold errV
  go_wp2_with fail
  refine (nhappen_any _ _ _ _ n4 ⟨2, 1, 0, [], none, 0⟩ (Rd.nil _ _)).mono ?_
  rw [nx_fin1]
  rintro x w5 ⟨rfl, hto⟩
  obtain ⟨tag5, n5, k5, ht5⟩ := law_next k4 ht4 (Kept.refl _ _) hto
  clear hto
  unfold errV
  go_wp2_with fail
  refine (nshut_any _ _ _ _ n5 1).mono ?_
  rw [nx_shut2 bs hne]
  rintro x w6 ⟨rfl, hto⟩
  obtain ⟨tag6, n6, k6, ht6⟩ := law_next k5 ht5 (Kept.refl _ _) hto
  clear hto
  unfold errV
  go_wp2_with fail
  refine (nwire_any _ b _ _ n6 1 _ (nx_wire _ _ _ _ _) (by simp [nxv])).mono ?_
  rintro z w7 ⟨I, ic, G, gc, rfl, -, -, k7⟩
  unfold nxv
  go_wp2_with fail
  have kz := k7.alloc (.cells #[.int .i64 1, .string ⟨#[]⟩, .slice I bs.length ic, .int .i64 5, .slice G 0 gc, .bool true, .bool true, .bool false] 41)
  have hr := nread_any _ b tag6 _ (n6.kept kz (fun _ hh => hh.elim)) 1 n
  unfold NReadP at hr
  rw [nx_readA bs n ha, nx_readAB bs n ha] at hr
  refine hr.mono ?_
  clear hr
  rintro z w8 ⟨A', c', rfl, -, n8, k8, -⟩
  unfold errV
  go_wp2_with fail
  refine (nwire_any _ b _ _ n8 1 _ (nx_wire _ _ _ _ _) (by simp [nxv])).mono ?_
  rintro z w9 ⟨I2, ic2, G2, gc2, rfl, -, -, k9⟩
  unfold nxv
  go_wp2_with fail
  all_goals
    go_ret
    refine ⟨by first | rfl | (simp <;> omega), ?_⟩
    exact (((k6.trans kz).over k8 fun k hk hS => hS (ht6 k hk)).trans k9).alloc _

set_option maxRecDepth 100000 in
set_option maxHeartbeats 4000000 in
theorem ends_fs_part (w : World) (A : Option Addr) (c : Nat) (bs : List UInt8) (n : Nat) (hn : n ≤ 255) (hA : Rd w A (bv bs)) (hc : bs.length ≤ c) (hl : bs.length ≤ 100) (hz : 0 < bs.length) (ha : n < bs.length) :
    Calls Try.prog 6 #[.slice A bs.length c, .bool false, .int .u8 n, .bool false] w fun x w' => x = .returned (.bool true) ∧ Kept (fun _ => False) w w' := by
  have hne : bs ≠ [] := fun e => by rw [e] at hz; simp at hz
  have hlen0 : ((bs.length : Int) == 0) = false := by simp; omega
  go_enter Try.func6, Try.ntmps6
  go_wp2_with fail
  refine (nawake_any _).mono ?_
  rintro x w1 ⟨rfl, k1⟩
  go_wp2_with fail
  refine (nnew_any _).mono ?_
  rintro x w2 ⟨rfl, k2, n2⟩
  have hsz := k1.size
  have ht0 : ∀ k, k < w.heap.size → tag0 w1.heap.size k = none := fun k hk => by unfold tag0; rw [if_neg (by omega)]
  go_wp2_with fail
  refine (nhappen_any _ _ _ _ n2 ⟨0, 0, 5, [], none, 0⟩ (Rd.nil _ _)).mono ?_
  rw [nx_first]
  rintro x w3 ⟨rfl, hto⟩
  obtain ⟨tag3, n3, k3, ht3⟩ := law_next (k1.trans k2) ht0 (Kept.refl _ _) hto
  clear hto n2 ht0 k1 k2
  generalize w1.heap.size = b at *
  unfold errV
  have h4 := nhappen_any _ _ _ _ n3 ⟨1, 1, 0, bs, A, c⟩ (hA.same k3)
  rw [nx_data bs A c hl] at h4
  go_wp2_with fail
  refine h4.mono ?_
  clear h4
  rintro x w4 ⟨rfl, hto⟩
  obtain ⟨tag4, n4, k4, ht4⟩ := law_next k3 ht3 (Kept.refl _ _) hto
  clear hto n3 ht3 k3
  unfold errV
  go_wp2_with fail
  refine (nhappen_any _ _ _ _ n4 ⟨2, 1, 0, [], none, 0⟩ (Rd.nil _ _)).mono ?_
  rw [nx_fin1]
  rintro x w5 ⟨rfl, hto⟩
  obtain ⟨tag5, n5, k5, ht5⟩ := law_next k4 ht4 (Kept.refl _ _) hto
  clear hto
  unfold errV
  go_wp2_with fail
  refine (nshut_any _ _ _ _ n5 1).mono ?_
  rw [nx_shut2 bs hne]
  rintro x w6 ⟨rfl, hto⟩
  obtain ⟨tag6, n6, k6, ht6⟩ := law_next k5 ht5 (Kept.refl _ _) hto
  clear hto
  unfold errV
  go_wp2_with fail
  refine (nwire_any _ b _ _ n6 1 _ (nx_wire _ _ _ _ _) (by simp [nxv])).mono ?_
  rintro z w7 ⟨I, ic, G, gc, rfl, -, -, k7⟩
  unfold nxv
  go_wp2_with fail
  have kz := k7.alloc (.cells #[.int .i64 1, .string ⟨#[]⟩, .slice I bs.length ic, .int .i64 5, .slice G 0 gc, .bool true, .bool true, .bool false] 41)
  have hr := nread_any _ b tag6 _ (n6.kept kz (fun _ hh => hh.elim)) 1 n
  unfold NReadP at hr
  rw [nx_readP bs n ha, nx_readPB bs n ha] at hr
  refine hr.mono ?_
  clear hr
  rintro z w8 ⟨A', c', rfl, -, n8, k8, -⟩
  unfold errV
  go_wp2_with fail
  refine (nwire_any _ b _ _ n8 1 _ (nx_wire _ _ _ _ _) (by simp [nxv])).mono ?_
  rintro z w9 ⟨I2, ic2, G2, gc2, rfl, -, -, k9⟩
  unfold nxv
  have htl : (bs.take n).length = n := by simp; omega
  simp only [htl]
  go_wp2_with fail
  all_goals
    go_ret
    refine ⟨by first | rfl | (simp <;> omega), ?_⟩
    exact (((k6.trans kz).over k8 fun k hk hS => hS (ht6 k hk)).trans k9).alloc _

theorem ends_any (w : World) (A : Option Addr) (c : Nat) (bs : List UInt8) (n : Int) (h0 : 0 ≤ n) (h255 : n ≤ 255) (first drop : Bool) (hA : Rd w A (bv bs)) (hc : bs.length ≤ c) (hcm : c ≤ maxLen) :
    Calls Try.prog 6 #[.slice A bs.length c, .bool first, .int .u8 n, .bool drop] w fun x w' => x = .returned (.bool true) ∧ Kept (fun _ => False) w w' := by
  by_cases hl : bs.length ≤ 100
  · cases drop
    · obtain ⟨m, rfl⟩ := Int.eq_ofNat_of_zero_le h0
      by_cases hz : bs = []
      · subst hz
        cases first
        · exact ends_fs_e w A c m (by omega)
        · exact ends_sf_e w A c m (by omega)
      · have hz' : 0 < bs.length := List.length_pos_iff.2 hz
        by_cases ha : bs.length ≤ m
        · cases first
          · exact ends_fs_all w A c bs m (by omega) hA hc hl hz' ha
          · exact ends_sf_all w A c bs m (by omega) hA hc hl hz' ha
        · cases first
          · exact ends_fs_part w A c bs m (by omega) hA hc hl hz' (by omega)
          · exact ends_sf_part w A c bs m (by omega) hA hc hl hz' (by omega)
    · exact ends_drop w A c bs n first hA hc hl
  · unfold maxLen at hcm
    go_enter Try.func6, Try.ntmps6
    go_wp2_with fail
    refine (nawake_any _).mono ?_
    rintro x w1 ⟨rfl, k1⟩
    go_wp2_with fail
    go_ret
    exact ⟨rfl, k1⟩
end Go.Proofs.Ytpdlpiepgeanjaa

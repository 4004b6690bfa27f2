/- NetAccepts' walk. No conditions. -/
import Derived.Test.YtpdlpiepgeanjaaNetW
import Derived.Maps.AppendAt
namespace Go.Proofs.Ytpdlpiepgeanjaa
open Go.RowKit

/-- The net behind the law's first loop. -/
def nyw (b : Bool) : WV := if b then WV.asked ⟨#[110, 97, 109, 101]⟩ else ⟨1, ByteArray.mk #[], [], 0, [], false, false, false⟩
def ny (l : List Bool) : NV := ⟨0, l.map nyw, l⟩
/-- The numbers of those that came in. -/
def came : List Bool → Nat → List Nat
  | [], _ => []
  | b :: l, i => if b then came l (i + 1) else i :: came l (i + 1)
theorem came_append (l m : List Bool) (i : Nat) : came (l ++ m) i = came l i ++ came m (i + l.length) := by
  induction l generalizing i with
  | nil => simp [came]
  | cons b l ih =>
    simp only [List.cons_append, came, ih, List.length_cons]
    cases b <;> simp [Nat.add_assoc, Nat.add_comm 1]
theorem came_length (l : List Bool) (i : Nat) : (came l i).length ≤ l.length := by
  induction l generalizing i with
  | nil => simp [came]
  | cons b l ih =>
    have := ih (i + 1)
    simp only [came]
    split <;> simp <;> omega
theorem ny_came (l : List Bool) (h : l.length ≠ 64) : (NV.happen (ny l) ⟨0, 0, 0, [], none, 0⟩) = (ny (l ++ [false]), 0) := by
  have h' : ¬ l.length = 64 := h
  simp [NV.happen, EV.right, winB, ny, nyw, h']
theorem ny_ask (l : List Bool) : ({ ny l with ws := (ny l).ws ++ [WV.asked ⟨#[110, 97, 109, 101]⟩], told := (ny l).told ++ [true] } : NV) = ny (l ++ [true]) := by
  simp [ny, nyw]

/-- The first m that came in are told. -/
def acc : List Bool → Nat → List Bool
  | [], _ => []
  | true :: l, m => true :: acc l m
  | false :: l, 0 => false :: l
  | false :: l, m + 1 => true :: acc l m
theorem acc_zero (l : List Bool) : acc l 0 = l := by
  induction l with
  | nil => rfl
  | cons b l ih => cases b <;> simp [acc, ih]
theorem acc_length (l : List Bool) (m : Nat) : (acc l m).length = l.length := by
  induction l generalizing m with
  | nil => rfl
  | cons b l ih =>
    cases b
    · cases m <;> simp [acc, ih]
    · simp [acc, ih]
theorem acc_get (l : List Bool) (i m p : Nat) (h : (came l i)[m]? = some p) : ∃ k, p = i + k ∧ (acc l m)[k]? = some false ∧ (∀ j, j < k → (acc l m)[j]? = some true) ∧ acc l (m + 1) = (acc l m).set k true := by
  induction l generalizing i m with
  | nil => simp [came] at h
  | cons b l ih =>
    cases b
    · cases m with
      | zero =>
        simp [came] at h
        exact ⟨0, by omega, by simp [acc], fun j hj => absurd hj (Nat.not_lt_zero _), by simp [acc, acc_zero]⟩
      | succ m =>
        simp [came] at h
        obtain ⟨k, h1, h2, h3, h4⟩ := ih (i + 1) m h
        refine ⟨k + 1, by omega, by simpa [acc] using h2, fun j hj => ?_, by simp [acc, h4]⟩
        cases j with
        | zero => simp [acc]
        | succ j => simpa [acc] using h3 j (by omega)
    · simp [came] at h
      obtain ⟨k, h1, h2, h3, h4⟩ := ih (i + 1) m h
      refine ⟨k + 1, by omega, by simpa [acc] using h2, fun j hj => ?_, by simp [acc, h4]⟩
      cases j with
      | zero => simp [acc]
      | succ j => simpa [acc] using h3 j (by omega)
theorem acc_full (l : List Bool) (i m : Nat) (h : (came l i).length ≤ m) : ∀ j, j < l.length → (acc l m)[j]? = some true := by
  induction l generalizing i m with
  | nil => intro j hj; simp at hj
  | cons b l ih =>
    intro j hj
    cases b
    · cases m with
      | zero => simp [came] at h
      | succ m =>
        simp [came] at h
        cases j with
        | zero => simp [acc]
        | succ j => simpa [acc] using ih (i + 1) m h j (by simpa using hj)
    · simp [came] at h
      cases j with
      | zero => simp [acc]
      | succ j => simpa [acc] using ih (i + 1) m h j (by simpa using hj)

/-- A slice of the law's own, beside the net. -/
structure Mine (w W : World) (tag : Tags) (A : Option Addr) (c : Nat) (xs : List Value) : Prop where
  rd : Rd W A xs
  sp : Sp W A xs.length c
  le : xs.length ≤ c
  nil : A = none → c = 0
  my : 0 < c → ∀ g, At A g → tag g = none ∧ w.heap.size ≤ g ∧ g < W.heap.size
section
variable {w W W' : World} {tag tag' : Tags} {A : Option Addr} {c : Nat} {xs ys : List Value} {b : Nat} {n n' : NV} {S : Nat → Prop}
theorem Mine.none_ : Mine w W tag none 0 [] := ⟨Rd.nil _ _, Sp.none_ _ _ _, Nat.le_refl _, fun _ => rfl, fun h => absurd h (Nat.lt_irrefl _)⟩
theorem Mine.kept (h : Mine w W tag A c xs) (hk : Kept S W W') (hS : ∀ k, S k → tag k ≠ none) (ht : ∀ k, k < W.heap.size → tag k = none → tag' k = none) : Mine w W' tag' A c xs := by
  rcases Nat.eq_zero_or_pos c with h0 | h0
  · subst h0
    obtain rfl : xs = [] := List.eq_nil_of_length_eq_zero (by have := h.le; omega)
    exact ⟨Rd.nil _ _, Sp.none_ _ _ _, Nat.le_refl _, fun _ => rfl, fun h => absurd h (Nat.lt_irrefl _)⟩
  · have hs : ∀ g, At A g → ¬ S g := fun g hg hsg => hS g hsg (h.my h0 g hg).1
    exact ⟨h.rd.kept hk hs, h.sp.kept hk hs, h.le, h.nil, fun _ g hg => ⟨ht g (h.my h0 g hg).2.2 (h.my h0 g hg).1, (h.my h0 g hg).2.1, Nat.lt_of_lt_of_le (h.my h0 g hg).2.2 hk.size⟩⟩
theorem Mine.append {A' : Option Addr} {c' : Nat} (h : Mine w W tag A c xs) (hn : NetIs W b tag n) (hw : w.heap.size ≤ W.heap.size) (r1 : Rd W' A' (xs ++ ys)) (r2 : Sp W' A' (xs ++ ys).length c') (r3 : (xs ++ ys).length ≤ c') (r4 : A' = none → c' = 0)
    (r5 : (A' = A ∧ c' = c ∧ Kept (fun k => xs.length < c ∧ At A k) W W') ∨ (∃ g, A' = some ⟨g, 0, none⟩ ∧ W.heap.size ≤ g ∧ Grew W W' g)) :
    Mine w W' tag A' c' (xs ++ ys) ∧ NetIs W' b tag n ∧ Kept (fun k => w.heap.size ≤ k) W W' := by
  rcases r5 with ⟨rfl, rfl, hk⟩ | ⟨g, rfl, hg, hk⟩
  · refine ⟨⟨r1, r2, r3, r4, fun h0 g hg => ?_⟩, hn.kept hk fun k hS => (h.my (Nat.lt_of_le_of_lt (Nat.zero_le _) hS.1) k hS.2).1, hk.mono fun k _ hS => (h.my (Nat.lt_of_le_of_lt (Nat.zero_le _) hS.1) k hS.2).2.1⟩
    obtain ⟨h1, h2, h3⟩ := h.my h0 g hg
    exact ⟨h1, h2, Nat.lt_of_lt_of_le h3 hk.size⟩
  · refine ⟨⟨r1, r2, r3, r4, fun h0 q hq => ?_⟩, hn.kept hk.toKept fun _ hh => hh.elim, hk.weak⟩
    have ho : Own W' (fun _ => some .arr) .arr (some ⟨g, 0, none⟩) c' (xs ++ ys) := ⟨r1, r2, r3, r4, fun _ _ _ => rfl, fun _ q hq i => by obtain ⟨_, he, rfl⟩ := hq; cases he; exact hk.nf i⟩
    have hlt := ho.lt h0 hq
    obtain ⟨_, he, rfl⟩ := hq
    cases he
    refine ⟨?_, by simp only; omega, hlt⟩
    cases ht : tag g with
    | none => rfl
    | some t => have := hn.lt g (by rw [ht]; simp); omega
end

def ints1 (l : List Nat) : List Value := l.map fun (p : Nat) => Value.int .i64 ((p : Int) + 1)
theorem ints1_length (l : List Nat) : (ints1 l).length = l.length := by simp [ints1]
def AccR (w : World) (b : Nat) (l : List Bool) (inn i : Value) (W : World) : Prop :=
  ∃ (j : Nat) (A : Option Addr) (c : Nat) (tag : Tags), j ≤ l.length ∧ i = .int .i64 j ∧ inn = .slice A (came (l.take j) 0).length c ∧ NetIs W b tag (ny (l.take j)) ∧ Kept (fun _ => False) w W ∧ (∀ k, k < w.heap.size → tag k = none) ∧ Mine w W tag A c (ints1 (came (l.take j) 0))
def AccS (w : World) (b : Nat) (l : List Bool) (A : Option Addr) (c : Nat) (i : Value) (W : World) : Prop :=
  ∃ (j : Nat) (tag : Tags), j ≤ (came l 0).length ∧ i = .int .i64 j ∧ NetIs W b tag { ny l with told := acc l j } ∧ Kept (fun _ => False) w W ∧ (∀ k, k < w.heap.size → tag k = none) ∧ Mine w W tag A c (ints1 (came l 0))
theorem infoint : (Try.prog.info? 3).map (fun i => (i.zero, i.size, i.bytes)) = some (some (.int .i64 0), 1, 8) := by kernel_rfl

set_option maxRecDepth 100000 in
set_option maxHeartbeats 4000000 in
theorem accepts_any (w : World) (B : Option Addr) (d : Nat) (l : List Bool) (hB : Rd w B (l.map .bool)) (hd : l.length ≤ d) (hdm : d ≤ maxLen) :
    Calls Try.prog 3 #[.slice B l.length d] w fun x w' => x = .returned (.bool true) ∧ Kept (fun _ => False) w w' := by
  obtain ⟨i0, hi0, hz0, hz1, hz2⟩ := info_parts infoint
  unfold maxLen at hdm
  by_cases h40 : 40 < l.length
  · go_enter Try.func3, Try.ntmps3
    go_wp2_with fail
    refine (nawake_any _).mono ?_
    rintro x w1 ⟨rfl, k1⟩
    go_wp2_with fail
    go_ret
    exact ⟨rfl, k1⟩
  · go_enter Try.func3, Try.ntmps3
    go_wp2_with fail
    refine (nawake_any _).mono ?_
    rintro x w1 ⟨rfl, k1⟩
    go_wp2_with fail
    refine (nnew_any _).mono ?_
    rintro x w2 ⟨rfl, k2, n2⟩
    have hsz := k1.size
    have ht0 : ∀ k, k < w.heap.size → tag0 w1.heap.size k = none := fun k hk => by unfold tag0; rw [if_neg (by omega)]
    have hL : AccR w w1.heap.size l (.slice none 0 0) (.int .i64 0) w2 := ⟨0, none, 0, _, Nat.zero_le _, rfl, rfl, n2, k1.trans k2, ht0, Mine.none_⟩
    clear n2 ht0 k1 k2
    generalize w1.heap.size = b at *
    go_wp2_with fail
    go_loopw [4, 5] (fun inn i W => AccR w b l inn i W) (fun _ i _ => l.length - (intOf i).toNat)
    case atStart => exact hL
    case round =>
      obtain ⟨j, A, c, tag, hj, rfl, rfl, hn, hk, ht, hm⟩ := hrel
      have hlj : (l.take j).length = j := by simp; omega
      by_cases hjl : j < l.length
      · have hcl := came_length (l.take j) 0
        have htk : l.take (j + 1) = l.take j ++ [l[j]] := by rw [List.take_succ_eq_append_getElem hjl]
        obtain ⟨gB, oB, rfl, cB⟩ := (hB.same hk).get (j := j) (u := .bool l[j]) (by simp [hjl])
        cases hb : l[j]
        · -- one comes in
          rw [hb] at cB htk
          have hap := nhappen_any wr b tag (ny (l.take j)) hn ⟨0, 0, 0, [], none, 0⟩ (Rd.nil _ _)
          rw [ny_came _ (by omega)] at hap
          have hca : came (l.take (j + 1)) 0 = came (l.take j) 0 ++ [j] := by rw [htk, came_append, hlj]; simp [came]
          rw [← htk] at hap
          have HCA := Lib.hid hca
          have HTK := Lib.hid htk
          have HLJ := Lib.hid hlj
          clear hca htk hlj hb
          go_wp2_with fail
          refine hap.mono ?_
          clear hap
          rintro y w2 ⟨rfl, tag2, hn2, k2, t2⟩
          have ht2 : ∀ k, k < w.heap.size → tag2 k = none := fun k hk0 => t2 k (Nat.lt_of_lt_of_le hk0 hk.size) (ht k hk0)
          have hm2 : Mine w w2 tag2 A c (ints1 (came (l.take j) 0)) := hm.kept k2 (fun _ h => h) t2
          have hk2 : Kept (fun _ => False) w w2 := hk.over k2 fun x hx hS => hS (ht x hx)
          have kz := (Kept.refl (fun _ => False) w2).alloc (.cells #[.int .i64 ((j : Int) + 1)] 3)
          have hm3 : Mine w _ tag2 A c (ints1 (came (l.take j) 0)) := hm2.kept kz (fun _ h => h.elim) fun _ _ h => h
          have hn3 := hn2.kept kz fun _ hh => hh.elim
          have hL0 := ints1_length (came (l.take j) 0)
          have hle := hm3.le
          have hsp := hm3.sp
          rw [hL0] at hle hsp
          unfold errV
          clear hn hk ht hm hL0
          have hcl2 : (came (l.take j) 0).length ≤ 40 := by have := came_length (l.take j) 0; have := HLJ.out; omega
          generalize hxs : came (l.take j) 0 = xs at *
          have HXS := Lib.hid hxs
          clear hxs
          go_wp2_with (at_builtin; refine wpList_append_rd _ rfl (.tmp 46) (.tmp 49) _ rfl 3 i0 _ 1 8 Try.underlying26 hi0 hz0 hz1 hz2 rfl (by omega) A xs.length c rfl (ints1 xs) (by simp [ints1_length]) hm3.rd hle (by simpa using hsp) hm3.nil _ 1 1 rfl [.int .i64 ((j : Int) + 1)] rfl (by exact Rd.new w2 #[.int .i64 ((j : Int) + 1)] _ _) (by simp [Value.oneCell']) (by simp only [maxLen]; omega) (by omega) ?_; intro A' c' w4 r1 r2 r3 r4 r5; obtain ⟨hm4, hn4, k4⟩ := hm3.append hn3 (by have := hk2.size; simp; omega) r1 (by simpa [ints1_length] using r2) (by simpa [ints1_length] using r3) r4 (by simpa [ints1_length] using r5))
          go_roundw
          case rel =>
            refine ⟨j + 1, A', c', tag2, hjl, by go_num, ?_, hn4, (hk2.alloc _).over k4 fun x hx hS => by omega, ht2, ?_⟩
            · rw [HCA.out]; simp
            · rw [HCA.out]; simpa [ints1] using hm4
          case measure => simp [intOf]; omega
        · -- one is asked for
          rw [hb] at cB htk
          have hap := nconnect_some wr b tag (ny (l.take j)) hn ⟨#[110, 97, 109, 101]⟩ (by kernel_rfl) (by decide) (by simp [ny]; omega)
          rw [ny_ask, ← htk] at hap
          have hlen : (ny (l.take j)).ws.length = j := by simp [ny]; omega
          rw [hlen] at hap
          have hca : came (l.take (j + 1)) 0 = came (l.take j) 0 := by rw [htk, came_append, hlj]; simp [came]
          have HCA := Lib.hid hca
          have HTK := Lib.hid htk
          have HLJ := Lib.hid hlj
          clear hca htk hlj hb hlen
          go_wp2_with fail
          refine hap.mono ?_
          clear hap
          rintro y w2 ⟨rfl, tag2, hn2, k2, t2⟩
          have ht2 : ∀ k, k < w.heap.size → tag2 k = none := fun k hk0 => t2 k (Nat.lt_of_lt_of_le hk0 hk.size) (ht k hk0)
          have hm2 : Mine w w2 tag2 A c (ints1 (came (l.take j) 0)) := hm.kept k2 (fun _ h => h) t2
          have hk2 : Kept (fun _ => False) w w2 := hk.over k2 fun x hx hS => hS (ht x hx)
          go_wp2_with fail
          go_roundw
          case rel =>
            refine ⟨j + 1, A, c, tag2, hjl, by go_num, ?_, hn2, hk2, ht2, ?_⟩
            · rw [HCA.out]
            · rw [HCA.out]; exact hm2
          case measure => simp [intOf]; omega
      · obtain rfl : j = l.length := by omega
        rw [List.take_length] at hn hm ⊢
        have hL2 : AccS w b l A c (.int .i64 0) wr := ⟨0, tag, Nat.zero_le _, rfl, by rw [acc_zero]; exact hn, hk, ht, hm⟩
        clear hn hm hk ht hL hlj
        have hcl2 : (came l 0).length ≤ 40 := by have := came_length l 0; omega
        have HN := Lib.hid (rfl : (came l 0).length = (came l 0).length)
        go_wp2_with fail
        go_loopw [8] (fun i W => AccS w b l A c i W) (fun i _ => (came l 0).length - (intOf i).toNat)
        case atStart => exact hL2
        case round =>
          obtain ⟨j, tag, hj, rfl, hn, hk, ht, hm⟩ := hrel
          have hle := hm.le
          rw [ints1_length] at hle
          by_cases hjl : j < (came l 0).length
          · obtain ⟨p, hp⟩ : ∃ p, (came l 0)[j]? = some p := ⟨_, List.getElem?_eq_getElem hjl⟩
            obtain ⟨k, hpk, hf, hbef, hnext⟩ := acc_get l 0 j p hp
            have hap := naccept_some wr b tag _ hn k hf hbef
            have hpk' : p = k := by omega
            subst hpk'
            rw [← hnext] at hap
            have hcellv : (ints1 (came l 0))[j]? = some (.int .i64 ((p : Int) + 1)) := by simp [ints1, hp]
            have HP := Lib.hid hp
            clear hp hpk hnext
            generalize hN : (came l 0).length = N at *
            have HNN := Lib.hid hN
            clear hN
            have hpl : p ≤ 40 := by
              have h1 := (List.getElem?_eq_some_iff.1 hf).1
              rw [acc_length] at h1
              omega
            clear hf hbef
            go_wp2_with fail
            refine hap.mono ?_
            clear hap
            rintro y w2 ⟨rfl, tag2, hn2, k2, t2⟩
            have ht2 : ∀ k, k < w.heap.size → tag2 k = none := fun k hk0 => t2 k (Nat.lt_of_lt_of_le hk0 hk.size) (ht k hk0)
            have hm2 : Mine w w2 tag2 A c (ints1 (came l 0)) := hm.kept k2 (fun _ h => h) t2
            have hk2 : Kept (fun _ => False) w w2 := hk.over k2 fun x hx hS => hS (ht x hx)
            obtain ⟨gA, oA, rfl, cA⟩ := hm2.rd.get hcellv
            go_wp2_with fail
            go_roundw
            case rel => exact ⟨j + 1, tag2, by rw [HNN.out]; exact hjl, by go_num, hn2, hk2, ht2, hm2⟩
            case measure => simp [intOf]; omega
          · have hap := naccept_none wr b tag _ hn (by simp only [acc_length]; exact acc_full l 0 j (by omega))
            have hlen := fun W tag h => nlen_any W b tag { ny l with told := acc l j } h
            have hwl : (ny l).ws.length = l.length := by simp [ny]
            simp only [hwl] at hlen
            generalize hN : (came l 0).length = N at *
            have HNN := Lib.hid hN
            clear hN
            go_wp2_with fail
            refine hap.mono ?_
            clear hap
            rintro y w2 ⟨rfl, rfl⟩
            go_wp2_with fail
            refine (hlen _ _ hn).mono ?_
            clear hlen
            rintro y w3 ⟨rfl, rfl⟩
            go_wp2_with fail
            go_ret
            exact ⟨by simp, hk⟩
end Go.Proofs.Ytpdlpiepgeanjaa

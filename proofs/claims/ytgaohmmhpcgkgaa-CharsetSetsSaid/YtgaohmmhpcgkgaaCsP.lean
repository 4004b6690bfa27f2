/- Counting the bits of a word, by sums of neighbours. No conditions. -/
import Derived.Test.YtgaohmmhpcgkgaaBase
namespace Go.Proofs.Ytgaohmmhpcgkgaa

/-- The bits of x, n of them, summed. -/
def bsum : Nat → Nat → Nat
  | 0, _ => 0
  | n + 1, x => x % 2 + bsum n (x / 2)
theorem bsum_eight (m x : Nat) : bsum (m + 8) x = bsum 8 (x % 256) + bsum m (x / 256) := by
  simp only [bsum, Nat.div_div_eq_div_mul, Nat.reduceMul]
  omega
theorem bsum_le (n x : Nat) : bsum n x ≤ n := by
  induction n generalizing x with
  | zero => simp [bsum]
  | succ n ih => have := ih (x / 2); simp only [bsum]; omega

theorem and_split (h b m k : Nat) (hb : b < 256) (hk : k < 256) : (256 * h + b) &&& (256 * m + k) = 256 * (h &&& m) + (b &&& k) := by
  apply Nat.eq_of_testBit_eq
  intro i
  have hbk : b &&& k < 256 := Nat.and_lt_two_pow (n := 8) _ hk
  have e1 := Nat.testBit_two_pow_mul_add h (i := 8) (b := b) hb i
  have e2 := Nat.testBit_two_pow_mul_add m (i := 8) (b := k) hk i
  have e3 := Nat.testBit_two_pow_mul_add (h &&& m) (i := 8) (b := b &&& k) hbk i
  simp only [Nat.reducePow] at e1 e2 e3
  rw [Nat.testBit_and, e1, e2, e3]
  split <;> simp [Nat.testBit_and]

def msk (k : Nat) : Nat → Nat
  | 0 => 0
  | n + 1 => 256 * msk k n + k
def s1 (n x : Nat) : Nat := (x / 2 &&& msk 0x55 n) + (x &&& msk 0x55 n)
def s2 (n x : Nat) : Nat := (x / 4 &&& msk 0x33 n) + (x &&& msk 0x33 n)
def s3 (n x : Nat) : Nat := (x / 16 + x) &&& msk 0x0f n
def t1 (b : Nat) : Nat := (b / 2 &&& 0x55) + (b &&& 0x55)
def t2 (b : Nat) : Nat := (b / 4 &&& 0x33) + (b &&& 0x33)
def t3 (b : Nat) : Nat := (b / 16 + b) &&& 0x0f
/-- Bytes, one behind the other. -/
def byt (f : Nat → Nat) : Nat → Nat → Nat
  | 0, _ => 0
  | n + 1, x => 256 * byt f n (x / 256) + f (x % 256)

theorem dec_t1 : ∀ b : Fin 256, t1 b.val < 256 ∧ (128 + b.val / 2) &&& 0x55 = b.val / 2 &&& 0x55 := by decide +kernel
theorem dec_t2 : ∀ b : Fin 256, t2 (t1 b.val) < 256 ∧ t2 (t1 b.val) % 16 ≤ 4 ∧ t2 (t1 b.val) / 16 ≤ 4 ∧ t3 (t2 (t1 b.val)) = bsum 8 b.val := by decide +kernel
theorem dec_q4 : ∀ (q : Fin 4) (b : Fin 256), (64 * q.val + b.val / 4) &&& 0x33 = b.val / 4 &&& 0x33 := by decide +kernel

theorem s1_byt (n x : Nat) : s1 n x = byt t1 n x := by
  induction n generalizing x with
  | zero => simp [s1, msk, byt]
  | succ n ih =>
    have hx : x = 256 * (x / 256) + x % 256 := by omega
    have hb : x % 256 < 256 := by omega
    have hd := (dec_t1 ⟨x % 256, hb⟩).2
    simp only at hd
    rw [byt, ← ih]
    generalize x / 256 = h at *
    generalize x % 256 = b at *
    subst hx
    unfold s1
    simp only [msk]
    have h1 : (256 * h + b) / 2 = 256 * (h / 2) + (128 * (h % 2) + b / 2) := by omega
    rw [h1, and_split _ _ _ _ (by omega) (by omega), and_split _ _ _ _ hb (by omega)]
    have h2 : (128 * (h % 2) + b / 2) &&& 0x55 = b / 2 &&& 0x55 := by
      rcases Nat.mod_two_eq_zero_or_one h with e | e
      · rw [e]; simp
      · rw [e]; exact hd
    rw [h2]
    unfold t1
    omega
theorem byt_lt (f : Nat → Nat) (hf : ∀ b, b < 256 → f b < 256) (n x : Nat) : byt f n x / 256 = byt f (n - 1) (x / 256) ∧ (0 < n → byt f n x % 256 = f (x % 256)) := by
  cases n with
  | zero => simp [byt]
  | succ n =>
    have := hf (x % 256) (by omega)
    simp only [byt, Nat.add_sub_cancel]
    omega
theorem t1_lt (b : Nat) (h : b < 256) : t1 b < 256 := (dec_t1 ⟨b, h⟩).1
theorem s2_byt (n x : Nat) : s2 n (byt t1 n x) = byt (fun b => t2 (t1 b)) n x := by
  induction n generalizing x with
  | zero => simp [s2, msk, byt]
  | succ n ih =>
    have hb : t1 (x % 256) < 256 := t1_lt _ (by omega)
    rw [byt, byt, ← ih]
    generalize byt t1 n (x / 256) = h at *
    generalize t1 (x % 256) = b at *
    unfold s2
    simp only [msk]
    have h1 : (256 * h + b) / 4 = 256 * (h / 4) + (64 * (h % 4) + b / 4) := by omega
    have h2 := dec_q4 ⟨h % 4, by omega⟩ ⟨b, hb⟩
    simp only at h2
    rw [h1, and_split _ _ _ _ (by omega) (by omega), and_split _ _ _ _ hb (by omega), h2]
    unfold t2
    omega
theorem t2_ok (b : Nat) (h : b < 256) : t2 (t1 b) < 256 ∧ t2 (t1 b) % 16 ≤ 4 ∧ t2 (t1 b) / 16 ≤ 4 ∧ t3 (t2 (t1 b)) = bsum 8 b := dec_t2 ⟨b, h⟩
theorem dec_t3 : ∀ (p q r : Fin 5), (16 * p.val + (16 * q.val + r.val) / 16 + (16 * q.val + r.val)) &&& 0x0f = ((16 * q.val + r.val) / 16 + (16 * q.val + r.val)) &&& 0x0f := by decide +kernel
theorem s3_byt (n x : Nat) : s3 n (byt (fun b => t2 (t1 b)) n x) = byt (bsum 8) n x ∧ byt (fun b => t2 (t1 b)) n x % 16 ≤ 4 := by
  induction n generalizing x with
  | zero => simp [s3, msk, byt]
  | succ n ih =>
    obtain ⟨hb, h16, hd16, h3⟩ := t2_ok (x % 256) (by omega)
    obtain ⟨ih1, ih2⟩ := ih (x / 256)
    simp only [byt]
    rw [← ih1, ← h3]
    generalize byt (fun b => t2 (t1 b)) n (x / 256) = h at *
    generalize t2 (t1 (x % 256)) = b at *
    refine ⟨?_, by omega⟩
    unfold s3
    simp only [msk]
    have h1 : (256 * h + b) / 16 + (256 * h + b) = 256 * (h / 16 + h) + (16 * (h % 16) + b / 16 + b) := by omega
    have h2 := dec_t3 ⟨h % 16, by omega⟩ ⟨b / 16, by omega⟩ ⟨b % 16, by omega⟩
    simp only [show 16 * (b / 16) + b % 16 = b by omega] at h2
    rw [h1, and_split _ _ _ _ (by omega) (by omega), h2]
    rfl
theorem bsum_byt (n x : Nat) (p : Nat → Nat) (hp : ∀ i, p i = bsum 8 (x / 256 ^ i % 256)) : True := trivial
/-- The whole sum. -/
theorem ones_sum (x v y4 y5 y6 : Nat) (hx : x < 18446744073709551616) (hv : v = byt (bsum 8) 8 x) (h4 : y4 = v + v / 256) (h5 : y5 = y4 + y4 / 65536) (h6 : y6 = y5 + y5 / 4294967296) : y6 % 128 = bsum 64 x ∧ y6 < 18446744073709551616 := by
  have e0 := bsum_eight 56 x
  have e1 := bsum_eight 48 (x / 256)
  have e2 := bsum_eight 40 (x / 256 / 256)
  have e3 := bsum_eight 32 (x / 256 / 256 / 256)
  have e4 := bsum_eight 24 (x / 256 / 256 / 256 / 256)
  have e5 := bsum_eight 16 (x / 256 / 256 / 256 / 256 / 256)
  have e6 := bsum_eight 8 (x / 256 / 256 / 256 / 256 / 256 / 256)
  have e7 := bsum_eight 0 (x / 256 / 256 / 256 / 256 / 256 / 256 / 256)
  simp only [byt] at hv
  have b0 := bsum_le 8 (x % 256)
  have b1 := bsum_le 8 (x / 256 % 256)
  have b2 := bsum_le 8 (x / 256 / 256 % 256)
  have b3 := bsum_le 8 (x / 256 / 256 / 256 % 256)
  have b4 := bsum_le 8 (x / 256 / 256 / 256 / 256 % 256)
  have b5 := bsum_le 8 (x / 256 / 256 / 256 / 256 / 256 % 256)
  have b6 := bsum_le 8 (x / 256 / 256 / 256 / 256 / 256 / 256 % 256)
  have b7 := bsum_le 8 (x / 256 / 256 / 256 / 256 / 256 / 256 / 256 % 256)
  have hz : bsum 0 (x / 256 / 256 / 256 / 256 / 256 / 256 / 256 / 256) = 0 := rfl
  simp only [Nat.reduceAdd] at e0 e1 e2 e3 e4 e5 e6 e7
  generalize bsum 8 (x % 256) = p0 at *
  generalize bsum 8 (x / 256 % 256) = p1 at *
  generalize bsum 8 (x / 256 / 256 % 256) = p2 at *
  generalize bsum 8 (x / 256 / 256 / 256 % 256) = p3 at *
  generalize bsum 8 (x / 256 / 256 / 256 / 256 % 256) = p4 at *
  generalize bsum 8 (x / 256 / 256 / 256 / 256 / 256 % 256) = p5 at *
  generalize bsum 8 (x / 256 / 256 / 256 / 256 / 256 / 256 % 256) = p6 at *
  generalize bsum 8 (x / 256 / 256 / 256 / 256 / 256 / 256 / 256 % 256) = p7 at *
  have hs : bsum 64 x = p0 + p1 + p2 + p3 + p4 + p5 + p6 + p7 := by omega
  rw [hs]
  clear e0 e1 e2 e3 e4 e5 e6 e7 hs hx hz
  have k4 : y4 = (p0 + p1) + 256 * (p1 + p2) + 65536 * (p2 + p3) + 16777216 * (p3 + p4) + 4294967296 * (p4 + p5) + 1099511627776 * (p5 + p6) + 281474976710656 * (p6 + p7) + 72057594037927936 * p7 := by omega
  clear h4 hv
  have k5 : y5 = (p0 + p1 + p2 + p3) + 256 * (p1 + p2 + p3 + p4) + 65536 * (p2 + p3 + p4 + p5) + 16777216 * (p3 + p4 + p5 + p6) + 4294967296 * (p4 + p5 + p6 + p7) + 1099511627776 * (p5 + p6 + p7) + 281474976710656 * (p6 + p7) + 72057594037927936 * p7 := by omega
  clear h5 k4
  have k6 : y5 / 4294967296 = (p4 + p5 + p6 + p7) + 256 * (p5 + p6 + p7) + 65536 * (p6 + p7) + 16777216 * p7 := by omega
  omega
end Go.Proofs.Ytgaohmmhpcgkgaa

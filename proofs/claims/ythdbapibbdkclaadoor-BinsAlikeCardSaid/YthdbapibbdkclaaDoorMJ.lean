/- The value of a form as a whole number times a power of two; forms of a value are unique; sums and products of forms. Contracts of steelyardlaw03's fine.add, fine.mul. The laws of a ring for forms; the sign of a difference. DyadRing, in numbers. Numbers of 64 bits in the floats' own order; what is rounded lies as it should, in numbers. Where a rounded number lies beside the value, beside other numbers. Contract of steelyardlaw03's gap. What DyadNear's walk asks of numbers: that a rounding exists, its order, floats compared. No statement of the seat is proved here. -/
import Derived.Test.YthdbapibbdkclaaDoorProg
import Derived.Test.YthdbapibbdkclaaDoorMI
import Derived.Test.YthdbapibbdkclaaDoorME
namespace Go.Proofs.YthdbapibbdkclaaDoor
open Go.RowKit
set_option linter.unusedVariables false
set_option linter.unusedSimpArgs false

def sgn (s : Bool) (n : Nat) : Int := if s = true then -(n : Int) else n
theorem sgn_mul (s : Bool) (m k : Nat) : sgn s (m * k) = sgn s m * (k : Int) := by
  unfold sgn; cases s
  · simp
  · simp [Int.neg_mul]
theorem sgn_zero (s : Bool) : sgn s 0 = 0 := by unfold sgn; cases s <;> simp
theorem sgn_not (s : Bool) (m : Nat) : sgn (!s) m = - sgn s m := by unfold sgn; cases s <;> simp
theorem sgn_add (s : Bool) (m k : Nat) : sgn s (m + k) = sgn s m + sgn s k := by unfold sgn; cases s <;> simp <;> omega
theorem sgn_xor (s t : Bool) (m k : Nat) : sgn (s != t) (m * k) = sgn s m * sgn t k := by
  unfold sgn; cases s <;> cases t <;> simp [Int.neg_mul, Int.mul_neg]
theorem sgn_eq_zero {s : Bool} {m : Nat} (h : sgn s m = 0) : m = 0 := by unfold sgn at h; split at h <;> omega
/-- the value in units of 2^B -/
def D.z (d : D) (B : Int) : Int := sgn d.neg d.m * ((2 ^ (d.exp - B).toNat : Nat) : Int)
theorem z_zero (B : Int) : D.zero.z B = 0 := by unfold D.z D.zero; simp [sgn]
theorem pow_split {e B : Int} {k : Nat} (h : B ≤ e) : 2 ^ (e + k - B).toNat = 2 ^ k * 2 ^ (e - B).toNat := by
  rw [← Nat.pow_add]; congr 1; omega
theorem z_form {s : Bool} {n : Nat} {e B : Int} {d : D} (h : formF s n e = some d) (hB : B ≤ e) (hB0 : B ≤ 0) : d.z B = sgn s n * ((2 ^ (e - B).toNat : Nat) : Int) ∧ B ≤ d.exp := by
  unfold formF at h
  split at h
  · next h0 =>
    cases h
    rw [z_zero, h0, sgn_zero, Int.zero_mul]
    exact ⟨rfl, hB0⟩
  · next h0 =>
    split at h
    · cases h
    · cases h
      obtain ⟨m, h1, h2⟩ := low_spec h0
      have h3 : n / 2 ^ low n = m := by
        conv => lhs; arg 1; rw [h1]
        exact Nat.mul_div_cancel_left _ (Nat.two_pow_pos _)
      refine ⟨?_, by dsimp only; omega⟩
      unfold D.z
      dsimp only
      rw [h3, pow_split hB]
      conv => rhs; rw [h1]
      rw [Nat.mul_comm (2 ^ low n) m, sgn_mul, Int.mul_assoc, ← Int.natCast_mul]
theorem z_scale {d : D} {E B : Int} (h1 : E ≤ d.exp) (h2 : B ≤ E) : d.z B = sgn d.neg (d.m * 2 ^ (d.exp - E).toNat) * ((2 ^ (E - B).toNat : Nat) : Int) := by
  unfold D.z
  rw [sgn_mul, Int.mul_assoc, ← Int.natCast_mul, ← Nat.pow_add]
  congr 4; omega
theorem z_add {p q r : D} {B : Int} (h : addD p q = some r) (hp : B ≤ p.exp) (hq : B ≤ q.exp) (h0 : B ≤ 0) : r.z B = p.z B + q.z B ∧ B ≤ r.exp := by
  unfold addD at h
  split at h
  · next h1 =>
    cases h
    refine ⟨?_, hq⟩
    have : p.z B = 0 := by unfold D.z; rw [h1, sgn_zero, Int.zero_mul]
    omega
  split at h
  · next h1 =>
    cases h
    refine ⟨?_, hp⟩
    have : q.z B = 0 := by unfold D.z; rw [h1, sgn_zero, Int.zero_mul]
    omega
  split at h
  · cases h
  have hE : B ≤ min p.exp q.exp := by omega
  have e1 := z_scale (d := p) (E := min p.exp q.exp) (B := B) (by omega) hE
  have e2 := z_scale (d := q) (E := min p.exp q.exp) (B := B) (by omega) hE
  generalize p.m * 2 ^ (p.exp - min p.exp q.exp).toNat = a at *
  generalize q.m * 2 ^ (q.exp - min p.exp q.exp).toNat = b at *
  split at h
  · next hs =>
    obtain ⟨e3, e4⟩ := z_form h hE h0
    refine ⟨?_, e4⟩
    rw [e3, e1, e2, sgn_add, Int.add_mul, hs]
  · next hs =>
    split at h
    · next hlt =>
      obtain ⟨e3, e4⟩ := z_form h hE h0
      refine ⟨?_, e4⟩
      rw [e3, e1, e2, ← Int.add_mul]
      congr 1
      unfold sgn
      cases hp2 : p.neg <;> cases hq2 : q.neg <;> simp_all <;> omega
    · next hlt =>
      obtain ⟨e3, e4⟩ := z_form h hE h0
      refine ⟨?_, e4⟩
      rw [e3, e1, e2, ← Int.add_mul]
      congr 1
      unfold sgn
      cases hp2 : p.neg <;> cases hq2 : q.neg <;> simp_all <;> omega
theorem z_mul {p q r : D} {B C : Int} (h : mulD p q = some r) (hp : B ≤ p.exp) (hq : C ≤ q.exp) (h0 : B + C ≤ 0) : r.z (B + C) = p.z B * q.z C ∧ B + C ≤ r.exp := by
  obtain ⟨e3, e4⟩ := z_form h (show B + C ≤ p.exp + q.exp by omega) h0
  refine ⟨?_, e4⟩
  rw [e3, sgn_xor]
  unfold D.z
  have : 2 ^ (p.exp + q.exp - (B + C)).toNat = 2 ^ (p.exp - B).toNat * 2 ^ (q.exp - C).toNat := by
    rw [← Nat.pow_add]; congr 1; omega
  rw [this, Int.natCast_mul]
  generalize ((2 ^ (p.exp - B).toNat : Nat) : Int) = x
  generalize ((2 ^ (q.exp - C).toNat : Nat) : Int) = y
  rw [Int.mul_assoc, Int.mul_assoc, Int.mul_left_comm (sgn q.neg q.m) x y]
/-- a form -/
def D.Is (d : D) : Prop := d = D.zero ∨ d.m % 2 = 1
theorem formF_is {s : Bool} {n : Nat} {e : Int} {d : D} (h : formF s n e = some d) : d.Is := by
  rcases formF_odd h with h1 | h1
  · exact .inl (formF_zero h h1)
  · exact .inr h1
theorem addD_is {p q r : D} (h : addD p q = some r) (hp : p.Is) (hq : q.Is) : r.Is := by
  unfold addD at h
  split at h
  · cases h; exact hq
  split at h
  · cases h; exact hp
  split at h
  · cases h
  split at h
  · exact formF_is h
  · split at h
    · exact formF_is h
    · exact formF_is h
theorem z_uniq {p q : D} {B : Int} (hp : p.Is) (hq : q.Is) (h1 : B ≤ p.exp) (h2 : B ≤ q.exp) (h : p.z B = q.z B) : p = q := by
  have key : ∀ {d : D}, d.z B = 0 → d.m = 0 := by
    intro d h
    unfold D.z at h
    rcases Int.mul_eq_zero.1 h with h3 | h3
    · exact sgn_eq_zero h3
    · have := Nat.two_pow_pos (d.exp - B).toNat
      omega
  rcases hp with rfl | hp
  · rw [z_zero] at h
    have h3 := key h.symm
    rcases hq with rfl | hq
    · rfl
    · rw [h3] at hq; simp at hq
  · rcases hq with rfl | hq
    · rw [z_zero] at h
      have h3 := key h
      rw [h3] at hp; simp at hp
    · obtain ⟨s, m, e⟩ := p
      obtain ⟨t, n, f⟩ := q
      dsimp only at *
      unfold D.z at h
      dsimp only at h
      have hs : s = t ∧ 2 ^ (e - B).toNat * m = 2 ^ (f - B).toNat * n := by
        rw [← sgn_mul, ← sgn_mul] at h
        have pm : 0 < m * 2 ^ (e - B).toNat := Nat.mul_pos (by omega) (Nat.two_pow_pos _)
        have pn : 0 < n * 2 ^ (f - B).toNat := Nat.mul_pos (by omega) (Nat.two_pow_pos _)
        rw [Nat.mul_comm _ m, Nat.mul_comm _ n]
        generalize m * 2 ^ (e - B).toNat = a at *
        generalize n * 2 ^ (f - B).toNat = b at *
        unfold sgn at h
        cases s <;> cases t <;> simp at h ⊢ <;> omega
      obtain ⟨rfl, h3⟩ := hs
      have h4 := low_eq (k := (e - B).toNat) hp
      have h5 := low_eq (k := (f - B).toNat) hq
      rw [h3, h5] at h4
      rw [h4] at h3
      have h6 := Nat.eq_of_mul_eq_mul_left (Nat.two_pow_pos _) h3
      have h7 : e = f := by omega
      rw [h6, h7]
end Go.Proofs.YthdbapibbdkclaaDoor
namespace Go.Proofs.YthdbapibbdkclaaDoor
open Go.RowKit
set_option linter.unusedVariables false
set_option linter.unusedSimpArgs false

end Go.Proofs.YthdbapibbdkclaaDoor
namespace Go.Proofs.YthdbapibbdkclaaDoor
open Go.RowKit
set_option linter.unusedVariables false
set_option linter.unusedSimpArgs false

theorem form_self {d : D} (h : d.Is) (ok : d.Ok) : formF d.neg d.m d.exp = some d := by
  rcases h with rfl | h
  · rfl
  · obtain ⟨l1, l2, l3⟩ := ok
    unfold formF
    rw [if_neg (by omega), low_odd h]
    simp only [Nat.pow_zero, Nat.div_one]
    rw [if_neg (by omega)]
    obtain ⟨s, m, e⟩ := d
    simp
theorem addD_form {p q r : D} (h : addD p q = some r) (hp : p.Is) (hq : q.Is) (op : p.Ok) (oq : q.Ok) : r.Is ∧ r.Ok := by
  refine ⟨addD_is h hp hq, ?_⟩
  have := addD_ok op oq
  rw [h] at this; exact this
theorem mulD_form {p q r : D} (h : mulD p q = some r) : r.Is ∧ r.Ok := ⟨formF_is h, formF_ok h⟩
theorem ring_law {p q r q' d1 d2 d3 d4 d5 d6 d7 d8 d9 d11 d12 d14 : D} (hp : p.Is) (hq : q.Is) (hr : r.Is) (hq' : q'.Is) (hz : ∀ B, B ≤ q.exp → B ≤ q'.exp → q'.z B = - q.z B)
    (h1 : addD p q = some d1) (h2 : addD q r = some d2) (h3 : addD d1 r = some d3) (h4 : addD p d2 = some d4) (h5 : mulD p q = some d5) (h6 : mulD d5 r = some d6) (h7 : mulD q r = some d7) (h8 : mulD p d7 = some d8)
    (h9 : mulD p d2 = some d9) (h11 : mulD p r = some d11) (h12 : addD d5 d11 = some d12) (h14 : addD d1 q' = some d14) : d3 = d4 ∧ d6 = d8 ∧ d9 = d12 ∧ d14 = p := by
  obtain ⟨B, bp, bq, br, bq', b0⟩ : ∃ B : Int, B ≤ p.exp ∧ B ≤ q.exp ∧ B ≤ r.exp ∧ B ≤ q'.exp ∧ B ≤ 0 := ⟨min (min p.exp q.exp) (min (min r.exp q'.exp) 0), by omega, by omega, by omega, by omega, by omega⟩
  obtain ⟨z1, e1⟩ := z_add h1 bp bq b0
  obtain ⟨z2, e2⟩ := z_add h2 bq br b0
  obtain ⟨z3, e3⟩ := z_add h3 e1 br b0
  obtain ⟨z4, e4⟩ := z_add h4 bp e2 b0
  obtain ⟨z5, e5⟩ := z_mul h5 bp bq (by omega)
  obtain ⟨z6, e6⟩ := z_mul h6 e5 br (by omega)
  obtain ⟨z7, e7⟩ := z_mul h7 bq br (by omega)
  obtain ⟨z8, e8⟩ := z_mul h8 bp e7 (by omega)
  obtain ⟨z9, e9⟩ := z_mul h9 bp e2 (by omega)
  obtain ⟨z11, e11⟩ := z_mul h11 bp br (by omega)
  obtain ⟨z12, e12⟩ := z_add h12 e5 e11 (by omega)
  obtain ⟨z14, e14⟩ := z_add h14 e1 bq' b0
  have i1 := addD_is h1 hp hq
  have i2 := addD_is h2 hq hr
  refine ⟨z_uniq (addD_is h3 i1 hr) (addD_is h4 hp i2) e3 e4 ?_, z_uniq (B := B + B + B) (formF_is h6) (formF_is h8) e6 (by omega) ?_, z_uniq (formF_is h9) (addD_is h12 (formF_is h5) (formF_is h11)) e9 e12 ?_, z_uniq (addD_is h14 i1 hq') hp e14 bp ?_⟩
  · rw [z3, z4, z1, z2]; omega
  · rw [z6, z5, show B + B + B = B + (B + B) by omega, z8, z7, Int.mul_assoc]
  · rw [z9, z12, z2, z5, z11, Int.mul_add]
  · rw [z14, z1, hz B bq bq']; omega

theorem grown_trans {w w1 w2 : World} {r : Option Nat} (h : w.grownBy w1 r) (k : w1.grownBy w2 r) : w.grownBy w2 r :=
  ⟨k.os.trans h.os, k.tape.trans h.tape, k.output.trans h.output, Nat.le_trans h.size k.size, fun j hj hr => (k.block j (Nat.lt_of_lt_of_le hj h.size) hr).trans (h.block j hj hr)⟩
theorem grown_of_below {w w1 : World} {r : Option Nat} (h : Below w.heap.size w w1) : w.grownBy w1 r := ⟨h.os, h.tape, h.output, h.size, fun j hj _ => h.block j hj⟩
theorem grown_alloc {w w1 : World} {r : Option Nat} (h : w.grownBy w1 r) (o : Obj) : w.grownBy (w1.alloc o) r := grown_trans h (grown_of_below ((Below.refl _ _).alloc (Nat.le_refl _) o))
theorem grown_drew {w w1 : World} {r : Option Nat} (h : w.grownBy w1 r) : w.grownBy w1.drew r := ⟨h.os, h.tape, h.output, h.size, h.block⟩
theorem grown_wr {w w1 : World} {r : Option Nat} {g : Nat} {v0 v1 v2 : Value} (h : w.grownBy w1 r) (hg : w.heap.size ≤ g) : w.grownBy (wr3 w1 g v0 v1 v2) r := by
  refine ⟨by simp [wr3]; exact h.os, by simp [wr3]; exact h.tape, by simp [wr3]; exact h.output, by simp [wr3]; exact h.size, fun j hj hr => ?_⟩
  unfold wr3
  rw [heap_setCell_other _ _ _ _ (by simp; omega), heap_setCell_other _ _ _ _ (by simp; omega), heap_setCell_other _ _ _ _ (by simp; omega)]
  exact h.block j hj hr
theorem bel_of_grown {w0 w w1 : World} {F : Nat} (h : Below w0.heap.size w0 w) (k : w.grownBy w1 (some F)) (hF : w0.heap.size ≤ F) : Below w0.heap.size w0 w1 := bel_grown h (Nat.le_refl _) k hF

/-- the sign of what is a number times a positive one -/
theorem z_sign {d : D} {B : Int} (h : B ≤ d.exp) : (d.z B < 0 → (if d.m = 0 then (0 : Int) else if d.neg = true then -1 else 1) = -1) ∧ (d.z B = 0 → (if d.m = 0 then (0 : Int) else if d.neg = true then -1 else 1) = 0) ∧ (0 < d.z B → (if d.m = 0 then (0 : Int) else if d.neg = true then -1 else 1) = 1) := by
  have hp := Nat.two_pow_pos (d.exp - B).toNat
  unfold D.z
  rw [← sgn_mul]
  have hz : d.m = 0 ↔ d.m * 2 ^ (d.exp - B).toNat = 0 := by
    constructor
    · intro h; rw [h, Nat.zero_mul]
    · intro h
      rcases Nat.mul_eq_zero.1 h with h | h
      · exact h
      · omega
  by_cases h0 : d.m = 0
  · rw [if_pos h0, hz.1 h0, sgn_zero]
    exact ⟨fun h => by omega, fun _ => rfl, fun h => by omega⟩
  · have h1 : d.m * 2 ^ (d.exp - B).toNat ≠ 0 := fun h => h0 (hz.2 h)
    rw [if_neg h0]
    generalize d.m * 2 ^ (d.exp - B).toNat = a at *
    unfold sgn
    cases d.neg <;> simp <;> omega
theorem cmpA_z (x y : Arg) (B : Int) (hx : B ≤ x.e) (hy : B ≤ y.e) : (sgn x.s (num x.l * 2 ^ (x.e - B).toNat) - sgn y.s (num y.l * 2 ^ (y.e - B).toNat) < 0 → cmpA x y = -1) ∧ (sgn x.s (num x.l * 2 ^ (x.e - B).toNat) - sgn y.s (num y.l * 2 ^ (y.e - B).toNat) = 0 → cmpA x y = 0) ∧ (0 < sgn x.s (num x.l * 2 ^ (x.e - B).toNat) - sgn y.s (num y.l * 2 ^ (y.e - B).toNat) → cmpA x y = 1) := by
  have hm := magCmp_scale (num x.l) x.e (num y.l) y.e B hx hy
  have p1 := Nat.two_pow_pos (x.e - B).toNat
  have p2 := Nat.two_pow_pos (y.e - B).toNat
  have zx : num x.l = 0 ↔ num x.l * 2 ^ (x.e - B).toNat = 0 := ⟨fun h => by rw [h, Nat.zero_mul], fun h => by rcases Nat.mul_eq_zero.1 h with h | h; exact h; omega⟩
  have zy : num y.l = 0 ↔ num y.l * 2 ^ (y.e - B).toNat = 0 := ⟨fun h => by rw [h, Nat.zero_mul], fun h => by rcases Nat.mul_eq_zero.1 h with h | h; exact h; omega⟩
  unfold cmpA Arg.sign
  rw [hm]
  generalize num x.l * 2 ^ (x.e - B).toNat = a at *
  generalize num y.l * 2 ^ (y.e - B).toNat = b at *
  simp only [zx, zy]
  unfold sgn cmpN
  obtain ⟨s, _, _, _, _⟩ := x
  obtain ⟨t, _, _, _, _⟩ := y
  dsimp only
  rcases Nat.eq_zero_or_pos a with ha | ha <;> rcases Nat.eq_zero_or_pos b with hb | hb <;> cases s <;> cases t <;> (refine ⟨fun h => ?_, fun h => ?_, fun h => ?_⟩) <;> (try subst ha) <;> (try subst hb) <;> simp at h ⊢ <;> (try (repeat' split)) <;> omega
theorem sub_cmp (s : Bool) (a : Option Addr) (l : List Nat) (c : Nat) (e : Int) (s' : Bool) (a' : Option Addr) (l' : List Nat) (c' : Nat) (e' : Int) (d : D) (h : addO (formF s (num l) e) (formF (!s') (num l') e') = some d) :
    (if d.m = 0 then (0 : Int) else if d.neg = true then -1 else 1) = cmpA ⟨s, a, l, c, e⟩ ⟨s', a', l', c', e'⟩ := by
  cases hp : formF s (num l) e with
  | none => rw [hp] at h; cases h
  | some p =>
    cases hq : formF (!s') (num l') e' with
    | none => rw [hp, hq] at h; cases h
    | some q =>
      rw [hp, hq] at h
      have h2 : addD p q = some d := h
      obtain ⟨B, b1, b2, b0⟩ : ∃ B : Int, B ≤ e ∧ B ≤ e' ∧ B ≤ 0 := ⟨min (min e e') 0, by omega, by omega, by omega⟩
      obtain ⟨z1, x1⟩ := z_form hp b1 b0
      obtain ⟨z2, x2⟩ := z_form hq b2 b0
      obtain ⟨z3, x3⟩ := z_add h2 x1 x2 b0
      obtain ⟨k1, k2, k3⟩ := z_sign x3
      obtain ⟨m1, m2, m3⟩ := cmpA_z ⟨s, a, l, c, e⟩ ⟨s', a', l', c', e'⟩ B b1 b2
      dsimp only at m1 m2 m3
      have hz : d.z B = sgn s (num l * 2 ^ (e - B).toNat) - sgn s' (num l' * 2 ^ (e' - B).toNat) := by
        rw [z3, z1, z2, sgn_mul, sgn_mul, sgn_not, Int.neg_mul]; omega
      rw [← hz] at m1 m2 m3
      rcases Int.lt_trichotomy (d.z B) 0 with h3 | h3 | h3
      · rw [k1 h3, m1 h3]
      · rw [k2 h3, m2 h3]
      · rw [k3 h3, m3 h3]
theorem neg_form {s : Bool} {n : Nat} {e : Int} {q : D} (h : formF s n e = some q) : ∃ q', formF (!s) n e = some q' ∧ ∀ B, B ≤ q.exp → B ≤ q'.exp → q'.z B = - q.z B := by
  unfold formF at h ⊢
  by_cases h0 : n = 0
  · rw [if_pos h0] at h ⊢
    cases h
    exact ⟨D.zero, rfl, fun B _ _ => by rw [z_zero]; rfl⟩
  · rw [if_neg h0] at h ⊢
    by_cases h1 : 1048576 < e + low n ∨ e + low n < -1048576 ∨ 8192 < (words (n / 2 ^ low n)).length
    · rw [if_pos h1] at h; cases h
    · rw [if_neg h1] at h ⊢
      cases h
      refine ⟨_, rfl, fun B _ _ => ?_⟩
      unfold D.z
      dsimp only
      rw [sgn_not, Int.neg_mul]
end Go.Proofs.YthdbapibbdkclaaDoor
namespace Go.Proofs.YthdbapibbdkclaaDoor
open Go.RowKit
set_option linter.unusedVariables false
set_option linter.unusedSimpArgs false

theorem addO_some {X Y : Option D} {d : D} (h : addO X Y = some d) : ∃ p q, X = some p ∧ Y = some q ∧ addD p q = some d := by
  cases X with
  | none => cases h
  | some p => cases Y with
    | none => cases h
    | some q => exact ⟨p, q, rfl, rfl, h⟩
theorem mulO_some {X Y : Option D} {d : D} (h : mulO X Y = some d) : ∃ p q, X = some p ∧ Y = some q ∧ mulD p q = some d := by
  cases X with
  | none => cases h
  | some p => cases Y with
    | none => cases h
    | some q => exact ⟨p, q, rfl, rfl, h⟩
theorem some_of {o : Option D} (h : o.isNone = false) : o = some (outO o) := by cases o with
  | none => cases h
  | some d => rfl
def refo (d : D) : Option D := formF d.neg d.m d.exp
theorem ring_plain {X Y Z Y' o1 o2 o3 o4 o5 o6 o7 o8 o9 o11 o12 o14 : Option D} (hX : ∀ d, X = some d → d.Is ∧ d.Ok) (hY : ∀ d, Y = some d → d.Is ∧ d.Ok) (hZ : ∀ d, Z = some d → d.Is ∧ d.Ok)
    (hY' : ∀ q, Y = some q → ∃ q', Y' = some q' ∧ (q'.Is ∧ q'.Ok) ∧ ∀ B, B ≤ q.exp → B ≤ q'.exp → q'.z B = - q.z B)
    (p1 : o1 = addO X Y) (p2 : o2 = addO Y Z) (p3 : o3 = addO (refo (outO o1)) Z) (p4 : o4 = addO X (refo (outO o2))) (p5 : o5 = mulO X Y) (p6 : o6 = mulO (refo (outO o5)) Z) (p7 : o7 = mulO Y Z) (p8 : o8 = mulO X (refo (outO o7)))
    (p9 : o9 = mulO X (refo (outO o2))) (p11 : o11 = mulO X Z) (p12 : o12 = addO (refo (outO o5)) (refo (outO o11))) (p14 : o14 = addO (refo (outO o1)) (refo (outO Y')))
    (n1 : o1.isNone = false) (n2 : o2.isNone = false) (n3 : o3.isNone = false) (n4 : o4.isNone = false) (n5 : o5.isNone = false) (n6 : o6.isNone = false) (n7 : o7.isNone = false) (n8 : o8.isNone = false) (n9 : o9.isNone = false) (n11 : o11.isNone = false) (n12 : o12.isNone = false) (n14 : o14.isNone = false) :
    outO o3 = outO o4 ∧ outO o6 = outO o8 ∧ outO o9 = outO o12 ∧ outO o14 = outO X := by
  obtain ⟨p, q, hp, hq, k1⟩ := addO_some (p1.symm.trans (some_of n1))
  obtain ⟨_, r, hq2, hr, k2⟩ := addO_some (p2.symm.trans (some_of n2))
  obtain rfl : q = _ := Option.some.inj (hq.symm.trans hq2)
  obtain ⟨ip, op⟩ := hX p hp
  obtain ⟨iq, oq⟩ := hY q hq
  obtain ⟨ir, or'⟩ := hZ r hr
  obtain ⟨q', hq', ⟨iq', oq'⟩, hzz⟩ := hY' q hq
  obtain ⟨i1, f1⟩ := addD_form k1 ip iq op oq
  obtain ⟨i2, f2⟩ := addD_form k2 iq ir oq or'
  have r1 : refo (outO o1) = some (outO o1) := form_self i1 f1
  have r2 : refo (outO o2) = some (outO o2) := form_self i2 f2
  rw [r1, hr] at p3
  rw [hp, r2] at p4
  rw [hp, hq] at p5
  have k3 : addD (outO o1) r = some (outO o3) := p3.symm.trans (some_of n3)
  have k4 : addD p (outO o2) = some (outO o4) := p4.symm.trans (some_of n4)
  have k5 : mulD p q = some (outO o5) := p5.symm.trans (some_of n5)
  obtain ⟨i5, f5⟩ := mulD_form k5
  have r5 : refo (outO o5) = some (outO o5) := form_self i5 f5
  rw [r5, hr] at p6
  have k6 : mulD (outO o5) r = some (outO o6) := p6.symm.trans (some_of n6)
  rw [hq, hr] at p7
  have k7 : mulD q r = some (outO o7) := p7.symm.trans (some_of n7)
  obtain ⟨i7, f7⟩ := mulD_form k7
  have r7 : refo (outO o7) = some (outO o7) := form_self i7 f7
  rw [hp, r7] at p8
  have k8 : mulD p (outO o7) = some (outO o8) := p8.symm.trans (some_of n8)
  rw [hp, r2] at p9
  have k9 : mulD p (outO o2) = some (outO o9) := p9.symm.trans (some_of n9)
  rw [hp, hr] at p11
  have k11 : mulD p r = some (outO o11) := p11.symm.trans (some_of n11)
  obtain ⟨i11, f11⟩ := mulD_form k11
  have r11 : refo (outO o11) = some (outO o11) := form_self i11 f11
  rw [r5, r11] at p12
  have k12 : addD (outO o5) (outO o11) = some (outO o12) := p12.symm.trans (some_of n12)
  have r13 : refo (outO Y') = some q' := by rw [hq']; exact form_self iq' oq'
  rw [r1, r13] at p14
  have k14 : addD (outO o1) q' = some (outO o14) := p14.symm.trans (some_of n14)
  obtain ⟨h1, h2, h3, h4⟩ := ring_law ip iq ir iq' hzz k1 k2 k3 k4 k5 k6 k7 k8 k9 k11 k12 k14
  exact ⟨h1, h2, h3, by rw [h4, hp]; rfl⟩
theorem form_both {s : Bool} {n : Nat} {e : Int} {d : D} (h : formF s n e = some d) : d.Is ∧ d.Ok := ⟨formF_is h, formF_ok h⟩
end Go.Proofs.YthdbapibbdkclaaDoor
namespace Go.Proofs.YthdbapibbdkclaaDoor
open Go.RowKit
set_option linter.unusedVariables false
set_option linter.unusedSimpArgs false

/-- the value of bits, in units of the least power; infinity comes right behind the greatest number -/
def fV (b : Nat) : Int := sgn (decide (9223372036854775808 ≤ b)) (numV 52 (b % 9223372036854775808))
def cmpZ (a b : Int) : Ordering := if a < b then .lt else if a = b then .eq else .gt
theorem cmpZ_lt {a b : Int} (h : a < b) : cmpZ a b = .lt := if_pos h
theorem cmpZ_gt {a b : Int} (h : b < a) : cmpZ a b = .gt := by unfold cmpZ; rw [if_neg (by omega), if_neg (by omega)]
theorem cmpZ_self (a : Int) : cmpZ a a = .eq := by unfold cmpZ; rw [if_neg (by omega), if_pos rfl]
theorem cmpZ_scale (a b : Int) {p : Nat} (hp : 0 < p) : cmpZ (a * (p : Int)) (b * (p : Int)) = cmpZ a b := by
  have h0 : (0 : Int) < (p : Int) := by omega
  have h1 : a * (p : Int) < b * (p : Int) ↔ a < b := Int.mul_lt_mul_right h0
  have h2 : a * (p : Int) = b * (p : Int) ↔ a = b := Int.mul_eq_mul_right_iff (by omega)
  unfold cmpZ
  simp only [h1, h2]
theorem compare_cmpZ (a b : Int) : compare a b = cmpZ a b := by
  unfold cmpZ
  show compareOfLessAndEq a b = _
  unfold compareOfLessAndEq
  rfl

theorem signed_sgn (s : Bool) (m u : Nat) : Ieee.signed s m u = sgn s (m * 2 ^ u) := by
  unfold Ieee.signed sgn
  rw [Nat.shiftLeft_eq]
theorem order_num (s t : Bool) (m n : Nat) (i j B : Int) (hi : B ≤ i) (hj : B ≤ j) : Ieee.Datum.order (.number s m i) (.number t n j) = some (cmpZ (sgn s (m * 2 ^ (i - B).toNat)) (sgn t (n * 2 ^ (j - B).toNat))) := by
  show some (compare (Ieee.signed s m (i - min i j).toNat) (Ieee.signed t n (j - min i j).toNat)) = _
  rw [signed_sgn, signed_sgn, compare_cmpZ, ← cmpZ_scale _ _ (Nat.two_pow_pos (min i j - B).toNat), ← sgn_mul, ← sgn_mul, Nat.mul_assoc, Nat.mul_assoc, ← Nat.pow_add, ← Nat.pow_add]
  rw [show (i - min i j).toNat + (min i j - B).toNat = (i - B).toNat by omega, show (j - min i j).toNat + (min i j - B).toNat = (j - B).toNat by omega]
theorem read_num {b : Nat} (hb : b < 18446744073709551616) (h : b % 9223372036854775808 < 9218868437227405312) : Ieee.double.read b = .number (decide (9223372036854775808 ≤ b)) (numM 52 (b % 9223372036854775808)) (-1074 + (numE 52 (b % 9223372036854775808) : Nat)) := by
  unfold Ieee.Format.read
  rw [show Ieee.double.signWeight = 9223372036854775808 from rfl, show Ieee.double.binade = 4503599627370496 from rfl, show Ieee.double.infRung = 9218868437227405312 from rfl, show Ieee.double.leastPlace = -1074 from rfl]
  have hs : (b / 9223372036854775808 % 2 == 1) = decide (9223372036854775808 ≤ b) := by
    by_cases h1 : 9223372036854775808 ≤ b
    · rw [decide_eq_true h1, show b / 9223372036854775808 % 2 = 1 by omega]; rfl
    · rw [decide_eq_false h1, show b / 9223372036854775808 % 2 = 0 by omega]; rfl
  dsimp only
  rw [hs]
  generalize b % 9223372036854775808 = k at *
  unfold numM numE
  rw [show (2 : Nat) ^ 52 = 4503599627370496 from rfl]
  by_cases h1 : k < 4503599627370496
  · rw [if_pos h1, if_pos (by omega), show k / 4503599627370496 - 1 = 0 by omega, Nat.mod_eq_of_lt h1]; rfl
  · rw [if_neg h1, if_pos h, if_neg (by omega)]
theorem read_inf {b : Nat} (hb : b < 18446744073709551616) (h : b % 9223372036854775808 = 9218868437227405312) : Ieee.double.read b = .infinity (decide (9223372036854775808 ≤ b)) := by
  unfold Ieee.Format.read
  rw [show Ieee.double.signWeight = 9223372036854775808 from rfl, show Ieee.double.binade = 4503599627370496 from rfl, show Ieee.double.infRung = 9218868437227405312 from rfl, show Ieee.double.leastPlace = -1074 from rfl]
  have hs : (b / 9223372036854775808 % 2 == 1) = decide (9223372036854775808 ≤ b) := by
    by_cases h1 : 9223372036854775808 ≤ b
    · rw [decide_eq_true h1, show b / 9223372036854775808 % 2 = 1 by omega]; rfl
    · rw [decide_eq_false h1, show b / 9223372036854775808 % 2 = 0 by omega]; rfl
  dsimp only
  rw [hs, h]
  rfl
theorem numV_pos (h : Nat) : ∀ {k : Nat}, 0 < k → numV h 0 < numV h k := fun hk => numV_lt hk
theorem numV_zero (h : Nat) : numV h 0 = 0 := by unfold numV numM; simp
/-- the floats' order is the order of the values -/
theorem order64 {a b : Nat} (ha : a < 18446744073709551616) (hb : b < 18446744073709551616) (ka : a % 9223372036854775808 ≤ 9218868437227405312) (kb : b % 9223372036854775808 ≤ 9218868437227405312) : FloatKind.f64.format.order a b = some (cmpZ (fV a) (fV b)) := by
  rw [show FloatKind.f64.format.order a b = (Ieee.double.read a).order (Ieee.double.read b) from rfl]
  have hx : ∀ {s t : Bool} {x y : Nat}, x < y → sgn t x < sgn false y ∧ sgn true y < sgn t x := by
    intro s t x y h; unfold sgn; cases t <;> simp <;> omega
  have p0 : 0 < numV 52 9218868437227405312 := by
    have := numV_pos 52 (k := 9218868437227405312) (by decide)
    omega
  rcases Nat.lt_or_eq_of_le ka with ka | ka <;> rcases Nat.lt_or_eq_of_le kb with kb | kb
  · rw [read_num ha ka, read_num hb kb, order_num _ _ _ _ _ _ (-1074) (by omega) (by omega)]
    unfold fV numV
    rw [show (-1074 + ((numE 52 (a % 9223372036854775808) : Nat) : Int) - -1074).toNat = numE 52 (a % 9223372036854775808) by omega, show (-1074 + ((numE 52 (b % 9223372036854775808) : Nat) : Int) - -1074).toNat = numE 52 (b % 9223372036854775808) by omega]
  · rw [read_num ha ka, read_inf hb kb]
    obtain ⟨h1, h2⟩ := hx (s := true) (t := decide (9223372036854775808 ≤ a)) (numV_lt (h := 52) (show a % 9223372036854775808 < 9218868437227405312 from ka))
    unfold fV
    rw [kb]
    show some (if decide (9223372036854775808 ≤ b) = true then Ordering.gt else Ordering.lt) = _
    cases decide (9223372036854775808 ≤ b)
    · rw [cmpZ_lt h1]; rfl
    · rw [cmpZ_gt h2]; rfl
  · rw [read_inf ha ka, read_num hb kb]
    obtain ⟨h1, h2⟩ := hx (s := true) (t := decide (9223372036854775808 ≤ b)) (numV_lt (h := 52) (show b % 9223372036854775808 < 9218868437227405312 from kb))
    unfold fV
    rw [ka]
    show some (if decide (9223372036854775808 ≤ a) = true then Ordering.lt else Ordering.gt) = _
    cases decide (9223372036854775808 ≤ a)
    · rw [cmpZ_gt h1]; rfl
    · rw [cmpZ_lt h2]; rfl
  · rw [read_inf ha ka, read_inf hb kb]
    unfold fV
    rw [ka, kb]
    show some (compare (decide (9223372036854775808 ≤ b)).toNat (decide (9223372036854775808 ≤ a)).toNat) = _
    generalize numV 52 9218868437227405312 = V at *
    cases decide (9223372036854775808 ≤ a) <;> cases decide (9223372036854775808 ≤ b)
    · rw [cmpZ_self]; rfl
    · rw [cmpZ_gt (by unfold sgn; simp; omega)]; rfl
    · rw [cmpZ_lt (by unfold sgn; simp; omega)]; rfl
    · rw [cmpZ_self]; rfl

theorem IsBelow.scale {h E c X k : Nat} (t : Nat) (H : IsBelow h E c X k) : IsBelow h E (c + t) (X * 2 ^ t) k := by
  have hp := Nat.two_pow_pos t
  refine ⟨H.lt, ?_, ?_⟩
  · rw [Nat.pow_add, ← Nat.mul_assoc]; exact Nat.mul_le_mul_right _ H.le
  · rcases H.nx with h1 | h1
    · exact .inl h1
    · right; rw [Nat.pow_add, ← Nat.mul_assoc]; exact (Nat.mul_lt_mul_right hp).2 h1
theorem nearK_scale (h c X : Nat) (mode : Int) (neg : Bool) (k t : Nat) : nearK h (c + t) (X * 2 ^ t) mode neg k = nearK h c X mode neg k := by
  have hp := Nat.two_pow_pos t
  have e1 : numV h k * 2 ^ (c + t) = numV h k * 2 ^ c * 2 ^ t := by rw [Nat.pow_add, Nat.mul_assoc]
  have e2 : (numV h k + numV h (k + 1)) * 2 ^ (c + t) = (numV h k + numV h (k + 1)) * 2 ^ c * 2 ^ t := by rw [Nat.pow_add, Nat.mul_assoc]
  have e3 : 2 * (X * 2 ^ t) = 2 * X * 2 ^ t := by rw [Nat.mul_assoc]
  unfold nearK
  rw [e1, e2, e3, cmpN_scale _ _ hp]
  have e4 : numV h k * 2 ^ c * 2 ^ t = X * 2 ^ t ↔ numV h k * 2 ^ c = X := ⟨fun h => Nat.eq_of_mul_eq_mul_right hp h, fun h => by rw [h]⟩
  by_cases h1 : numV h k * 2 ^ c = X
  · rw [if_pos h1, if_pos (e4.2 h1)]
  · rw [if_neg h1, if_neg (fun h => h1 (e4.1 h))]
/-- a form's size in units of 2^B -/
def D.x (d : D) (B : Int) : Nat := d.m * 2 ^ (d.exp - B).toNat
theorem z_x (d : D) (B : Int) : d.z B = sgn d.neg (d.x B) := by unfold D.z D.x; rw [sgn_mul]
theorem rounds_B {h : Nat} {L : Int} {E : Nat} {d : D} {mode : Int} {r : Nat} (B : Int) (H : Rounds h L E d mode r) (hB : B ≤ d.exp) (hL : B ≤ L) : ∃ k, IsBelow h E (L - B).toNat (d.x B) k ∧ r = nearK h (L - B).toNat (d.x B) mode d.neg k := by
  obtain ⟨k, h1, rfl⟩ := H
  have e1 : (L - B).toNat = sc L d.exp + (min L d.exp - B).toNat := by unfold sc; omega
  have e2 : d.x B = sx L d.m d.exp * 2 ^ (min L d.exp - B).toNat := by
    unfold D.x sx; rw [Nat.mul_assoc, ← Nat.pow_add]; congr 2; omega
  refine ⟨k, ?_, ?_⟩
  · rw [e1, e2]; exact h1.scale _
  · rw [e1, e2, nearK_scale]

theorem nearK_or (h c X : Nat) (mode : Int) (neg : Bool) (k : Nat) : nearK h c X mode neg k = k ∨ nearK h c X mode neg k = k + 1 ∧ numV h k * 2 ^ c ≠ X ∧ onK mode neg k (cmpN (2 * X) ((numV h k + numV h (k + 1)) * 2 ^ c)) = true := by
  unfold nearK; split
  · exact .inl rfl
  · next h1 =>
    split
    · next h2 => exact .inr ⟨rfl, h1, h2⟩
    · exact .inl rfl
theorem cmpN_mono {a b c : Nat} (h : a ≤ b) : cmpN a c ≤ cmpN b c := by unfold cmpN; repeat' split <;> omega
theorem onK_mono {mode : Int} {neg : Bool} {k : Nat} {g g' : Int} (h : g ≤ g') (hg : onK mode neg k g = true) : onK mode neg k g' = true := by
  unfold onK at hg ⊢
  by_cases h0 : mode = 0
  · rw [if_pos h0] at hg ⊢
    simp only [Bool.or_eq_true, Bool.and_eq_true, decide_eq_true_eq] at hg ⊢
    omega
  · rw [if_neg h0] at hg ⊢
    by_cases h2 : mode = 2
    · rw [if_pos h2] at hg ⊢; exact hg
    · rw [if_neg h2] at hg ⊢
      by_cases h3 : mode = 3
      · rw [if_pos h3] at hg ⊢; exact hg
      · rw [if_neg h3] at hg ⊢
        by_cases h4 : mode = 4
        · rw [if_pos h4, decide_eq_true_eq] at hg ⊢; omega
        · rw [if_neg h4] at hg ⊢; exact hg
theorem near_mono {h E c X Y k j : Nat} {mode : Int} {neg : Bool} (a : IsBelow h E c X k) (b : IsBelow h E c Y j) (hxy : X ≤ Y) : nearK h c X mode neg k ≤ nearK h c Y mode neg j := by
  have hp := Nat.two_pow_pos c
  have hkj : k ≤ j := by
    rcases Nat.lt_or_ge j k with h1 | h1
    · rcases b.nx with h2 | h2
      · have := a.lt; omega
      · have h3 : numV h (j + 1) * 2 ^ c ≤ numV h k * 2 ^ c := Nat.mul_le_mul_right _ (numV_le h1)
        have := a.le; omega
    · exact h1
  rcases Nat.lt_or_eq_of_le hkj with h1 | rfl
  · rcases nearK_or h c X mode neg k with h2 | ⟨h2, _⟩ <;> rcases nearK_or h c Y mode neg j with h3 | ⟨h3, _⟩ <;> omega
  · rcases nearK_or h c X mode neg k with h2 | ⟨h2, h3, h4⟩
    · rcases nearK_or h c Y mode neg k with h5 | ⟨h5, _⟩ <;> omega
    · have h6 : numV h k * 2 ^ c ≠ Y := by have := a.le; omega
      have h7 := onK_mono (cmpN_mono (c := (numV h k + numV h (k + 1)) * 2 ^ c) (show 2 * X ≤ 2 * Y by omega)) h4
      have h8 : nearK h c Y mode neg k = k + 1 := by unfold nearK; rw [if_neg h6, if_pos h7]
      omega
theorem near_exact {h E c j k : Nat} {mode : Int} {neg : Bool} (a : IsBelow h E c (numV h j * 2 ^ c) k) (hj : j < E) : nearK h c (numV h j * 2 ^ c) mode neg k = j := by
  have hp := Nat.two_pow_pos c
  have : IsBelow h E c (numV h j * 2 ^ c) j := ⟨hj, Nat.le_refl _, .inr ((Nat.mul_lt_mul_right hp).2 (numV_lt (by omega)))⟩
  rw [a.uniq this]
  unfold nearK; rw [if_pos rfl]
end Go.Proofs.YthdbapibbdkclaaDoor
namespace Go.Proofs.YthdbapibbdkclaaDoor
open Go.RowKit
set_option linter.unusedVariables false
set_option linter.unusedSimpArgs false

theorem fV_at {neg : Bool} {j r : Nat} (hj : j ≤ 9218868437227405312) (hr : r = j + (if neg = true then 9223372036854775808 else 0)) : fV r = sgn neg (numV 52 j) ∧ r < 18446744073709551616 ∧ r % 9223372036854775808 = j := by
  subst hr
  unfold fV
  cases neg
  · simp only [Bool.false_eq_true, if_false, Nat.add_zero]
    rw [decide_eq_false (by omega), Nat.mod_eq_of_lt (by omega)]
    exact ⟨rfl, by omega, rfl⟩
  · simp only [if_true]
    rw [decide_eq_true (by omega), show (j + 9223372036854775808) % 9223372036854775808 = j by omega]
    exact ⟨rfl, by omega, rfl⟩
/-- what a rounding says, in units of 2^B -/
structure Lies (B mode : Int) (d : D) (r k j : Nat) : Prop where
  below : IsBelow 52 9218868437227405312 (-1074 - B).toNat (d.x B) k
  near : j = nearK 52 (-1074 - B).toNat (d.x B) mode d.neg k
  le : j ≤ 9218868437227405312
  val : fV r = sgn d.neg (numV 52 j)
  lt : r < 18446744073709551616
  mod : r % 9223372036854775808 = j
  bits : r = j + (if d.neg = true then 9223372036854775808 else 0)
theorem lies_of {mode : Int} {d : D} {r : Nat} {er : Int} (B : Int) (h0 : 0 ≤ mode) (h4 : mode ≤ 4) (hB : B ≤ d.exp) (hL : B ≤ -1074) (H : RoundsTo 52 (-1074) 9218868437227405312 9223372036854775808 mode (some d) r er) : er = 0 ∧ ∃ k j, Lies B mode d r k j := by
  rcases H with ⟨h1, _⟩ | ⟨_, ⟨h1, _⟩ | ⟨d', j, h1, h2, h3, h5⟩⟩
  · omega
  · cases h1
  · cases h1
    obtain ⟨k, h6, h7⟩ := rounds_B B h2 hB hL
    have h8 := h2.le
    obtain ⟨h9, h10, h11⟩ := fV_at h8 h3
    exact ⟨h5, k, j, h6, h7, h8, h9, h10, h11, h3⟩
theorem sgn_le {s t : Bool} {a b : Nat} (h1 : s = false → t = false → a ≤ b) (h2 : s = true → t = true → b ≤ a) (h3 : s = false → t = true → a = 0 ∧ b = 0) : sgn s a ≤ sgn t b := by
  unfold sgn
  cases s <;> cases t
  · have := h1 rfl rfl; simp; omega
  · obtain ⟨h4, h5⟩ := h3 rfl rfl; simp [h4, h5]
  · simp <;> omega
  · have := h2 rfl rfl; simp; omega
theorem near_zero {E c k : Nat} {mode : Int} {neg : Bool} (a : IsBelow 52 E c 0 k) (hE : 0 < E) : nearK 52 c 0 mode neg k = 0 := by
  have h : (0 : Nat) = numV 52 0 * 2 ^ c := by rw [numV_zero, Nat.zero_mul]
  rw [h] at a
  have := near_exact (mode := mode) (neg := neg) a hE
  rw [numV_zero, Nat.zero_mul] at this
  exact this
theorem lies_mono {B mode : Int} {d d' : D} {r k j r' k' j' : Nat} (a : Lies B mode d r k j) (b : Lies B mode d' r' k' j') (h : d.z B ≤ d'.z B) : fV r ≤ fV r' := by
  rw [a.val, b.val]
  rw [z_x, z_x] at h
  have e1 := a.below
  have e2 := b.below
  have n1 := a.near
  have n2 := b.near
  generalize d.x B = X at *
  generalize d'.x B = Y at *
  generalize d.neg = s at *
  generalize d'.neg = t at *
  refine sgn_le ?_ ?_ ?_
  · rintro rfl rfl
    rw [n1, n2]
    exact numV_le (near_mono e1 e2 (by unfold sgn at h; simpa using h))
  · rintro rfl rfl
    rw [n1, n2]
    exact numV_le (near_mono e2 e1 (by unfold sgn at h; simp at h; omega))
  · rintro rfl rfl
    have h1 : X = 0 ∧ Y = 0 := by unfold sgn at h; simp at h; omega
    obtain ⟨rfl, rfl⟩ := h1
    rw [near_zero e1 (by decide)] at n1
    rw [near_zero e2 (by decide)] at n2
    rw [n1, n2, numV_zero]; exact ⟨rfl, rfl⟩
theorem lies_same {B mode mode' : Int} {d : D} {r k j r' k' j' : Nat} (a : Lies B mode d r k j) (b : Lies B mode' d r' k' j') (h : ∀ i g, onK mode d.neg i g = onK mode' d.neg i g) : r = r' := by
  rw [a.bits, b.bits, a.near, b.near, a.below.uniq b.below]
  unfold nearK
  simp only [h]
theorem ofF_z {b : Nat} {q : D} (B : Int) (hL : B ≤ -1074) (hb : b < 18446744073709551616) (h : ofF b = some q) : b % 9223372036854775808 < 9218868437227405312 ∧ B ≤ q.exp ∧ q.z B = sgn (decide (9223372036854775808 ≤ b)) (numV 52 (b % 9223372036854775808) * 2 ^ (-1074 - B).toNat) := by
  unfold ofF bitsF at h
  split at h
  · cases h
  · next h1 =>
    obtain ⟨h2, h3⟩ := z_form h (show B ≤ -1074 + (numE 52 (b % 9223372036854775808) : Nat) by omega) (by omega)
    refine ⟨by omega, h3, ?_⟩
    rw [h2, ← sgn_mul]
    unfold numV
    rw [Nat.mul_assoc, ← Nat.pow_add]
    congr 3
    omega
theorem numV_mul_le {a b : Nat} (c : Nat) (h : a ≤ b) : numV 52 a * 2 ^ c ≤ numV 52 b * 2 ^ c := Nat.mul_le_mul_right _ (numV_le h)
/-- on which sides the one below and the one above lie -/
theorem lies_side {B mode : Int} {d : D} {r k j : Nat} {q : D} (a : Lies B mode d r k j) (hL : B ≤ -1074) (hq : ofF r = some q) :
    ((∀ i g, onK mode d.neg i g = d.neg) → q.z B ≤ d.z B) ∧ ((∀ i g, onK mode d.neg i g = !d.neg) → d.z B ≤ q.z B) := by
  obtain ⟨h1, _, h2⟩ := ofF_z B hL a.lt hq
  have hz : q.z B = sgn d.neg (numV 52 j * 2 ^ (-1074 - B).toNat) := by
    rw [sgn_mul, ← a.val, h2, sgn_mul]; rfl
  rw [hz, z_x]
  have e1 := a.below
  have n1 := a.near
  have hj : j < 9218868437227405312 := by rw [← a.mod]; exact h1
  clear hz h2 h1 hq a
  generalize (-1074 - B).toNat = C at *
  generalize d.x B = X at *
  generalize d.neg = s at *
  have hd : j = k → numV 52 j * 2 ^ C ≤ X := fun h => by rw [h]; exact e1.le
  have hu : j = k + 1 → X ≤ numV 52 j * 2 ^ C := fun h => by
    rcases e1.nx with h2 | h2
    · omega
    · rw [h]; omega
  have hk : (∀ i g, onK mode s i g = false) → numV 52 j * 2 ^ C ≤ X := fun h => by
    rcases nearK_or 52 C X mode s k with h2 | ⟨_, _, h2⟩
    · exact hd (n1.trans h2)
    · rw [h] at h2; cases h2
  have hl : (∀ i g, onK mode s i g = true) → X ≤ numV 52 j * 2 ^ C := fun h => by
    by_cases h1 : numV 52 k * 2 ^ C = X
    · have : j = k := by rw [n1]; unfold nearK; rw [if_pos h1]
      rw [this, h1]; exact Nat.le_refl _
    · exact hu (by rw [n1]; unfold nearK; rw [if_neg h1, h, if_pos rfl])
  generalize numV 52 j * 2 ^ C = Y at *
  cases s
  · refine ⟨fun h => ?_, fun h => ?_⟩
    · have := hk h; unfold sgn; simp; omega
    · have := hl h; unfold sgn; simp; omega
  · refine ⟨fun h => ?_, fun h => ?_⟩
    · have := hl h; unfold sgn; simp; omega
    · have := hk h; unfold sgn; simp; omega
theorem cmpN_lt0 {a b : Nat} : cmpN a b < 0 ↔ a < b := by unfold cmpN; repeat' split <;> omega
theorem cmpN_gt0 {a b : Nat} : 0 < cmpN a b ↔ b < a := by unfold cmpN; repeat' split <;> omega
/-- none lies nearer -/
theorem lies_nearest {B mode : Int} {d p q : D} {r k j z : Nat} (a : Lies B mode d r k j) (hL : B ≤ -1074) (hm : mode = 0 ∨ mode = 4) (hz : z < 18446744073709551616) (hq : ofF r = some q) (hp : ofF z = some p) :
    (q.z B - d.z B).natAbs ≤ (p.z B - d.z B).natAbs := by
  obtain ⟨h1, _, h2⟩ := ofF_z B hL a.lt hq
  obtain ⟨h3, _, h4⟩ := ofF_z B hL hz hp
  have hzq : q.z B = sgn d.neg (numV 52 j * 2 ^ (-1074 - B).toNat) := by
    rw [sgn_mul, ← a.val, h2, sgn_mul]; rfl
  rw [hzq, z_x, h4]
  have e1 := a.below
  have n1 := a.near
  have hj : j < 9218868437227405312 := by rw [← a.mod]; exact h1
  clear hzq h4 h2 h1 hq hp a
  generalize z % 9223372036854775808 = i at *
  generalize decide (9223372036854775808 ≤ z) = t
  generalize (-1074 - B).toNat = C at *
  generalize d.x B = X at *
  generalize d.neg = s at *
  have c1 : i ≤ k → numV 52 i * 2 ^ C ≤ numV 52 k * 2 ^ C := numV_mul_le C
  have c2 : k + 1 ≤ i → numV 52 (k + 1) * 2 ^ C ≤ numV 52 i * 2 ^ C := numV_mul_le C
  have hle := e1.le
  have hnx := e1.nx
  have hmid : (numV 52 k + numV 52 (k + 1)) * 2 ^ C = numV 52 k * 2 ^ C + numV 52 (k + 1) * 2 ^ C := Nat.add_mul _ _ _
  have key : j = k ∧ (k + 1 = 9218868437227405312 ∨ 2 * X ≤ numV 52 k * 2 ^ C + numV 52 (k + 1) * 2 ^ C) ∨ j = k + 1 ∧ numV 52 k * 2 ^ C + numV 52 (k + 1) * 2 ^ C ≤ 2 * X := by
    rw [← hmid]
    unfold nearK at n1
    have hk1 : numV 52 k * 2 ^ C < numV 52 (k + 1) * 2 ^ C := (Nat.mul_lt_mul_right (Nat.two_pow_pos C)).2 (numV_lt (by omega))
    split at n1
    · next h => exact .inl ⟨n1, .inr (by rw [hmid]; omega)⟩
    · split at n1
      · next h =>
        refine .inr ⟨n1, ?_⟩
        unfold onK at h
        rcases hm with rfl | rfl
        · simp only [if_true, Bool.or_eq_true, Bool.and_eq_true, decide_eq_true_eq] at h
          rcases h with h | ⟨h, _⟩
          · have := cmpN_gt0.1 h; omega
          · have := cmpN_zero.1 h; omega
        · rw [if_neg (by decide), if_neg (by decide), if_neg (by decide), if_pos rfl, decide_eq_true_eq] at h
          rcases Nat.lt_or_ge (2 * X) ((numV 52 k + numV 52 (k + 1)) * 2 ^ C) with h5 | h5
          · have := cmpN_lt0.2 h5; omega
          · exact h5
      · next h =>
        refine .inl ⟨n1, .inr ?_⟩
        rcases Nat.lt_or_ge ((numV 52 k + numV 52 (k + 1)) * 2 ^ C) (2 * X) with h5 | h5
        · exfalso; apply h
          have := cmpN_gt0.2 h5
          unfold onK
          rcases hm with rfl | rfl
          · rw [if_pos rfl]; simp only [Bool.or_eq_true, decide_eq_true_eq]; exact .inl this
          · rw [if_neg (by decide), if_neg (by decide), if_neg (by decide), if_pos rfl, decide_eq_true_eq]; omega
        · exact h5
  clear n1 hmid e1
  rcases key with ⟨rfl, h5⟩ | ⟨rfl, h5⟩
  · generalize numV 52 j * 2 ^ C = a0 at *
    generalize numV 52 (j + 1) * 2 ^ C = a1 at *
    generalize numV 52 i * 2 ^ C = y at *
    have hy : y ≤ a0 ∨ a1 ≤ y ∧ 2 * X ≤ a0 + a1 := by
      rcases Nat.lt_or_ge j i with h6 | h6
      · rcases h5 with h5 | h5
        · omega
        · exact .inr ⟨c2 h6, h5⟩
      · exact .inl (c1 h6)
    unfold sgn
    cases s <;> cases t <;> simp <;> omega
  · have hk1 : numV 52 k * 2 ^ C ≤ numV 52 (k + 1) * 2 ^ C := numV_mul_le C (by omega)
    generalize numV 52 k * 2 ^ C = a0 at *
    generalize numV 52 (k + 1) * 2 ^ C = a1 at *
    generalize numV 52 i * 2 ^ C = y at *
    have hx : X < a1 := by rcases hnx with h6 | h6; omega; exact h6
    have hy : y ≤ a0 ∨ a1 ≤ y := by
      rcases Nat.lt_or_ge k i with h6 | h6
      · exact .inr (c2 h6)
      · exact .inl (c1 h6)
    unfold sgn
    cases s <;> cases t <;> simp <;> omega
/-- a number's own value comes back -/
theorem lies_own {B mode : Int} {q : D} {r k j z : Nat} (a : Lies B mode q r k j) (hL : B ≤ -1074) (hz : z < 18446744073709551616) (hq : ofF z = some q) : fV r = fV z := by
  obtain ⟨h1, _, h2⟩ := ofF_z B hL hz hq
  rw [a.val]
  unfold fV
  rw [z_x] at h2
  have e1 := a.below
  have n1 := a.near
  clear a hq
  generalize z % 9223372036854775808 = i at *
  generalize decide (9223372036854775808 ≤ z) = t at *
  generalize q.neg = s at *
  generalize q.x B = X at *
  generalize (-1074 - B).toNat = C at *
  have hX : X = numV 52 i * 2 ^ C ∧ (X = 0 ∨ s = t) := by
    generalize numV 52 i * 2 ^ C = Y at *
    unfold sgn at h2
    cases s <;> cases t <;> simp at h2 ⊢ <;> omega
  obtain ⟨rfl, h3⟩ := hX
  rw [near_exact e1 h1] at n1
  rw [n1]
  rcases h3 with h3 | rfl
  · have : numV 52 i = 0 := by
      rcases Nat.mul_eq_zero.1 h3 with h | h
      · exact h
      · have := Nat.two_pow_pos C; omega
    rw [this, sgn_zero, sgn_zero]
  · rfl
end Go.Proofs.YthdbapibbdkclaaDoor
namespace Go.Proofs.YthdbapibbdkclaaDoor
open Go.RowKit
set_option linter.unusedVariables false
set_option linter.unusedSimpArgs false

def signD (d : D) : Int := if d.m = 0 then 0 else if d.neg = true then -1 else 1
def absD (d : D) : D := if signD d < 0 then outO (formF (!d.neg) d.m d.exp) else d
theorem absD_z {d : D} {B : Int} (hi : d.Is) (ok : d.Ok) (hB : B ≤ d.exp) (h0 : B ≤ 0) : (absD d).Is ∧ (absD d).Ok ∧ B ≤ (absD d).exp ∧ (absD d).z B = ((d.z B).natAbs : Int) := by
  obtain ⟨k1, k2, k3⟩ := z_sign (d := d) hB
  have hs : signD d = (if d.m = 0 then (0 : Int) else if d.neg = true then -1 else 1) := rfl
  rw [← hs] at k1 k2 k3
  unfold absD
  rcases Int.lt_trichotomy (d.z B) 0 with h | h | h
  · rw [k1 h, if_pos (by decide)]
    obtain ⟨q, h1, h2⟩ := neg_form (form_self hi ok)
    rw [h1]
    have h3 : B ≤ q.exp := (z_form h1 hB h0).2
    have h4 := h2 B hB h3
    refine ⟨formF_is h1, formF_ok h1, h3, ?_⟩
    show q.z B = _
    rw [h4]; omega
  · rw [k2 h, if_neg (by decide)]
    exact ⟨hi, ok, hB, by omega⟩
  · rw [k3 h, if_neg (by decide)]
    exact ⟨hi, ok, hB, by omega⟩
theorem absD_ok {d : D} (hi : d.Is) (ok : d.Ok) : (absD d).Ok := (absD_z (B := min d.exp 0) hi ok (by omega) (by omega)).2.1
/-- how far bits lie from a form -/
def gapO (b : Nat) (x : Option D) : Option D := addO (refo (outO (ofF b))) x
theorem outO_ok {o : Option D} (h : ∀ d, o = some d → d.Ok) : (outO o).Ok := by
  cases o with
  | none => exact D.zero_ok
  | some d => exact h d rfl
theorem addO_okk {p q : Option D} (hp : ∀ d, p = some d → d.Is ∧ d.Ok) (hq : ∀ d, q = some d → d.Is ∧ d.Ok) : (outO (addO p q)).Is ∧ (outO (addO p q)).Ok := by
  cases h : addO p q with
  | none => exact ⟨.inl rfl, D.zero_ok⟩
  | some d =>
    obtain ⟨p', q', rfl, rfl, h3⟩ := addO_some h
    exact addD_form h3 (hp _ rfl).1 (hq _ rfl).1 (hp _ rfl).2 (hq _ rfl).2

end Go.Proofs.YthdbapibbdkclaaDoor
namespace Go.Proofs.YthdbapibbdkclaaDoor
open Go.RowKit
set_option linter.unusedVariables false
set_option linter.unusedSimpArgs false

theorem below_exists (h E c X : Nat) : ∀ n, 0 < n → ∃ k, k < n ∧ numV h k * 2 ^ c ≤ X ∧ (k + 1 = n ∨ X < numV h (k + 1) * 2 ^ c) := by
  intro n
  induction n with
  | zero => intro h0; omega
  | succ n ih =>
    intro _
    rcases Nat.eq_zero_or_pos n with rfl | hn
    · exact ⟨0, by omega, by rw [numV_zero, Nat.zero_mul]; exact Nat.zero_le _, .inl rfl⟩
    · obtain ⟨k, h1, h2, h3⟩ := ih hn
      rcases h3 with h3 | h3
      · subst h3
        rcases Nat.lt_or_ge X (numV h (k + 1) * 2 ^ c) with h4 | h4
        · exact ⟨k, by omega, h2, .inr h4⟩
        · exact ⟨k + 1, by omega, h4, .inl rfl⟩
      · exact ⟨k, by omega, h2, .inr h3⟩
theorem rounds_exists {h : Nat} {L : Int} {E S : Nat} (hE : 0 < E) (d : D) {mode : Int} (h0 : 0 ≤ mode) (h4 : mode ≤ 4) : ∃ r, RoundsTo h L E S mode (some d) r 0 := by
  obtain ⟨k, h1, h2, h3⟩ := below_exists h E (sc L d.exp) (sx L d.m d.exp) E hE
  exact ⟨_, .inr ⟨⟨h0, h4⟩, .inr ⟨d, _, rfl, ⟨k, ⟨h1, h2, h3⟩, rfl⟩, rfl, rfl⟩⟩⟩
abbrev R64 (mode : Int) (d : D) (r : Nat) : Prop := RoundsTo 52 (-1074) 9218868437227405312 9223372036854775808 mode (some d) r 0
theorem round_letters (d : D) : ∃ X : Nat → Nat, ∀ k : Nat, k ≤ 4 → R64 (k : Int) d (X k) := by
  have : ∀ k : Nat, ∃ r, k ≤ 4 → R64 (k : Int) d r := by
    intro k
    by_cases hk : k ≤ 4
    · obtain ⟨r, hr⟩ := rounds_exists (h := 52) (L := -1074) (E := 9218868437227405312) (S := 9223372036854775808) (by decide) d (mode := (k : Int)) (by omega) (by omega)
      exact ⟨r, fun _ => hr⟩
    · exact ⟨0, fun h => absurd h hk⟩
  exact Classical.axiomOfChoice this
theorem r64_fits {mode : Int} {d : D} {r : Nat} (h0 : 0 ≤ mode) (h4 : mode ≤ 4) (H : R64 mode d r) : r < 18446744073709551616 ∧ r % 9223372036854775808 ≤ 9218868437227405312 := by
  obtain ⟨_, k, j, h⟩ := lies_of (min d.exp (-1074)) h0 h4 (by omega) (by omega) H
  exact ⟨h.lt, by rw [h.mod]; exact h.le⟩
/-- forms in order -/
theorem cmpA_le {d n : D} {a a' : Option Addr} {c c' : Nat} {B : Int} (hd : B ≤ d.exp) (hn : B ≤ n.exp) : (cmpA (argOf d a c) (argOf n a' c') ≤ 0 ↔ d.z B ≤ n.z B) ∧ (0 ≤ cmpA (argOf d a c) (argOf n a' c') ↔ n.z B ≤ d.z B) := by
  obtain ⟨h1, h2, h3⟩ := cmpA_z (argOf d a c) (argOf n a' c') B hd hn
  have e1 : sgn (argOf d a c).s (num (argOf d a c).l * 2 ^ ((argOf d a c).e - B).toNat) = d.z B := by unfold argOf D.z; dsimp only; rw [num_words, sgn_mul]
  have e2 : sgn (argOf n a' c').s (num (argOf n a' c').l * 2 ^ ((argOf n a' c').e - B).toNat) = n.z B := by unfold argOf D.z; dsimp only; rw [num_words, sgn_mul]
  rw [e1, e2] at h1 h2 h3
  rcases Int.lt_trichotomy (d.z B) (n.z B) with h | h | h
  · rw [h1 (by omega)]; constructor <;> constructor <;> intro _ <;> omega
  · rw [h2 (by omega)]; constructor <;> constructor <;> intro _ <;> omega
  · rw [h3 (by omega)]; constructor <;> constructor <;> intro _ <;> omega
theorem r64_mono {mode : Int} {d n : D} {r t : Nat} {a a' : Option Addr} {c c' : Nat} (h0 : 0 ≤ mode) (h4 : mode ≤ 4) (H : R64 mode d r) (K : R64 mode n t) :
    (cmpA (argOf d a c) (argOf n a' c') ≤ 0 → fV r ≤ fV t) ∧ (0 ≤ cmpA (argOf d a c) (argOf n a' c') → fV t ≤ fV r) := by
  obtain ⟨B, hB1, hB2, hB3⟩ : ∃ B : Int, B ≤ d.exp ∧ B ≤ n.exp ∧ B ≤ -1074 := ⟨min (min d.exp n.exp) (-1074), by omega, by omega, by omega⟩
  obtain ⟨_, k, j, h⟩ := lies_of B h0 h4 hB1 hB3 H
  obtain ⟨_, k', j', h'⟩ := lies_of B h0 h4 hB2 hB3 K
  obtain ⟨e1, e2⟩ := cmpA_le (a := a) (a' := a') (c := c) (c' := c') hB1 hB2
  exact ⟨fun hc => lies_mono h h' (e1.1 hc), fun hc => lies_mono h' h (e2.1 hc)⟩
/-- Zero is Down or Up -/
theorem r64_zero {d : D} {x1 x2 x3 : Nat} (h1 : R64 1 d x1) (h2 : R64 2 d x2) (h3 : R64 3 d x3) : (d.neg = false → x1 = x3) ∧ (d.neg = true → x1 = x2) := by
  obtain ⟨B, hB1, hB3⟩ : ∃ B : Int, B ≤ d.exp ∧ B ≤ -1074 := ⟨min d.exp (-1074), by omega, by omega⟩
  obtain ⟨_, _, _, l1⟩ := lies_of B (by decide) (by decide) hB1 hB3 h1
  obtain ⟨_, _, _, l2⟩ := lies_of B (by decide) (by decide) hB1 hB3 h2
  obtain ⟨_, _, _, l3⟩ := lies_of B (by decide) (by decide) hB1 hB3 h3
  constructor
  · intro hn
    refine lies_same l1 l3 ?_
    rw [hn]; intro i g; rfl
  · intro hn
    refine lies_same l1 l2 ?_
    rw [hn]; intro i g; rfl
/-- Down does not lie above, Up not below -/
theorem r64_down {d q : D} {x : Nat} {a a' : Option Addr} {c c' : Nat} (h : R64 3 d x) (hq : ofF x = some q) : cmpA (argOf q a c) (argOf d a' c') ≤ 0 := by
  obtain ⟨B, hB1, hB2, hB3⟩ : ∃ B : Int, B ≤ d.exp ∧ B ≤ q.exp ∧ B ≤ -1074 := ⟨min (min d.exp q.exp) (-1074), by omega, by omega, by omega⟩
  obtain ⟨_, _, _, l⟩ := lies_of B (by decide) (by decide) hB1 hB3 h
  refine ((cmpA_le hB2 hB1).1).2 ((lies_side l hB3 hq).1 ?_)
  intro i g; rfl
theorem r64_up {d q : D} {x : Nat} {a a' : Option Addr} {c c' : Nat} (h : R64 2 d x) (hq : ofF x = some q) : 0 ≤ cmpA (argOf q a c) (argOf d a' c') := by
  obtain ⟨B, hB1, hB2, hB3⟩ : ∃ B : Int, B ≤ d.exp ∧ B ≤ q.exp ∧ B ≤ -1074 := ⟨min (min d.exp q.exp) (-1074), by omega, by omega, by omega⟩
  obtain ⟨_, _, _, l⟩ := lies_of B (by decide) (by decide) hB1 hB3 h
  refine ((cmpA_le hB2 hB1).2).2 ((lies_side l hB3 hq).2 ?_)
  intro i g; rfl
/-- gaps -/
theorem gap_z {b : Nat} {d p g : D} {a : Option Addr} {c : Nat} {B : Int} (hi : d.Is) (ok : d.Ok) (hp : ofF b = some p) (hg : gapO b (argOf d a c).opp.F = some g) (hB1 : B ≤ d.exp) (hB2 : B ≤ p.exp) (hB0 : B ≤ 0) :
    (absD g).Is ∧ (absD g).Ok ∧ B ≤ (absD g).exp ∧ (absD g).z B = ((p.z B - d.z B).natAbs : Int) := by
  unfold gapO at hg
  obtain ⟨p', q', h1, h2, h3⟩ := addO_some hg
  rw [hp] at h1
  have hpf : p' = p := by
    have : refo (outO (some p)) = some p := by
      unfold refo outO
      exact form_self (form_both (show formF _ _ _ = some p from by unfold ofF bitsF at hp; split at hp; cases hp; exact hp)).1 (form_both (show formF _ _ _ = some p from by unfold ofF bitsF at hp; split at hp; cases hp; exact hp)).2
    rw [this] at h1
    cases h1; rfl
  subst hpf
  obtain ⟨q, hq, hqz⟩ := neg_form (form_self hi ok)
  have e : (argOf d a c).opp.F = formF (!d.neg) d.m d.exp := by unfold Arg.opp Arg.F argOf; dsimp only; rw [num_words]
  rw [e, hq] at h2
  have e2 : q' = q := (Option.some.inj h2).symm
  rw [e2] at h3
  have hqe : B ≤ q.exp := (z_form hq hB1 hB0).2
  obtain ⟨h4, h5⟩ := z_add h3 hB2 hqe hB0
  obtain ⟨h6, h7⟩ := addD_form h3 (form_both (show formF _ _ _ = some p' from by unfold ofF bitsF at hp; split at hp; cases hp; exact hp)).1 (form_both hq).1 (form_both (show formF _ _ _ = some p' from by unfold ofF bitsF at hp; split at hp; cases hp; exact hp)).2 (form_both hq).2
  obtain ⟨h8, h9, h10, h11⟩ := absD_z h6 h7 h5 hB0
  refine ⟨h8, h9, h10, ?_⟩
  rw [h11, h4, hqz B hB1 hqe, ← Int.sub_eq_add_neg]
/-- no number lies nearer than Even and Away -/
theorem r64_near {mode : Int} {d p q g h : D} {x z : Nat} {a a1 a2 a3 : Option Addr} {c c1 c2 c3 : Nat} (hi : d.Is) (ok : d.Ok) (hm : mode = 0 ∨ mode = 4) (hz : z < 18446744073709551616) (H : R64 mode d x) (hq : ofF x = some q) (hp : ofF z = some p)
    (hg : gapO z (argOf d a c).opp.F = some g) (hh : gapO x (argOf d a1 c1).opp.F = some h) : 0 ≤ cmpA (argOf (absD g) a2 c2) (argOf (absD h) a3 c3) := by
  obtain ⟨B, hB1, hB2, hB3, hB4⟩ : ∃ B : Int, B ≤ d.exp ∧ B ≤ q.exp ∧ B ≤ p.exp ∧ B ≤ -1074 := ⟨min (min (min d.exp q.exp) p.exp) (-1074), by omega, by omega, by omega, by omega⟩
  obtain ⟨_, _, _, l⟩ := lies_of B (by omega) (by omega) hB1 hB4 H
  have hn := lies_nearest l hB4 hm hz hq hp
  obtain ⟨_, _, g1, g2⟩ := gap_z hi ok hp hg hB1 hB3 (by omega)
  obtain ⟨_, _, h1, h2⟩ := gap_z hi ok hq hh hB1 hB2 (by omega)
  refine ((cmpA_le g1 h1).2).2 ?_
  rw [g2, h2]; omega
/-- a number's own value -/
theorem r64_own {mode : Int} {q : D} {z r : Nat} {er : Int} (h0 : 0 ≤ mode) (h4 : mode ≤ 4) (hz : z < 18446744073709551616) (hq : ofF z = some q) (H : RoundsTo 52 (-1074) 9218868437227405312 9223372036854775808 mode (some q) r er) : er = 0 ∧ fV r = fV z ∧ r < 18446744073709551616 ∧ r % 9223372036854775808 ≤ 9218868437227405312 := by
  obtain ⟨B, hB1, hB3⟩ : ∃ B : Int, B ≤ q.exp ∧ B ≤ -1074 := ⟨min q.exp (-1074), by omega, by omega⟩
  obtain ⟨he, _, _, l⟩ := lies_of B h0 h4 hB1 hB3 H
  exact ⟨he, lies_own l hB3 hz hq, l.lt, by rw [l.mod]; exact l.le⟩

theorem run_gtr64 {a b : Nat} (W : World) (ha : a < 18446744073709551616) (hb : b < 18446744073709551616) (ka : a % 9223372036854775808 ≤ 9218868437227405312) (kb : b % 9223372036854775808 ≤ 9218868437227405312) (h : fV a ≤ fV b) : (binOp .gtr 36 (.float .f64 a) (.float .f64 b)).run Tryd.prog W = .ok (.bool false) W := by
  have e : (binOp .gtr 36 (.float .f64 a) (.float .f64 b)).run Tryd.prog W = .ok (.bool (FloatKind.f64.format.order a b == some .gt)) W := rfl
  rw [e, order64 ha hb ka kb]
  rcases Int.lt_or_eq_of_le h with h1 | h1
  · rw [cmpZ_lt h1]; rfl
  · rw [h1, cmpZ_self]; rfl
theorem run_lss64 {a b : Nat} (W : World) (ha : a < 18446744073709551616) (hb : b < 18446744073709551616) (ka : a % 9223372036854775808 ≤ 9218868437227405312) (kb : b % 9223372036854775808 ≤ 9218868437227405312) (h : fV b ≤ fV a) : (binOp .lss 36 (.float .f64 a) (.float .f64 b)).run Tryd.prog W = .ok (.bool false) W := by
  have e : (binOp .lss 36 (.float .f64 a) (.float .f64 b)).run Tryd.prog W = .ok (.bool (FloatKind.f64.format.order a b == some .lt)) W := rfl
  rw [e, order64 ha hb ka kb]
  rcases Int.lt_or_eq_of_le h with h1 | h1
  · rw [cmpZ_gt h1]; rfl
  · rw [h1, cmpZ_self]; rfl
theorem run_neq64 {a b : Nat} (W : World) (ha : a < 18446744073709551616) (hb : b < 18446744073709551616) (ka : a % 9223372036854775808 ≤ 9218868437227405312) (kb : b % 9223372036854775808 ≤ 9218868437227405312) (h : fV a = fV b) : (binOp .neq 36 (.float .f64 a) (.float .f64 b)).run Tryd.prog W = .ok (.bool false) W := by
  have e : (binOp .neq 36 (.float .f64 a) (.float .f64 b)).run Tryd.prog W = .ok (.bool (FloatKind.f64.format.order a b != some .eq)) W := rfl
  rw [e, order64 ha hb ka kb, h, cmpZ_self]; rfl
end Go.Proofs.YthdbapibbdkclaaDoor

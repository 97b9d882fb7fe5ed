/- Contracts of steelyardref10.Running, Halving, Kahan, Neumaier. Contract of steelyardref10.Blocked. Dyads by their values in whatever unit: sums, products, signs, uniqueness. No statement of the seat is proved here. -/
import Derived.Test.YteahdgbokjbgcaaGreatDoorProg
import Derived.Test.YteahdgbokjbgcaaGreatDoorYNG
import Derived.Test.YteahdgbokjbgcaaGreatDoorYNF
namespace Go.Proofs.YteahdgbokjbgcaaGreatDoor
open Go.RowKit
set_option maxRecDepth 10000
set_option linter.unusedVariables false
set_option linter.unusedSimpArgs false

end Go.Proofs.YteahdgbokjbgcaaGreatDoor
namespace Go.Proofs.YteahdgbokjbgcaaGreatDoor
open Go.RowKit
set_option maxRecDepth 10000
set_option linter.unusedVariables false
set_option linter.unusedSimpArgs false

end Go.Proofs.YteahdgbokjbgcaaGreatDoor
namespace Go.Proofs.YteahdgbokjbgcaaGreatDoor
open Go.RowKit
set_option linter.unusedVariables false
set_option linter.unusedSimpArgs false

/-- a Dyad of a value z in units of 2^B, below 2^(32 J) in size -/
structure Dy (B : Int) (J : Nat) (d : D) (z : Int) : Prop where
  is : d.Is
  ok : d.Ok
  ex : B ≤ d.exp
  val : d.z B = z
  sz : z.natAbs < 2 ^ (32 * J)
theorem Dy.zero {B : Int} {J : Nat} (hB : B ≤ 0) : Dy B J D.zero 0 := ⟨.inl rfl, D.zero_ok, hB, z_zero _, Nat.two_pow_pos _⟩
theorem Dy.up {B : Int} {J K : Nat} {d : D} {z : Int} (h : Dy B J d z) (hK : J ≤ K) : Dy B K d z := ⟨h.is, h.ok, h.ex, h.val, Nat.lt_of_lt_of_le h.sz (Nat.pow_le_pow_right (by decide) (by omega))⟩
theorem Dy.uniq {B : Int} {J K : Nat} {p q : D} {z : Int} (hp : Dy B J p z) (hq : Dy B K q z) : p = q := z_uniq hp.is hq.is hp.ex hq.ex (by rw [hp.val, hq.val])
theorem Dy.small {B : Int} {J : Nat} {d : D} {z : Int} (h : Dy B J d z) (hm : d.m ≠ 0) : d.exp - B < 32 * (J : Int) := by
  have h1 := z_abs h.ex
  rw [h.val] at h1
  have h2 : 2 ^ (d.exp - B).toNat ≤ d.m * 2 ^ (d.exp - B).toNat := Nat.le_mul_of_pos_left _ (Nat.pos_of_ne_zero hm)
  have h4 := h.sz
  have h3 : (d.exp - B).toNat < 32 * J := (Nat.pow_lt_pow_iff_right (a := 2) (by decide)).1 (by omega)
  have := h.ex
  omega
theorem Dy.msz {B : Int} {J : Nat} {d : D} {z : Int} (h : Dy B J d z) : d.m < 2 ^ (32 * J) := by
  have h1 := z_abs h.ex
  rw [h.val] at h1
  have h2 : d.m * 1 ≤ d.m * 2 ^ (d.exp - B).toNat := Nat.mul_le_mul_left _ (Nat.two_pow_pos _)
  have := h.sz
  omega
theorem Dy.down {B : Int} {J : Nat} {d : D} {z : Int} (h : Dy B J d z) (k : Nat) : Dy (B - (32 * k : Nat)) (J + k) d (z * ((2 ^ (32 * k) : Nat) : Int)) := by
  refine ⟨h.is, h.ok, by have := h.ex; omega, by rw [z_down h.ex, h.val], ?_⟩
  rw [Int.natAbs_mul, Int.natAbs_natCast, show 32 * (J + k) = 32 * J + 32 * k by omega, Nat.pow_add]
  exact (Nat.mul_lt_mul_right (Nat.two_pow_pos _)).2 h.sz
theorem Dy.zeroV {B : Int} {J : Nat} {d : D} {z : Int} (h : Dy B J d z) : d.m = 0 ↔ z = 0 := by
  have h1 := z_abs h.ex
  rw [h.val] at h1
  have hp := Nat.two_pow_pos (d.exp - B).toNat
  constructor
  · intro h0; rw [h0, Nat.zero_mul] at h1; omega
  · intro h0
    rcases Nat.eq_zero_or_pos d.m with h2 | h2
    · exact h2
    · have := Nat.mul_pos h2 hp; omega
/-- the bounds within which all is done -/
structure Rg (B : Int) (J : Nat) : Prop where
  hB : -900000 ≤ B
  h0 : B ≤ 0
  hJ : J ≤ 8000
theorem Dy.add {B : Int} {J : Nat} {p q : D} {x y : Int} (hp : Dy B J p x) (hq : Dy B J q y) (hR : Rg B J) : ∃ d, addD p q = some d ∧ Dy B (J + 1) d (x + y) := by
  obtain ⟨r1, r2, r3⟩ := hR
  obtain ⟨d, hd⟩ := addD_some (p := p) (q := q) (B := B) (j := J) hp.ex hq.ex r2 (by rw [hp.val]; exact hp.sz) (by rw [hq.val]; exact hq.sz) (by omega) (by omega) (by
    rintro d (rfl | rfl) hm
    · have := hp.small hm; omega
    · have := hq.small hm; omega)
  obtain ⟨h1, h2⟩ := addD_form hd hp.is hq.is hp.ok hq.ok
  have h3 := z_add hd hp.ex hq.ex r2
  refine ⟨d, hd, h1, h2, h3.2, by rw [h3.1, hp.val, hq.val], ?_⟩
  have hpow : 2 ^ (32 * (J + 1)) = 4294967296 * 2 ^ (32 * J) := by rw [show 32 * (J + 1) = 32 + 32 * J by omega, Nat.pow_add]
  have := hp.sz; have := hq.sz
  omega
theorem Dy.addZ {B : Int} {J K : Nat} {p q : D} {x y : Int} (hp : Dy B J p x) (hq : Dy B J q y) (hR : Rg B J) (hz : (x + y).natAbs < 2 ^ (32 * K)) : ∃ d, addD p q = some d ∧ Dy B K d (x + y) := by
  obtain ⟨d, h1, h2⟩ := hp.add hq hR
  exact ⟨d, h1, h2.is, h2.ok, h2.ex, h2.val, hz⟩
theorem Dy.neg {B : Int} {J : Nat} {d : D} {z : Int} (h : Dy B J d z) (h0 : B ≤ 0) : ∃ d', formF (!d.neg) d.m d.exp = some d' ∧ Dy B J d' (-z) := by
  obtain ⟨q, h1, h2⟩ := neg_form (form_self h.is h.ok)
  have h3 : B ≤ q.exp := (z_form h1 h.ex h0).2
  exact ⟨q, h1, formF_is h1, formF_ok h1, h3, by rw [h2 B h.ex h3, h.val], by have := h.sz; omega⟩
theorem Dy.mul {B C : Int} {J K : Nat} {p q : D} {x y : Int} (hp : Dy B J p x) (hq : Dy C K q y) (hR : Rg (B + C) (J + K)) : ∃ d, mulD p q = some d ∧ Dy (B + C) (J + K) d (x * y) := by
  obtain ⟨r1, r2, r3⟩ := hR
  have hsz : p.m * q.m < 2 ^ (32 * (J + K)) := by
    have h1 := hp.msz; have h2 := hq.msz
    rw [show 32 * (J + K) = 32 * J + 32 * K by omega, Nat.pow_add]
    exact Nat.mul_lt_mul'' h1 h2
  have hd : ∃ d, mulD p q = some d := by
    unfold mulD
    by_cases h0 : p.m = 0
    · rw [h0, Nat.zero_mul]; exact ⟨D.zero, by unfold formF; rw [if_pos rfl]⟩
    · by_cases h1 : q.m = 0
      · rw [h1, Nat.mul_zero]; exact ⟨D.zero, by unfold formF; rw [if_pos rfl]⟩
      · have e1 := hp.small h0
        have e2 := hq.small h1
        have := hp.ex; have := hq.ex
        exact form_smallB _ hsz (by omega) (by omega) (by omega)
  obtain ⟨d, hd⟩ := hd
  have h3 := z_mul hd hp.ex hq.ex r2
  refine ⟨d, hd, (mulD_form hd).1, (mulD_form hd).2, h3.2, by rw [h3.1, hp.val, hq.val], ?_⟩
  rw [Int.natAbs_mul, show 32 * (J + K) = 32 * J + 32 * K by omega, Nat.pow_add]
  exact Nat.mul_lt_mul'' hp.sz hq.sz
theorem Dy.form {s : Bool} {n : Nat} {e B : Int} {j J : Nat} (hn : n < 2 ^ (32 * j)) (hj : j ≤ 8000) (hB : B ≤ e) (hR : Rg B J) (he : e ≤ 700000) (hs : n * 2 ^ (e - B).toNat < 2 ^ (32 * J)) : ∃ d, formF s n e = some d ∧ Dy B J d (sgn s n * ((2 ^ (e - B).toNat : Nat) : Int)) := by
  obtain ⟨r1, r2, r3⟩ := hR
  obtain ⟨d, hd⟩ := form_smallB s hn (by omega) (show -1048576 ≤ e by omega) (by omega)
  have h := z_form hd hB r2
  exact ⟨d, hd, formF_is hd, formF_ok hd, h.2, h.1, by rw [← sgn_mul, sgn_abs]; exact hs⟩
theorem Dy.int {n : Int} {J : Nat} (h1 : n.natAbs < 2 ^ (32 * J)) (hJ : J ≤ 8000) : ∃ d, intF n = some d ∧ Dy 0 J d n := by
  obtain ⟨d, h2, h3⟩ := Dy.form (s := decide (n < 0)) (e := 0) (B := 0) (J := J) h1 hJ (Int.le_refl _) ⟨by decide, by decide, hJ⟩ (by decide) (by simpa using h1)
  refine ⟨d, h2, ?_⟩
  have e : sgn (decide (n < 0)) n.natAbs * ((2 ^ ((0 : Int) - 0).toNat : Nat) : Int) = n := by
    unfold sgn
    by_cases h : n < 0
    · rw [decide_eq_true h, if_pos rfl]; simp; omega
    · rw [decide_eq_false h, if_neg (by simp)]; simp; omega
  rw [e] at h3; exact h3
theorem Dy.of {v : Nat} (h : v % 9223372036854775808 < 9218868437227405312) {J : Nat} (hJ : J = 66) : ∃ p, ofF v = some p ∧ Dy (-1074) J p (fV v) := by
  obtain ⟨p, h1, h2⟩ := Dz.of h
  exact ⟨p, h1, h2.is, h2.ok, h2.ex, h2.val, fV_abs h hJ⟩
theorem sgn_intZ (z : Int) : sgn (decide (z < 0)) z.natAbs = z := by
  unfold sgn
  by_cases h : z < 0
  · rw [decide_eq_true h, if_pos rfl]; omega
  · rw [decide_eq_false h, if_neg (by simp)]; omega
/-- the form of a value in units of 2^B -/
def zO (B T : Int) : Option D := formF (decide (T < 0)) T.natAbs B
theorem zO_dy {B T : Int} {J : Nat} (hR : Rg B J) (h : T.natAbs < 2 ^ (32 * J)) : ∃ d, zO B T = some d ∧ Dy B J d T := by
  obtain ⟨d, h1, h2⟩ := Dy.form (s := decide (T < 0)) (e := B) h hR.hJ (Int.le_refl _) hR (by have := hR.h0; omega) (by simpa using h)
  refine ⟨d, h1, ?_⟩
  rw [Int.sub_self, sgn_intZ] at h2
  simpa using h2

/-! what the program's functions and the document's answer to such -/
theorem qAdd {p q d : D} (ip : p.Is) (op : p.Ok) (iq : q.Is) (oq : q.Ok) (hd : addD p q = some d) (a a' : Option Addr) (c c' : Nat) (W : World) (h1 : (argOf p a c).Ok W) (h2 : (argOf q a' c').Ok W) : Calls Tryz.prog 71 #[DV p a c, DV q a' c'] W (OutDE d W) := by
  refine (radd_any (argOf p a c) (argOf q a' c') W h1 h2).mono fun en w' h => came_out h ?_ (addD_form hd ip iq op oq).2
  rw [argF ip op, argF iq oq]; exact hd
theorem qSub {p q q' d : D} (ip : p.Is) (op : p.Ok) (hq' : formF (!q.neg) q.m q.exp = some q') (hd : addD p q' = some d) (a a' : Option Addr) (c c' : Nat) (W : World) (h1 : (argOf p a c).Ok W) (h2 : (argOf q a' c').Ok W) : Calls Tryz.prog 149 #[DV p a c, DV q a' c'] W (OutDE d W) := by
  refine (rsub_any (argOf p a c) (argOf q a' c') W h1 h2).mono fun en w' h => came_out h ?_ (addD_form hd ip (formF_is hq') op (formF_ok hq')).2
  rw [argF ip op]
  have e : (argOf q a' c').opp.F = some q' := by
    show formF (!q.neg) (num (words q.m)) q.exp = some q'
    rw [num_words]; exact hq'
  rw [e]; exact hd
theorem qMul {p q d : D} (ip : p.Is) (op : p.Ok) (iq : q.Is) (oq : q.Ok) (hd : mulD p q = some d) (a a' : Option Addr) (c c' : Nat) (W : World) (h1 : (argOf p a c).Ok W) (h2 : (argOf q a' c').Ok W) : Calls Tryz.prog 70 #[DV p a c, DV q a' c'] W (OutDE d W) := by
  refine (rmul_any (argOf p a c) (argOf q a' c') W h1 h2).mono fun en w' h => came_out h ?_ (mulD_form hd).2
  rw [argF ip op, argF iq oq]; exact hd
end Go.Proofs.YteahdgbokjbgcaaGreatDoor

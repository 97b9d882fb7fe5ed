/- Dyads by their values: Of, Add, Sub, Sign, Neg, and the bound of steelyardlaw10.off. No statement of the seat is proved here. -/
import Derived.Test.YthdbapibbdkclaaDoorProg
import Derived.Test.YthdbapibbdkclaaDoorFk
namespace Go.Proofs.YthdbapibbdkclaaDoor
open Go.RowKit
set_option linter.unusedVariables false
set_option linter.unusedSimpArgs false

/-- a Dyad of a value, in units of 2^-1074 -/
structure Dz (d : D) (z : Int) : Prop where
  is : d.Is
  ok : d.Ok
  ex : -1074 ≤ d.exp
  val : d.z (-1074) = z
theorem Dz.zero : Dz D.zero 0 := ⟨.inl rfl, D.zero_ok, by decide, z_zero _⟩
def DV (d : D) (a : Option Addr) (c : Nat) : Value := .agg #[.bool d.neg, .slice a (words d.m).length c, .int .i64 d.exp]
theorem argF {d : D} (hi : d.Is) (ok : d.Ok) (a : Option Addr) (c : Nat) : (argOf d a c).F = some d := by
  show formF d.neg (num (words d.m)) d.exp = some d
  rw [num_words]; exact form_self hi ok
theorem Dz.of {v : Nat} (h : v % 9223372036854775808 < 9218868437227405312) : ∃ p, ofF v = some p ∧ Dz p (fV v) := by
  obtain ⟨p, hp⟩ := ofF_some h
  have hz := ofF_zB hp
  have hb : p.Is ∧ p.Ok := by
    have hp' := hp
    unfold ofF bitsF at hp'
    split at hp'
    · cases hp'
    · exact form_both hp'
  exact ⟨p, hp, hb.1, hb.2, hz.2, hz.1⟩
theorem Dz.small {d : D} {z : Int} {j : Nat} (h : Dz d z) (hb : z.natAbs < 2 ^ (32 * j)) (hm : d.m ≠ 0) : d.exp + 1074 < 32 * (j : Int) := by
  have h1 := z_abs h.ex
  rw [h.val] at h1
  have h2 : 2 ^ (d.exp - -1074).toNat ≤ d.m * 2 ^ (d.exp - -1074).toNat := Nat.le_mul_of_pos_left _ (Nat.pos_of_ne_zero hm)
  have h3 : (d.exp - -1074).toNat < 32 * j := (Nat.pow_lt_pow_iff_right (a := 2) (by decide)).1 (by omega)
  omega
theorem Dz.add {p q : D} {x y : Int} {j : Nat} (hp : Dz p x) (hq : Dz q y) (bx : x.natAbs < 2 ^ (32 * j)) (by' : y.natAbs < 2 ^ (32 * j)) (hj : j ≤ 100) : ∃ d, addD p q = some d ∧ Dz d (x + y) := by
  obtain ⟨d, hd⟩ := addD_some (p := p) (q := q) (B := -1074) (j := j) hp.ex hq.ex (by decide) (by rw [hp.val]; exact bx) (by rw [hq.val]; exact by') (by omega) (by decide) (by
    rintro d (rfl | rfl) hm
    · have := hp.small bx hm; omega
    · have := hq.small by' hm; omega)
  obtain ⟨h1, h2⟩ := addD_form hd hp.is hq.is hp.ok hq.ok
  have h3 := z_add hd hp.ex hq.ex (by decide)
  exact ⟨d, hd, h1, h2, h3.2, by rw [h3.1, hp.val, hq.val]⟩
theorem Dz.neg {d : D} {z : Int} (h : Dz d z) : ∃ d', formF (!d.neg) d.m d.exp = some d' ∧ Dz d' (-z) := by
  obtain ⟨q, h1, h2⟩ := neg_form (form_self h.is h.ok)
  have h3 : -1074 ≤ q.exp := (z_form h1 h.ex (by decide)).2
  exact ⟨q, h1, formF_is h1, formF_ok h1, h3, by rw [h2 (-1074) h.ex h3, h.val]⟩
def sgnZ (z : Int) : Int := if z < 0 then -1 else if z = 0 then 0 else 1
theorem Dz.sign {d : D} {z : Int} (h : Dz d z) (a : Option Addr) (c : Nat) : Arg.sign (argOf d a c) = sgnZ z := by
  obtain ⟨k1, k2, k3⟩ := z_sign (d := d) h.ex
  rw [h.val] at k1 k2 k3
  have e : Arg.sign (argOf d a c) = (if d.m = 0 then (0 : Int) else if d.neg = true then -1 else 1) := by unfold Arg.sign argOf; dsimp only; rw [num_words]
  rw [e]
  unfold sgnZ
  rcases Int.lt_trichotomy z 0 with h1 | h1 | h1
  · rw [k1 h1, if_pos h1]
  · rw [k2 h1, if_neg (by omega), if_pos h1]
  · rw [k3 h1, if_neg (by omega), if_neg (by omega)]
theorem z_down {d : D} {B : Int} (h : B ≤ d.exp) (k : Nat) : d.z (B - k) = d.z B * ((2 ^ k : Nat) : Int) := by
  unfold D.z
  rw [← sgn_mul, ← sgn_mul, ← sgn_mul, Nat.mul_assoc, ← Nat.pow_add]
  congr 3; omega

/-- a Dyad came out -/
def OutD (d : D) (W : World) (en : Ending) (w' : World) : Prop := ∃ a c, en = .returned (DV d a c) ∧ Own w' 82 W.heap.size a c (words d.m) ∧ Below W.heap.size W w'
/-- a Dyad and no error came out -/
def OutDE (d : D) (W : World) (en : Ending) (w' : World) : Prop := ∃ a c, en = .returned (.tuple #[DV d a c, .int .i64 0]) ∧ Own w' 82 W.heap.size a c (words d.m) ∧ Below W.heap.size W w'
theorem came_out {o : Option D} {d : D} {W w' : World} {en : Ending} (h : Came W w' o en) (ho : o = some d) (ok : d.Ok) : OutDE d W en w' := by
  obtain ⟨v, rfl, ⟨a, c, rfl, h1⟩, h2⟩ := h
  subst ho
  exact ⟨a, c, rfl, h1, h2⟩
theorem cOf {v : Nat} {p : D} (hv : v < 18446744073709551616) (hp : ofF v = some p) (ok : p.Ok) (W : World) (hT : Tab W) : Calls Tryd.prog 48 #[.float .f64 v] W (OutDE p W) := by
  refine (dof_any v W hv hT).mono ?_
  rintro en w' ⟨u, rfl, ⟨a, c, rfl, h1⟩, h2⟩
  rw [hp] at h1 ⊢
  exact ⟨a, c, rfl, h1, h2⟩
theorem cOfN {v : Nat} (hv : v < 18446744073709551616) (hp : ofF v = none) (W : World) (hT : Tab W) : Calls Tryd.prog 48 #[.float .f64 v] W fun en w' => ∃ a c, en = .returned (.tuple #[DV D.zero a c, .int .i64 30]) ∧ Below W.heap.size W w' := by
  refine (dof_any v W hv hT).mono ?_
  rintro en w' ⟨u, rfl, ⟨a, c, rfl, h1⟩, h2⟩
  rw [hp] at h1 ⊢
  exact ⟨a, c, rfl, h2⟩
theorem cAdd {p q d : D} {x y z : Int} (hp : Dz p x) (hq : Dz q y) (hd : addD p q = some d) (hz : Dz d z) (a a' : Option Addr) (c c' : Nat) (W : World) (h1 : (argOf p a c).Ok W) (h2 : (argOf q a' c').Ok W) (hT : Tab W) : Calls Tryd.prog 53 #[DV p a c, DV q a' c'] W (OutDE d W) := by
  refine (dadd_any (argOf p a c) (argOf q a' c') W h1 h2 hT).mono fun en w' h => came_out h ?_ hz.ok
  rw [argF hp.is hp.ok, argF hq.is hq.ok]; exact hd
theorem cSub {p q q' d : D} {x y z : Int} (hp : Dz p x) (hq : Dz q y) (hq' : formF (!q.neg) q.m q.exp = some q') (hd : addD p q' = some d) (hz : Dz d z) (a a' : Option Addr) (c c' : Nat) (W : World) (h1 : (argOf p a c).Ok W) (h2 : (argOf q a' c').Ok W) (hT : Tab W) : Calls Tryd.prog 112 #[DV p a c, DV q a' c'] W (OutDE d W) := by
  refine (dsub_any (argOf p a c) (argOf q a' c') W h1 h2 hT).mono fun en w' h => came_out h ?_ hz.ok
  rw [argF hp.is hp.ok]
  have e : (argOf q a' c').opp.F = some q' := by
    show formF (!q.neg) (num (words q.m)) q.exp = some q'
    rw [num_words]; exact hq'
  rw [e]; exact hd
theorem cSign {d : D} {z : Int} (h : Dz d z) (a : Option Addr) (c : Nat) (W : World) (h1 : (argOf d a c).Ok W) : Calls Tryd.prog 54 #[DV d a c] W fun en w' => en = .returned (.int .i64 (sgnZ z)) ∧ Below W.heap.size W w' := by
  have := dsign_any (argOf d a c) W h1
  rw [h.sign] at this
  exact this
theorem cNeg {d d' : D} {z : Int} (h : Dz d z) (hd : formF (!d.neg) d.m d.exp = some d') (a : Option Addr) (c : Nat) (W : World) (h1 : (argOf d a c).Ok W) (hT : Tab W) : Calls Tryd.prog 55 #[DV d a c] W (OutD d' W) := by
  refine (dneg_any (argOf d a c) W h1 hT).mono ?_
  rintro en w' ⟨v, rfl, ⟨a2, c2, rfl, h3⟩, h2⟩
  have e : outO (Arg.F (Arg.opp (argOf d a c))) = d' := by
    have : Arg.F (Arg.opp (argOf d a c)) = some d' := by
      show formF (!d.neg) (num (words d.m)) d.exp = some d'
      rw [num_words]; exact hd
    rw [this]; rfl
  rw [e] at h3 ⊢
  exact ⟨a2, c2, rfl, h3, h2⟩
/-- n times 2^-53 times a value, beside another one -/
theorem most_le {n : Nat} {A G : D} {av gv : Nat} {j : Nat} (hn : n ≤ 1000) (hA : Dz A (av : Int)) (hG : Dz G (gv : Int)) (hb : av < 2 ^ (32 * j)) (hj : j ≤ 100) :
    ∃ st mo, formF false n (-53) = some st ∧ st.Is ∧ st.Ok ∧ mulD st A = some mo ∧ mo.Is ∧ mo.Ok ∧ (9007199254740992 * gv ≤ n * av → ∀ a a' c c', cmpA (argOf G a c) (argOf mo a' c') ≤ 0) := by
  obtain ⟨st, hs⟩ := form_smallB false (n := n) (j := 1) (e := -53) (by rw [show (2 : Nat) ^ (32 * 1) = 4294967296 from rfl]; omega) (by decide) (by decide) (by decide)
  have zs := z_form hs (B := -53) (by decide) (by decide)
  have hsv : st.z (-53) = (n : Int) := by
    rw [zs.1]; unfold sgn; simp
  have hsm : st.m ≤ 1000 := by
    have := z_abs zs.2
    rw [hsv] at this
    have h2 : st.m * 1 ≤ st.m * 2 ^ (st.exp - -53).toNat := Nat.mul_le_mul_left _ (Nat.two_pow_pos _)
    omega
  have hmm : A.m < 2 ^ (32 * j) := by
    have := z_abs hA.ex
    rw [hA.val] at this
    have h2 : A.m * 1 ≤ A.m * 2 ^ (A.exp - -1074).toNat := Nat.mul_le_mul_left _ (Nat.two_pow_pos _)
    omega
  have hpow : 2 ^ (32 * (j + 1)) = 4294967296 * 2 ^ (32 * j) := by rw [show 32 * (j + 1) = 32 + 32 * j by omega, Nat.pow_add]
  have hprod : st.m * A.m < 2 ^ (32 * (j + 1)) := by
    have h2 : st.m * A.m ≤ 1000 * A.m := Nat.mul_le_mul_right _ hsm
    omega
  have hmo : ∃ mo, mulD st A = some mo := by
    unfold mulD
    by_cases h0 : st.m = 0
    · rw [h0, Nat.zero_mul]; exact ⟨D.zero, by unfold formF; rw [if_pos rfl]⟩
    · by_cases h1 : A.m = 0
      · rw [h1, Nat.mul_zero]; exact ⟨D.zero, by unfold formF; rw [if_pos rfl]⟩
      · have e1 := hA.small (j := j) (by simpa using hb) h1
        have e2 : st.exp < 1000 := by
          have h5 := z_abs zs.2
          rw [hsv] at h5
          have h2 : 2 ^ (st.exp - -53).toNat ≤ st.m * 2 ^ (st.exp - -53).toNat := Nat.le_mul_of_pos_left _ (Nat.pos_of_ne_zero h0)
          have h3 : (st.exp - -53).toNat < 10 := (Nat.pow_lt_pow_iff_right (a := 2) (by decide)).1 (by rw [show (2 : Nat) ^ 10 = 1024 from rfl]; omega)
          omega
        have e3 := hA.ex
        have e4 := zs.2
        exact form_smallB _ hprod (by omega) (by omega) (by omega)
  obtain ⟨mo, hmo⟩ := hmo
  have hm2 : mo.Is ∧ mo.Ok := by
    have := hmo
    unfold mulD at this
    exact form_both this
  have zm := z_mul hmo zs.2 hA.ex (by decide)
  refine ⟨st, mo, hs, formF_is hs, formF_ok hs, hmo, hm2.1, hm2.2, fun h a a' c c' => ?_⟩
  have hGx := hG.ex
  refine ((cmpA_le (B := -53 + -1074) (by omega) zm.2).1).2 ?_
  rw [zm.1, hsv, hA.val]
  have e := z_down hG.ex 53
  rw [show (-1074 : Int) - ((53 : Nat) : Int) = -53 + -1074 by decide, hG.val] at e
  rw [e, show (2 : Nat) ^ 53 = 9007199254740992 from rfl]
  have h9 : (9007199254740992 * gv : Nat) ≤ n * av := h
  have h10 : ((9007199254740992 * gv : Nat) : Int) ≤ ((n * av : Nat) : Int) := by omega
  rw [Int.natCast_mul, Int.natCast_mul] at h10
  rw [Int.mul_comm]
  exact h10
theorem cMake {n : Nat} {st : D} (hn : n ≤ 1000) (hs : formF false n (-53) = some st) (a : Option Addr) (c : Nat) (W : World) (h : Sl W a c [n]) (hT : Tab W) : Calls Tryd.prog 59 #[.bool false, .slice a 1 c, .int .i64 (-53)] W (OutDE st W) := by
  refine (dmake_any false a c [n] (-53) W ⟨h, by show (1 : Nat) ≤ _; decide, by show (-9223372036854775808 : Int) ≤ -53; decide, by show (-53 : Int) ≤ 9223372036854775807; decide⟩ hT).mono fun en w' h => came_out h ?_ (formF_ok hs)
  rw [show num [n] = n by simp [num]]; exact hs
theorem cMul {p q d : D} (hp : p.Is) (okp : p.Ok) (hq : q.Is) (okq : q.Ok) (hd : mulD p q = some d) (ok : d.Ok) (a a' : Option Addr) (c c' : Nat) (W : World) (h1 : (argOf p a c).Ok W) (h2 : (argOf q a' c').Ok W) (hT : Tab W) : Calls Tryd.prog 113 #[DV p a c, DV q a' c'] W (OutDE d W) := by
  refine (dmul_any (argOf p a c) (argOf q a' c') W h1 h2 hT).mono fun en w' h => came_out h ?_ ok
  rw [argF hp okp, argF hq okq]; exact hd
end Go.Proofs.YthdbapibbdkclaaDoor

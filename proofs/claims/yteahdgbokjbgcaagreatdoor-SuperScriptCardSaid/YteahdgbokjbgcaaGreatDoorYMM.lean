/- What an accumulator has, what is added to it, in numbers. Contracts of super.laid, New, Specials; what an accumulator is in memory. Contracts of super: total.size, New, Specials; an accumulator in memory. Contract of super's Acc.Exact. Contracts of super: count, put, more, less. No statement of the seat is proved here. -/
import Derived.Test.YteahdgbokjbgcaaGreatDoorProg
import Derived.Test.YteahdgbokjbgcaaGreatDoorYMK
import Derived.Test.YteahdgbokjbgcaaGreatDoorYMF
import Derived.Test.YteahdgbokjbgcaaGreatDoorYMJ
import Derived.Test.YteahdgbokjbgcaaGreatDoorYML
import Derived.Test.YteahdgbokjbgcaaGreatDoorYMI
namespace Go.Proofs.YteahdgbokjbgcaaGreatDoor
open Go.RowKit
set_option linter.unusedVariables false
set_option linter.unusedSimpArgs false

/-- what an accumulator has: the sum in units of 2^-2148, the counts; what is added is told likewise -/
structure Ac where
  T : Int
  nan : Int
  up : Int
  down : Int
  minus : Int
  plus : Int
  all : Int
def Ac.zero : Ac := ⟨0, 0, 0, 0, 0, 0, 0⟩
def Ac.sum (a b : Ac) : Ac := ⟨a.T + b.T, a.nan + b.nan, a.up + b.up, a.down + b.down, a.minus + b.minus, a.plus + b.plus, a.all + b.all⟩
def Ac.less (a b : Ac) : Ac := ⟨a.T - b.T, a.nan - b.nan, a.up - b.up, a.down - b.down, a.minus - b.minus, a.plus - b.plus, a.all - b.all⟩
/-- one that may be -/
structure Ac.Ok (a : Ac) : Prop where
  v : ¬ Gt a.T
  nan : 0 ≤ a.nan
  up : 0 ≤ a.up
  down : 0 ≤ a.down
  minus : 0 ≤ a.minus
  plus : 0 ≤ a.plus
  sum : a.nan + a.up + a.down + a.minus + a.plus ≤ a.all
  all : a.all ≤ 1099511627776
theorem gt_zero : ¬ Gt 0 := by
  have := w64_pos 66
  unfold Gt
  generalize W64 ^ 66 = P at *
  omega
theorem Ac.zero_ok : Ac.zero.Ok := ⟨gt_zero, by decide, by decide, by decide, by decide, by decide, by decide, by decide⟩

/-- a thing of a class: its sign, its value -/
def mkT (c : Int) (neg : Bool) (v : Int) : Ac :=
  if c = 4 then ⟨0, 1, 0, 0, 0, 0, 1⟩
  else if c = 3 then (if neg = true then ⟨0, 0, 0, 1, 0, 0, 1⟩ else ⟨0, 0, 1, 0, 0, 0, 1⟩)
  else if c = 0 then (if neg = true then ⟨0, 0, 0, 0, 1, 0, 1⟩ else ⟨0, 0, 0, 0, 0, 1, 1⟩)
  else ⟨v, 0, 0, 0, 0, 0, 1⟩
/-- the parts of a number -/
structure Pt where
  s : Bool
  c : Int
  e : Int
  f : Nat
def ptOf (b : Nat) : Pt :=
  if b / 4503599627370496 % 2048 = 2047 then (if b % 4503599627370496 ≠ 0 then ⟨false, 4, 0, 0⟩ else ⟨b / 9223372036854775808 % 2 == 1, 3, 0, 0⟩)
  else if 0 < b / 4503599627370496 % 2048 then ⟨b / 9223372036854775808 % 2 == 1, 2, -1074 + (b / 4503599627370496 % 2048 : Nat) - 1, b % 4503599627370496 + 4503599627370496⟩
  else if 0 < b % 4503599627370496 then ⟨b / 9223372036854775808 % 2 == 1, 1, -1074, b % 4503599627370496⟩
  else ⟨b / 9223372036854775808 % 2 == 1, 0, -1074, 0⟩
theorem partsV_pt (b : Nat) : partsV b = .agg #[.bool (ptOf b).s, .int .i64 (ptOf b).c, .int .i64 (ptOf b).e, .int .u64 (ptOf b).f] := by
  unfold partsV ptOf
  split
  · split <;> rfl
  · split
    · rfl
    · split <;> rfl
theorem ptOf_bd (b : Nat) : 0 ≤ (ptOf b).c ∧ (ptOf b).c ≤ 4 ∧ -1074 ≤ (ptOf b).e ∧ (ptOf b).e ≤ 971 ∧ (ptOf b).f < 9007199254740992 ∧ ((ptOf b).c = 1 ∨ (ptOf b).c = 2 → 0 < (ptOf b).f) := by
  have h1 : b / 4503599627370496 % 2048 ≤ 2047 := by omega
  have h2 : b % 4503599627370496 < 4503599627370496 := by omega
  unfold ptOf
  generalize b / 4503599627370496 % 2048 = ex at *
  generalize b % 4503599627370496 = fr at *
  split
  · split <;> simp
  · split
    · simp; omega
    · split
      · simp; omega
      · simp
/-- a number as a thing -/
def numT (b : Nat) : Ac := mkT (ptOf b).c (ptOf b).s (sgn (ptOf b).s ((ptOf b).f * 2 ^ ((ptOf b).e + 2148).toNat))
/-- a product's class, sign -/
def prC (p q : Pt) : Int := if p.c = 4 ∨ q.c = 4 ∨ min p.c q.c = 0 ∧ max p.c q.c = 3 then 4 else if p.c = 3 ∨ q.c = 3 then 3 else if p.c = 0 ∨ q.c = 0 then 0 else 2
def prT (a b : Nat) : Ac := mkT (prC (ptOf a) (ptOf b)) ((ptOf a).s != (ptOf b).s) (sgn ((ptOf a).s != (ptOf b).s) ((ptOf a).f * (ptOf b).f * 2 ^ ((ptOf a).e + (ptOf b).e + 2148).toNat))
/-- a thing is one, or has a value of a size -/
structure Ac.One (a : Ac) : Prop where
  nan : 0 ≤ a.nan
  up : 0 ≤ a.up
  down : 0 ≤ a.down
  minus : 0 ≤ a.minus
  plus : 0 ≤ a.plus
  sum : a.nan + a.up + a.down + a.minus + a.plus ≤ 1
  all : a.all = 1
  plain : a.T = 0 ∨ a.nan + a.up + a.down + a.minus + a.plus = 0
theorem mkT_one (c : Int) (neg : Bool) (v : Int) : (mkT c neg v).One := by
  unfold mkT
  split
  · constructor <;> simp
  · split
    · split <;> (constructor <;> simp)
    · split
      · split <;> (constructor <;> simp)
      · constructor <;> simp
theorem numT_one (b : Nat) : (numT b).One := mkT_one _ _ _
theorem prT_one (a b : Nat) : (prT a b).One := mkT_one _ _ _
theorem w64_nat (i : Nat) : W64 ^ i = ((2 ^ (64 * i) : Nat) : Int) := by
  rw [Nat.pow_mul, Int.natCast_pow]; rfl
theorem mx_gen {a b : Nat} (h : 64 * a + 14 = b + 42) : W64 ^ a * 16384 = ((2 ^ b : Nat) : Int) * 4398046511104 := by
  rw [w64_nat, show (16384 : Int) = ((2 ^ 14 : Nat) : Int) from rfl, show (4398046511104 : Int) = ((2 ^ 42 : Nat) : Int) from rfl, ← Int.natCast_mul, ← Int.natCast_mul, ← Nat.pow_add, ← Nat.pow_add, h]
/-- the greatest that one thing can be -/
def mxE : Nat := 4196
def Mx : Int := ((2 ^ mxE : Nat) : Int)
theorem mx_pos : 0 < Mx := by unfold Mx; exact Int.natCast_pos.2 (Nat.two_pow_pos _)
theorem mx_eq : Mx = ((2 ^ mxE : Nat) : Int) := rfl
theorem gt_small {T : Int} {n : Nat} (hn : n ≤ 1099511627776) (h1 : -(n * Mx) ≤ T) (h2 : T ≤ n * Mx) : ¬ Gt T := by
  unfold Gt
  have e : W64 ^ 66 * 16384 = Mx * 4398046511104 := mx_gen (a := 66) (b := mxE) rfl
  rw [e]
  have hp := mx_pos
  generalize Mx = M at *
  have h3 : (n : Int) * M ≤ 1099511627776 * M := Int.mul_le_mul_of_nonneg_right (by omega) (Int.le_of_lt hp)
  omega
theorem sgn_bd {s : Bool} {m n : Nat} (h : m ≤ n) : -(n : Int) ≤ sgn s m ∧ sgn s m ≤ n := by
  unfold sgn; split <;> omega
theorem pow_bd {f k a j : Nat} (hf : f < 2 ^ k) (hj : j ≤ a) : f * 2 ^ j ≤ 2 ^ (k + a) := by
  rw [Nat.pow_add]
  exact Nat.mul_le_mul (Nat.le_of_lt hf) (Nat.pow_le_pow_right (by decide) hj)
theorem mkT_bd {c : Int} {neg : Bool} {v : Int} (h1 : -Mx ≤ v) (h2 : v ≤ Mx) : -Mx ≤ (mkT c neg v).T ∧ (mkT c neg v).T ≤ Mx := by
  have hp := mx_pos
  unfold mkT
  split
  · simp; omega
  · split
    · split <;> (simp; omega)
    · split
      · split <;> (simp; omega)
      · simp; omega
theorem numT_bd (b : Nat) : -Mx ≤ (numT b).T ∧ (numT b).T ≤ Mx := by
  obtain ⟨h1, h2, h3, h4, h5, h6⟩ := ptOf_bd b
  have h7 := pow_bd (f := (ptOf b).f) (k := 53) (a := 4143) (j := ((ptOf b).e + 2148).toNat) h5 (by omega)
  obtain ⟨h8, h9⟩ := sgn_bd (s := (ptOf b).s) h7
  rw [show (53 + 4143 : Nat) = mxE from rfl, ← mx_eq] at h8 h9
  exact mkT_bd h8 h9
theorem prT_bd (a b : Nat) : -Mx ≤ (prT a b).T ∧ (prT a b).T ≤ Mx := by
  obtain ⟨h1, h2, h3, h4, h5, h6⟩ := ptOf_bd a
  obtain ⟨k1, k2, k3, k4, k5, k6⟩ := ptOf_bd b
  have hf : (ptOf a).f * (ptOf b).f < 2 ^ 106 := by
    have : (ptOf a).f * (ptOf b).f ≤ 9007199254740991 * 9007199254740991 := Nat.mul_le_mul (by omega) (by omega)
    omega
  have h7 := pow_bd (k := 106) (a := 4090) (j := ((ptOf a).e + (ptOf b).e + 2148).toNat) hf (by omega)
  obtain ⟨h8, h9⟩ := sgn_bd (s := ((ptOf a).s != (ptOf b).s)) h7
  rw [show (106 + 4090 : Nat) = mxE from rfl, ← mx_eq] at h8 h9
  exact mkT_bd h8 h9
end Go.Proofs.YteahdgbokjbgcaaGreatDoor
namespace Go.Proofs.YteahdgbokjbgcaaGreatDoor
open Go.RowKit
set_option linter.unusedVariables false
set_option linter.unusedSimpArgs false

/-- a term of 128 bits, moved up -/
def lV (hi lo : Nat) (b : Nat) : Int := ((hi * 18446744073709551616 + lo) * 2 ^ b : Nat)

theorem lV_bd {hi lo b : Nat} (h1 : hi < 18446744073709551616) (h2 : lo < 18446744073709551616) (hb : b < 64) : 0 ≤ lV hi lo b ∧ lV hi lo b < W64 ^ 3 := by
  unfold lV
  refine ⟨Int.natCast_nonneg _, ?_⟩
  have h3 : hi * 18446744073709551616 + lo < 2 ^ 128 := by omega
  have h4 : 2 ^ b ≤ 2 ^ 64 := Nat.pow_le_pow_right (by decide) (by omega)
  have h5 : (hi * 18446744073709551616 + lo) * 2 ^ b ≤ (hi * 18446744073709551616 + lo) * 2 ^ 64 := Nat.mul_le_mul_left _ h4
  have h6 : W64 ^ 3 = ((2 ^ 192 : Nat) : Int) := rfl
  rw [h6]
  omega
theorem lV_words {hi lo b : Nat} (h1 : hi < 18446744073709551616) (h2 : lo < 18446744073709551616) (hb : b < 64) :
    dz (lV hi lo b) 0 = ((lo * 2 ^ b % 18446744073709551616 : Nat) : Int) ∧ dz (lV hi lo b) 1 = (((hi * 2 ^ b % 18446744073709551616) ||| (lo / 2 ^ (64 - b)) : Nat) : Int) ∧ dz (lV hi lo b) 2 = ((hi / 2 ^ (64 - b) : Nat) : Int) := by
  have hp := Nat.two_pow_pos b
  have hq := Nat.two_pow_pos (64 - b)
  have hpq : 2 ^ b * 2 ^ (64 - b) = 18446744073709551616 := by rw [← Nat.pow_add, show b + (64 - b) = 64 by omega]
  have hlo : lo / 2 ^ (64 - b) < 2 ^ b := Nat.div_lt_of_lt_mul (by rw [Nat.mul_comm, hpq]; exact h2)
  have hor : (hi * 2 ^ b % 18446744073709551616) ||| (lo / 2 ^ (64 - b)) = hi * 2 ^ b % 18446744073709551616 + lo / 2 ^ (64 - b) := by
    refine or_add' hlo ?_
    rw [← hpq, Nat.mul_comm hi, Nat.mul_mod_mul_left, Nat.mul_mod_right]
  rw [hor]
  have hl1 : lo * 2 ^ b / 18446744073709551616 = lo / 2 ^ (64 - b) := by
    rw [← hpq, Nat.mul_comm lo, Nat.mul_div_mul_left _ _ hp]
  have hh1 : hi * 2 ^ b / 18446744073709551616 = hi / 2 ^ (64 - b) := by
    rw [← hpq, Nat.mul_comm hi, Nat.mul_div_mul_left _ _ hp]
  have hm : hi * 2 ^ b % 18446744073709551616 + lo / 2 ^ (64 - b) < 18446744073709551616 := by
    have e1 : hi * 2 ^ b % 18446744073709551616 = 2 ^ b * (hi % 2 ^ (64 - b)) := by rw [← hpq, Nat.mul_comm hi, Nat.mul_mod_mul_left]
    have e2 : hi % 2 ^ (64 - b) + 1 ≤ 2 ^ (64 - b) := Nat.mod_lt _ hq
    have e3 : 2 ^ b * (hi % 2 ^ (64 - b) + 1) ≤ 2 ^ b * 2 ^ (64 - b) := Nat.mul_le_mul_left _ e2
    rw [Nat.mul_add, Nat.mul_one, hpq] at e3
    omega
  have hV : (hi * 18446744073709551616 + lo) * 2 ^ b = hi * 2 ^ b * 18446744073709551616 + lo * 2 ^ b := by
    rw [Nat.add_mul, Nat.mul_right_comm]
  unfold lV dz
  rw [hV]
  have hx := Nat.div_add_mod (lo * 2 ^ b) 18446744073709551616
  have hy := Nat.div_add_mod (hi * 2 ^ b) 18446744073709551616
  rw [hl1] at hx
  rw [hh1] at hy
  have hhi : hi / 2 ^ (64 - b) < 18446744073709551616 := Nat.lt_of_le_of_lt (Nat.div_le_self _ _) h1
  generalize lo * 2 ^ b = L at *
  generalize hi * 2 ^ b = H at *
  generalize lo / 2 ^ (64 - b) = l1 at *
  generalize hi / 2 ^ (64 - b) = h1' at *
  rw [show W64 ^ 0 = 1 from rfl, show W64 ^ 1 = 18446744073709551616 from rfl, show W64 ^ 2 = 340282366920938463463374607431768211456 from rfl]
  unfold W64
  omega

set_option maxRecDepth 10000 in
set_option maxHeartbeats 2000000 in
theorem laid_any (neg : Bool) (hi lo : Nat) (e : Int) (w : World) (h1 : hi < 18446744073709551616) (h2 : lo < 18446744073709551616) (h3 : -2148 ≤ e) (h4 : e ≤ 3000) :
    Calls Tryz.prog 268 #[.bool neg, .int .u64 hi, .int .u64 lo, .int .i64 e] w fun en w' => en = .returned (.agg #[.bool neg, .int .i64 ((e + 2148) / 64), .int .u64 (dz (lV hi lo ((e + 2148) % 64).toNat) 0), .int .u64 (dz (lV hi lo ((e + 2148) % 64).toNat) 1), .int .u64 (dz (lV hi lo ((e + 2148) % 64).toNat) 2)]) ∧ Below w.heap.size w w' := by
  obtain ⟨b, hb⟩ : ∃ b : Nat, b = ((e + 2148) % 64).toNat := ⟨_, rfl⟩
  have hb1 : (e + 2148) % 64 = (b : Int) := by omega
  have hb2 : b < 64 := by omega
  obtain ⟨e1, e2, e3⟩ := lV_words h1 h2 hb2
  rw [← hb, e1, e2, e3]
  have hs1 : IntKind.u64.wrap (lo * 2 ^ b) = ((lo * 2 ^ b % 18446744073709551616 : Nat) : Int) := by rw [IntKind.wrap_u64]; simp
  have hs2 : IntKind.u64.wrap (hi * 2 ^ b) = ((hi * 2 ^ b % 18446744073709551616 : Nat) : Int) := by rw [IntKind.wrap_u64]; simp
  have hs3 : ((lo : Int) / 2 ^ (64 - b)) = ((lo / 2 ^ (64 - b) : Nat) : Int) := by simp
  have hs4 : ((hi : Int) / 2 ^ (64 - b)) = ((hi / 2 ^ (64 - b) : Nat) : Int) := by simp
  have hs5 : bits .or .u64 ((hi * 2 ^ b % 18446744073709551616 : Nat) : Int) ((lo / 2 ^ (64 - b) : Nat) : Int) = (((hi * 2 ^ b % 18446744073709551616) ||| (lo / 2 ^ (64 - b)) : Nat) : Int) :=
    u64_or_nat _ _ (Nat.mod_lt _ (by decide)) (Nat.lt_of_le_of_lt (Nat.div_le_self _ _) h2)
  have hs6 : ((64 : Int) - (b : Int)).toNat = 64 - b := by omega
  have E := Lib.hid hs1; have E2 := Lib.hid hs2; have E3 := Lib.hid hs3; have E4 := Lib.hid hs4; have E5 := Lib.hid hs5; have E6 := Lib.hid hs6; have E7 := Lib.hid hb1
  clear hs1 hs2 hs3 hs4 hs5 hs6 e1 e2 e3 hb hb1
  go_enter Tryz.func268, Tryz.ntmps268
  go_wp2_with fail
  have q0 : ((e + 2148) % 64).toNat = b := by rw [E7.out]; rfl
  have q1 : (64 - (e + 2148) % 64).toNat = 64 - b := by rw [E7.out]; exact E6.out
  refine bodyPost_ret (v := .agg #[.bool neg, .int .i64 ((e + 2148) / 64), .int .u64 ((lo * 2 ^ b % 18446744073709551616 : Nat) : Int), .int .u64 (((hi * 2 ^ b % 18446744073709551616) ||| (lo / 2 ^ (64 - b)) : Nat) : Int), .int .u64 ((hi / 2 ^ (64 - b) : Nat) : Int)]) (by rw [← E5.out, ← E.out, ← E2.out, ← E3.out, ← E4.out]; simp [results, Tryz.results268, go_sem, q0, q1]) rfl ?_
  exact ⟨rfl, (Below.refl _ _).alloc (Nat.le_refl _) _⟩

end Go.Proofs.YteahdgbokjbgcaaGreatDoor
namespace Go.Proofs.YteahdgbokjbgcaaGreatDoor
open Go.RowKit
set_option linter.unusedVariables false
set_option linter.unusedSimpArgs false

def spc (A : Ac) : List Value := [.int .i64 A.nan, .int .i64 A.up, .int .i64 A.down, .int .i64 A.minus, .int .i64 A.plus, .int .i64 A.all]
/-- an accumulator in a block of its own -/
def AccAt (w : World) (g : Nat) (A : Ac) : Prop := Tot w g 124 (dz A.T) (spc A)
theorem AccAt.tails {w : World} {g : Nat} {A : Ac} (h : AccAt w g A) :
    w.cell? ⟨g, 67, none⟩ = some (.int .i64 A.nan) ∧ w.cell? ⟨g, 68, none⟩ = some (.int .i64 A.up) ∧ w.cell? ⟨g, 69, none⟩ = some (.int .i64 A.down) ∧ w.cell? ⟨g, 70, none⟩ = some (.int .i64 A.minus) ∧ w.cell? ⟨g, 71, none⟩ = some (.int .i64 A.plus) ∧ w.cell? ⟨g, 72, none⟩ = some (.int .i64 A.all) :=
  ⟨Tot.tail h 0, Tot.tail h 1, Tot.tail h 2, Tot.tail h 3, Tot.tail h 4, Tot.tail h 5⟩
theorem info_total : (Tryz.prog.info? 122).map (·.size) = some 67 := by kernel_rfl
theorem info_acc : (Tryz.prog.info? 124).map (·.size) = some 73 := by kernel_rfl

theorem zero_acc : Tryz.zeroCells124 = (rowOf (dz Ac.zero.T) ++ spc Ac.zero).toArray := by
  rw [show rowOf (dz Ac.zero.T) = rowOf (fun _ => 0) from rowOf_congr fun j _ => dz_zero j, zero_row]
  kernel_rfl
theorem zero_total : Tryz.zeroCells122 = (rowOf (dz 0) ++ []).toArray := by
  rw [show rowOf (dz 0) = rowOf (fun _ => 0) from rowOf_congr fun j _ => dz_zero j, zero_row]
  kernel_rfl

set_option maxRecDepth 10000 in
set_option maxHeartbeats 2000000 in
theorem new_any (w : World) :
    Calls Tryz.prog 22 #[] w fun en w' => en = .returned (.pointer (some ⟨w.heap.size, 0, none⟩)) ∧ AccAt w' w.heap.size Ac.zero ∧ Below w.heap.size w w' := by
  go_enter Tryz.func22, Tryz.ntmps22
  go_wp2_with fail
  go_ret
  refine ⟨rfl, ?_, (Below.refl _ _).alloc (Nat.le_refl _) _⟩
  rw [zero_acc]
  exact tot_new _ _ _ _

set_option maxRecDepth 10000 in
set_option maxHeartbeats 2000000 in
theorem specials_any (A : Ac) (g : Nat) (w : World) (h : AccAt w g A) :
    Calls Tryz.prog 107 #[.pointer (some ⟨g, 0, none⟩)] w fun en w' => en = .returned (.agg (spc A).toArray) ∧ Below w.heap.size w w' := by
  obtain ⟨s0, s1, s2, s3, s4, s5⟩ := AccAt.tails (w := w.alloc (.cells #[.int .i64 0, .int .i64 0, .int .i64 0, .int .i64 0, .int .i64 0, .int .i64 0] 57)) (Tot.alloc h _)
  have gl := Tot.lt h
  clear h
  go_enter Tryz.func107, Tryz.ntmps107
  go_wp2_with fail
  refine bodyPost_ret (v := .agg #[.int .i64 A.nan, .int .i64 A.up, .int .i64 A.down, .int .i64 A.minus, .int .i64 A.plus, .int .i64 A.all]) (by simp [results, Tryz.results107, go_sem]) rfl ?_
  exact ⟨rfl, (Below.refl _ _).alloc (Nat.le_refl _) _⟩

theorem tot_new' (w : World) (t : TypeId) (f : Nat → Int) : Tot (w.alloc (.cells (rowOf f).toArray t)) w.heap.size t f [] := by
  have := tot_new w t f []
  rw [List.append_nil] at this
  exact this
theorem Tot.heap' {w : World} {g : Nat} {t : TypeId} {f : Nat → Int} (h : Tot w g t f []) : w.heap[g]? = some (.cells (rowOf f).toArray t (0, 0)) := by
  unfold Tot at h; rw [List.append_nil] at h; exact h
theorem Tot.laid' {w : World} {g : Nat} {t : TypeId} {f h : Nat → Int} (hT : Tot w g t f []) : Tot (w.setRow g ((rowOf f).take 0 ++ rowOf h ++ (rowOf f).drop (0 + (rowOf h).length)).toArray) g t h [] := by
  have := hT.laid (h := h)
  rw [List.append_nil] at this
  exact this

set_option maxRecDepth 10000 in
set_option maxHeartbeats 4000000 in
theorem tsize_any (T : Int) (w : World) (hf : Fits T) :
    Calls Tryz.prog 217 #[.agg (rowOf (dz T)).toArray] w fun en w' => en = .returned (.agg (rowOf (dz (T.natAbs : Int))).toArray) ∧ Below w.heap.size w w' := by
  obtain ⟨S, hS⟩ : ∃ S : Int, S = (T.natAbs : Int) := ⟨_, rfl⟩
  rw [← hS]
  have HS := Lib.hid hS
  clear hS
  go_enter Tryz.func217, Tryz.ntmps217
  go_wp2_with fail
  obtain ⟨w1, h1⟩ : ∃ W, W = w.alloc (.cells (rowOf (dz T)).toArray 122) := ⟨_, rfl⟩
  rw [← h1]
  have k1 : Tot w1 w.heap.size 122 (dz T) [] := by rw [h1]; exact tot_new' _ _ _
  obtain ⟨_, b1, s1⟩ := new_of h1 rfl
  clear h1
  obtain ⟨w2, h2⟩ : ∃ W, W = w1.alloc (.cells Tryz.zeroCells122 122) := ⟨_, rfl⟩
  rw [← h2]
  have k2 : Tot w2 (w.heap.size + 1) 122 (dz 0) [] := by rw [h2, zero_total, ← s1]; exact tot_new _ _ _ _
  obtain ⟨_, b2, s2⟩ := new_of h2 s1
  clear h2
  replace k1 := k1.below b2 (by omega)
  have hB := b1.trans (b2.mono (by omega))
  clear b1 b2
  refine (tneg_any T _ _ _ w2 hf k1).mono ?_; rintro en w' ⟨rfl, rfl⟩
  have H1 := Lib.hid k1; have H2 := Lib.hid k2; have HB := Lib.hid hB
  clear k1 k2 hB s1 s2
  by_cases hneg : T < 0
  · have t1 : decide (T < 0) = true := decide_eq_true hneg
    obtain rfl : S = -T := by have := HS.out; omega
    clear HS hneg
    go_wp2_with fail
    refine (tminus_any T _ _ _ w2 H1.out).mono ?_; rintro en w3 ⟨rfl, k3, g3⟩
    have K3 := Lib.hid k3; have K2 := Lib.hid (H2.out.grown g3 (by omega)); have KB := Lib.hid (bel_grown HB.out (Nat.le_refl _) g3 (Nat.le_refl _))
    clear k3 g3
    go_wp2_with (first
      | (refine wpList_load_cells rfl 122 _ rfl w.heap.size 0 rfl (rowOf (dz (-T))) _ K3.out.row Tryz.underlying122 rfl (by rw [rowOf_len]; exact info_total) ?_)
      | (refine wpList_store_cells rfl 122 _ _ rfl (w.heap.size + 1) 0 (rowOf (dz (-T))) rfl rfl 122 (rowOf (dz 0)) K2.out.heap' (by rw [rowOf_len]; exact info_total) (by rw [rowOf_len, rowOf_len]; exact Nat.le_refl _) (rowOf_one _) ?_))
    have k4 := K2.out.laid' (h := dz (-T))
    refine bodyPost_ret (v := .agg (rowOf (dz (-T))).toArray) (results_cell_row Tryz.results217 _ _ _ _ _ _ _ rfl k4.heap' Tryz.underlying122 rfl (by rw [List.size_toArray, rowOf_len]; exact info_total)) rfl ?_
    exact ⟨rfl, bel_grown KB.out (Nat.le_refl _) (grown_row _ _ _) (by omega)⟩
  · have t1 : decide (T < 0) = false := decide_eq_false hneg
    obtain rfl : S = T := by have := HS.out; omega
    clear HS hneg
    go_wp2_with (first
      | (refine wpList_load_cells rfl 122 _ rfl w.heap.size 0 rfl (rowOf (dz S)) _ H1.out.row Tryz.underlying122 rfl (by rw [rowOf_len]; exact info_total) ?_)
      | (refine wpList_store_cells rfl 122 _ _ rfl (w.heap.size + 1) 0 (rowOf (dz S)) rfl rfl 122 (rowOf (dz 0)) H2.out.heap' (by rw [rowOf_len]; exact info_total) (by rw [rowOf_len, rowOf_len]; exact Nat.le_refl _) (rowOf_one _) ?_))
    have k4 := H2.out.laid' (h := dz S)
    refine bodyPost_ret (v := .agg (rowOf (dz S)).toArray) (results_cell_row Tryz.results217 _ _ _ _ _ _ _ rfl k4.heap' Tryz.underlying122 rfl (by rw [List.size_toArray, rowOf_len]; exact info_total)) rfl ?_
    exact ⟨rfl, bel_grown HB.out (Nat.le_refl _) (grown_row _ _ _) (by omega)⟩
end Go.Proofs.YteahdgbokjbgcaaGreatDoor
namespace Go.Proofs.YteahdgbokjbgcaaGreatDoor
open Go.RowKit
set_option linter.unusedVariables false
set_option linter.unusedSimpArgs false

theorem rowOf_all (f : Nat → Int) : (rowOf f).toArray.all (·.oneCell') = true := by
  rw [Array.all_eq_true_iff_forall_mem]
  intro v hv
  exact rowOf_one f v (by simpa using hv)
theorem Tot.whole {w : World} {g : Nat} {t : TypeId} {f h : Nat → Int} (hT : Tot w g t f []) : Tot (w.setRow g (rowOf h).toArray) g t h [] := by
  unfold Tot at *
  rw [heap_setRow, if_pos rfl, hT, List.append_nil]; rfl
/-- what an accumulator's value is as a Dyad -/
def exO (T : Int) : Option D := formF (decide (T < 0)) T.natAbs (-2148)

set_option maxRecDepth 10000 in
set_option maxHeartbeats 8000000 in
theorem exact_any (A : Ac) (g : Nat) (w : World) (h : AccAt w g A) (hk : ¬ Gt A.T) (hT : Tab w) :
    Calls Tryz.prog 106 #[.pointer (some ⟨g, 0, none⟩)] w fun en w' => CameD w w' (outO (exO A.T)) en := by
  have hf := fits_of_not_gt hk
  obtain ⟨i0, hi, hz0, hz1, hz2⟩ := info_parts infoW
  obtain ⟨S, hS⟩ : ∃ S : Int, S = (A.T.natAbs : Int) := ⟨_, rfl⟩
  have hSf : Fits S ∧ 0 ≤ S := by
    refine ⟨?_, by omega⟩
    unfold Gt at hk
    refine fits_of_not_gt ?_
    unfold Gt
    omega
  have hSz := fun W => tsize_any A.T W hf
  rw [← hS] at hSz
  have hNg := fun W (hh : AccAt W g A) => tneg_any A.T g _ _ W hf hh
  obtain ⟨o, ho⟩ : ∃ o, o = exO A.T := ⟨_, rfl⟩
  rw [← ho]
  have hn : num (halves S 67) = A.T.natAbs := by rw [num_halves_all hSf.2 hSf.1]; omega
  have hMk : ∀ W a c, Below w.heap.size w W → Own W 118 w.heap.size a c (halves S 67) → Calls Tryz.prog 197 #[.bool (decide (A.T < 0)), .slice a (halves S 67).length c, .int .i64 (-2148)] W fun en w' => Came W w' o en := by
    intro W a c hw hO
    have := dmake_any (decide (A.T < 0)) a c (halves S 67) (-2148) W ⟨hO.sl (halves_w32 _ _), by show (halves S 67).length ≤ _; rw [halves_len]; decide, by show (-9223372036854775808 : Int) ≤ -2148; decide, by show (-2148 : Int) ≤ 9223372036854775807; decide⟩ (hT.grow hw)
    rw [hn] at this
    rw [ho]; exact this
  have hlt := Tot.lt h
  have HSz := Lib.hid hSz; have HNg := Lib.hid hNg; have HMk := Lib.hid hMk; have HA := Lib.hid h
  have HS0 := Lib.hid hSf
  clear hSz hNg hMk h hSf hS hn ho hf hk hT
  go_enter Tryz.func106, Tryz.ntmps106
  obtain ⟨w1, h1⟩ : ∃ W, W = w.alloc (.cells #[.bool false, .slice none 0 0, .int .i64 0] 46) := ⟨_, rfl⟩
  have HA1 : Hid (AccAt w1 g A) := by rw [h1]; exact Tot.alloc HA.out _
  go_wp2_with (rw [← h1]; refine wpList_load_cells rfl 122 _ rfl g 0 rfl (rowOf (dz A.T)) _ (Tot.row HA1.out) Tryz.underlying122 rfl (by rw [rowOf_len]; exact info_total) ?_)
  rw [← h1]
  obtain ⟨k1, hB, s1⟩ := new_cel h1 rfl
  clear h1
  refine (HSz.out w1).mono ?_; rintro en w2 ⟨rfl, hb⟩
  replace k1 := k1.below hb (by omega)
  have HA2 : Hid (AccAt w2 g A) := Tot.below HA1.out hb (by omega)
  replace hB := hB.trans (hb.mono hB.size)
  have z2 := hb.size
  clear hb HA1
  obtain ⟨w3, h3⟩ : ∃ W, W = w2.alloc (.cells Tryz.zeroCells122 122) := ⟨_, rfl⟩
  have hk3 : Tot w3 w2.heap.size 122 (dz 0) [] := by rw [h3, zero_total]; exact tot_new _ _ _ _
  obtain ⟨_, b3, s3⟩ := new_of h3 rfl
  have HK3 := Lib.hid hk3
  have HG4 := Lib.hid (grown_row w3 w2.heap.size (rowOf (dz S)).toArray)
  have HK4 := Lib.hid (hk3.whole (h := dz S))
  have H3 := Lib.hid h3
  clear hk3 h3
  go_wp2_with (first
    | (rw [← H3.out]; refine wpList_store_row rfl 122 _ _ rfl w2.heap.size (rowOf (dz S)).toArray rfl rfl 122 (rowOf (dz 0)).toArray HK3.out.heap' (by rw [List.size_toArray, rowOf_len]; exact info_total) (by rw [List.size_toArray, List.size_toArray, rowOf_len, rowOf_len]) (rowOf_all _) ?_)
    | (refine wpList_load_cells rfl 122 _ rfl w2.heap.size 0 rfl (rowOf (dz S)) _ HK4.out.row Tryz.underlying122 rfl (by rw [rowOf_len]; exact info_total) ?_))
  obtain ⟨w4, h4⟩ : ∃ W, W = w3.setRow w2.heap.size (rowOf (dz S)).toArray := ⟨_, rfl⟩
  rw [← h4]
  have hg4 := HG4.out
  rw [← h4] at hg4
  have s4 : w4.heap.size = w3.heap.size := by rw [h4]; simp
  replace k1 := k1.below b3 k1.lt
  replace k1 := cel_grown k1 hg4 (by omega)
  have HA4 : Hid (AccAt w4 g A) := Tot.grown (Tot.below HA2.out b3 (by omega)) hg4 (by omega)
  have hB4 : Below w.heap.size w w4 := bel_grown (hB.trans (b3.mono hB.size)) (Nat.le_refl _) hg4 (by omega)
  have HB4 := Lib.hid hB4; have HK1 := Lib.hid k1
  have y4 := hB4.size
  have y1 := k1.lt
  clear h4 hg4 HG4 HK4 HK3 H3 hB hB4 k1 b3 s3 s4 s1 z2 HA2
  go_loopw [4, 15] (fun s i wr => ∃ (n : Nat) (a : Option Addr) (c : Nat), n ≤ 67 ∧ i = .int .i64 n ∧ s = .slice a (2 * n) c ∧ Hid (Own wr 118 w4.heap.size a c (halves S n) ∧ Below w4.heap.size w4 wr)) (fun _ i _ => 67 - (intOf i).toNat)
  case atStart => exact ⟨0, none, 0, by omega, rfl, rfl, Own.none _ _ _, Below.refl _ _⟩
  case round =>
    obtain ⟨n, a, c, hn, rfl, rfl, hH⟩ := hrel
    by_cases hlt : n < 67
    · have hix := fun W => run_index_row (dz S) W hlt
      have b1 := dz_ge S n
      have b2 := dz_lt S n
      unfold W64 at b2
      obtain ⟨lo, hlo⟩ : ∃ x : Nat, x = (dz S n % 4294967296).toNat := ⟨_, rfl⟩
      obtain ⟨hi', hhi⟩ : ∃ x : Nat, x = (dz S n / 4294967296).toNat := ⟨_, rfl⟩
      have hBk := blk_alloc wr 118 #[.int .u32 (dz S n % 4294967296), .int .u32 (dz S n / 4294967296)] [lo, hi'] (by simp; omega)
      have HBk := Lib.hid hBk
      have HH := Lib.hid (show halves S (n + 1) = halves S n ++ [lo, hi'] by rw [hlo, hhi]; rfl)
      have hsz := hH.out.2.size
      have HL := Lib.hid (halves_len S n)
      clear hBk hlo hhi
      go_wp2_with (first | (at_builtin; refine wpList_append_words rfl _ _ 44 rfl 118 i0 Tryz.underlying44 hi hz0 hz1 hz2 w4.heap.size a (some ⟨wr.heap.size, 0, none⟩) (2 * n) c 2 2 (halves S n) [lo, hi'] rfl rfl HL.out.symm rfl (hH.out.1.grow ((Below.refl _ _).alloc (Nat.le_refl _) _)) HBk.out.rd (by intro h; cases h) (by omega) (by rw [World.size_alloc]; omega) ?_; intro a2 c2 w5 ho2 hg2 hn2))
      have HO := Lib.hid (show Own w5 118 w4.heap.size a2 c2 (halves S (n + 1)) by rw [HH.out]; exact ho2)
      have hbb : Below w4.heap.size w4 w5 := by
        refine hH.out.2.trans (((Below.refl _ _).alloc (by omega) _).trans ⟨hg2.os, hg2.tape, hg2.output, hg2.size, fun j hj => hg2.block j (by rw [World.size_alloc]; omega) ?_⟩)
        intro h
        obtain ⟨ad, had, hj2⟩ := Option.map_eq_some_iff.1 h.symm
        have := hH.out.1.ge ad had
        omega
      have HBB := Lib.hid hbb
      clear ho2 hg2 hn2 hbb hix b1 b2
      go_wp2_with fail
      go_roundw
      case rel => exact ⟨n + 1, a2, c2, by omega, by go_num, by rw [show 2 * (n + 1) = 2 * n + 2 by omega], HO.out, HBB.out⟩
      case measure => simp [intOf]; omega
    · obtain rfl : n = 67 := by omega
      have hL := hH.out.2
      have HAr : Hid (AccAt wr g A) := Tot.below HA4.out hL (by omega)
      have HO := Lib.hid (hH.out.1.mono y4)
      have hBr := HB4.out.trans (hL.mono y4)
      have HK := Lib.hid (HK1.out.below hL y1)
      have hNg := HNg.out wr HAr.out
      have hMk := HMk.out wr a c hBr HO.out
      rw [halves_len] at hMk
      have yr := hBr.size
      have yl := hL.size
      have HBr := Lib.hid hBr; have HNg' := Lib.hid hNg; have HMk' := Lib.hid hMk
      clear hBr hNg hMk hL hH hlt hn
      go_wp2_with fail
      refine HNg'.out.mono ?_; rintro en w' ⟨rfl, rfl⟩
      go_wp2_with fail
      refine HMk'.out.mono ?_; rintro en w6 ⟨v, rfl, ⟨a1, c1, rfl, ho⟩, hb⟩
      simp only [dyV]
      have k6 := HK.out.below hb (by omega)
      have hB6 := HBr.out.trans (hb.mono yr)
      have y6 := hb.size
      clear hb
      obtain ⟨d, hd⟩ : ∃ d, d = outO o := ⟨_, rfl⟩
      rw [← hd] at ho ⊢
      have r6 := (k6.alloc (.cells #[.bool d.neg, .slice a1 (words d.m).length c1, .int .i64 d.exp] 46)).wr (.bool d.neg) (.slice a1 (words d.m).length c1) (.int .i64 d.exp)
      have hO6 := (own_wr3 (v0 := .bool d.neg) (v1 := .slice a1 (words d.m).length c1) (v2 := .int .i64 d.exp) (own_alloc ho (.cells #[.bool d.neg, .slice a1 (words d.m).length c1, .int .i64 d.exp] 46)) (show w.heap.size < _ by omega)).mono yr
      have hE6 := below_wr3 (g := w.heap.size) (v0 := .bool d.neg) (v1 := .slice a1 (words d.m).length c1) (v2 := .int .i64 d.exp) (bel_alloc hB6 (Nat.le_refl _) (.cells #[.bool d.neg, .slice a1 (words d.m).length c1, .int .i64 d.exp] 46)) (Nat.le_refl _)
      have HD := Lib.hid hd; have R6 := Lib.hid r6; have O6 := Lib.hid hO6; have E6 := Lib.hid hE6
      obtain ⟨_, _, _, _, _, _⟩ := (k6.alloc (.cells #[.bool d.neg, .slice a1 (words d.m).length c1, .int .i64 d.exp] 46)).facts
      clear r6 hO6 hE6 hB6 ho hd
      go_wp2_with fail
      have q6 := R6.out
      have e6 := E6.out
      have p6 := O6.out
      unfold wr3 at q6 e6 p6
      obtain ⟨c0, cc1, cc2, _, _, _⟩ := q6.facts
      refine bodyPost_ret (v := dyV d a1 c1) (by simp [results, Tryz.results106, go_sem, dyV, c0, cc1, cc2]) rfl ?_
      rw [← HD.out]
      exact ⟨_, rfl, ⟨a1, c1, rfl, p6⟩, e6⟩
end Go.Proofs.YteahdgbokjbgcaaGreatDoor
namespace Go.Proofs.YteahdgbokjbgcaaGreatDoor
open Go.RowKit
set_option linter.unusedVariables false
set_option linter.unusedSimpArgs false

instance gtDec (T : Int) : Decidable (Gt T) := by unfold Gt; infer_instance
/-- a thing as the program has it -/
structure Th where
  c : Int
  neg : Bool
  vneg : Bool
  p : Nat
  V : Int
def Th.val (t : Th) : Value := .agg #[.int .i64 t.c, .bool t.neg, .bool t.vneg, .int .i64 (t.p : Int), .int .u64 (dz t.V 0), .int .u64 (dz t.V 1), .int .u64 (dz t.V 2)]
def Th.v (t : Th) : Int := if t.vneg = true then -placed t.V t.p else placed t.V t.p
def Th.ac (t : Th) : Ac := mkT t.c t.neg t.v
structure Th.Ok (t : Th) : Prop where
  V0 : 0 ≤ t.V
  V1 : t.V < W64 ^ 3
  p : t.p + 3 ≤ 66
theorem placed_bd {V : Int} {p : Nat} (h0 : 0 ≤ V) (h1 : V < W64 ^ 3) (hp : p + 3 ≤ 66) : 0 ≤ placed V p ∧ placed V p < W64 ^ 66 := by
  unfold placed
  have hq := w64_pos p
  refine ⟨Int.mul_nonneg h0 (Int.le_of_lt hq), ?_⟩
  have h2 : V * W64 ^ p < W64 ^ 3 * W64 ^ p := Int.mul_lt_mul_of_pos_right h1 hq
  rw [← w64_add] at h2
  obtain ⟨k, hk⟩ : ∃ k, 66 = 3 + p + k := ⟨66 - 3 - p, by omega⟩
  have h3 : W64 ^ (3 + p) * 1 ≤ W64 ^ (3 + p) * W64 ^ k := Int.mul_le_mul_of_nonneg_left (w64_pos k) (Int.le_of_lt (w64_pos _))
  rw [← w64_add, ← hk] at h3
  omega
theorem Th.not_gt {t : Th} (h : t.Ok) : ¬ Gt t.v ∧ ¬ Gt (placed t.V t.p) := by
  obtain ⟨h1, h2⟩ := placed_bd h.V0 h.V1 h.p
  have hp := w64_pos 66
  unfold Gt Th.v
  generalize W64 ^ 66 = P at *
  generalize placed t.V t.p = x at *
  constructor
  · split <;> omega
  · omega
/-- where a thing of a class is counted -/
def cntO (c : Int) (neg : Bool) : Option Nat := if c = 4 then some 67 else if c = 3 then (if neg = true then some 69 else some 68) else if c = 0 then (if neg = true then some 70 else some 71) else none
theorem Th.cases (t : Th) : t.c = 4 ∨ (t.c = 3 ∧ t.neg = true) ∨ (t.c = 3 ∧ t.neg = false) ∨ (t.c = 0 ∧ t.neg = true) ∨ (t.c = 0 ∧ t.neg = false) ∨ (t.c ≠ 4 ∧ t.c ≠ 3 ∧ t.c ≠ 0) := by
  by_cases h1 : t.c = 4
  · exact .inl h1
  · by_cases h2 : t.c = 3
    · cases h : t.neg <;> simp [h2]
    · by_cases h3 : t.c = 0
      · cases h : t.neg <;> simp [h3]
      · simp [h1, h2, h3]

set_option maxRecDepth 10000 in
set_option maxHeartbeats 8000000 in
theorem count_any (t : Th) (g : Nat) (w : World) (hg : g < w.heap.size) :
    Calls Tryz.prog 266 #[.pointer (some ⟨g, 0, none⟩), t.val] w fun en w' => en = .returned (.pointer ((cntO t.c t.neg).map fun o => ⟨g, o, none⟩)) ∧ Below w.heap.size w w' := by
  have hcs := t.cases
  obtain ⟨c, neg, vneg, p, V⟩ := t
  simp only [Th.val] at hcs ⊢
  have fin := Lib.hid (Below.alloc (Below.refl w.heap.size w) (Nat.le_refl _) (.cells #[.int .i64 c, .bool neg, .bool vneg, .int .i64 (p : Int), .int .u64 (dz V 0), .int .u64 (dz V 1), .int .u64 (dz V 2)] 217))
  rcases hcs with rfl | ⟨rfl, rfl⟩ | ⟨rfl, rfl⟩ | ⟨rfl, rfl⟩ | ⟨rfl, rfl⟩ | ⟨h1, h2, h3⟩
  · go_enter Tryz.func266, Tryz.ntmps266
    go_wp2_with fail
    go_ret
    exact ⟨rfl, fin.out⟩
  · go_enter Tryz.func266, Tryz.ntmps266
    go_wp2_with fail
    go_ret
    exact ⟨rfl, fin.out⟩
  · go_enter Tryz.func266, Tryz.ntmps266
    go_wp2_with fail
    go_ret
    exact ⟨rfl, fin.out⟩
  · go_enter Tryz.func266, Tryz.ntmps266
    go_wp2_with fail
    go_ret
    exact ⟨rfl, fin.out⟩
  · go_enter Tryz.func266, Tryz.ntmps266
    go_wp2_with fail
    go_ret
    exact ⟨rfl, fin.out⟩
  · have e1 : (c == 4) = false := by simpa using h1
    have e2 : (c == 3) = false := by simpa using h2
    have e3 : (c == 0) = false := by simpa using h3
    have e4 : cntO c neg = none := by unfold cntO; rw [if_neg h1, if_neg h2, if_neg h3]
    rw [e4]
    clear h1 h2 h3 e4
    go_enter Tryz.func266, Tryz.ntmps266
    go_wp2_with fail
    go_ret
    exact ⟨rfl, fin.out⟩

def mvT (T V : Int) (p : Nat) (b : Bool) : Int := if b = true then T - placed V p else T + placed V p
theorem tmove_any (T V : Int) (p g : Nat) (t : TypeId) (rest : List Value) (neg less : Bool) (w : World) (h0 : 0 ≤ V) (h1 : V < W64 ^ 3) (hp : p + 3 ≤ 67) (hT : Tot w g t (dz T) rest) :
    Calls Tryz.prog 309 #[.pointer (some ⟨g, 0, none⟩), .agg #[.bool neg, .int .i64 (p : Int), .int .u64 (dz V 0), .int .u64 (dz V 1), .int .u64 (dz V 2)], .bool less] w fun en w' => en = .returned (.tuple #[]) ∧ Tot w' g t (dz (mvT T V p (neg != less))) rest ∧ w.grownBy w' (some g) := by
  cases hm : (neg != less)
  · exact tmove_add T V p g t rest neg less w hm h0 h1 hp hT
  · exact tmove_sub T V p g t rest neg less w hm h0 h1 hp hT
theorem mvT_back (T V : Int) (p : Nat) (b : Bool) : mvT (mvT T V p b) V p (!b) = T := by
  unfold mvT; cases b <;> simp <;> omega
def PutR (w : World) (g : Nat) (t : TypeId) (rest : List Value) (T T' : Int) (en : Ending) (w' : World) : Prop :=
  ∃ b : Bool, en = .returned (.bool b) ∧ (b = true ↔ ¬ Gt T') ∧ Tot w' g t (dz (if b = true then T' else T)) rest ∧ w.grownBy w' (some g)

set_option maxRecDepth 10000 in
set_option maxHeartbeats 8000000 in
theorem put_any (T V : Int) (p g : Nat) (t : TypeId) (rest : List Value) (neg less : Bool) (w : World) (h0 : 0 ≤ V) (h1 : V < W64 ^ 3) (hp : p + 3 ≤ 66) (hk : ¬ Gt T) (hT : Tot w g t (dz T) rest) :
    Calls Tryz.prog 267 #[.pointer (some ⟨g, 0, none⟩), .agg #[.bool neg, .int .i64 (p : Int), .int .u64 (dz V 0), .int .u64 (dz V 1), .int .u64 (dz V 2)], .bool less] w (PutR w g t rest T (mvT T V p (neg != less))) := by
  have hgl := hT.lt
  have hb := mvT_back T V p (neg != less)
  have hfit : Fits (mvT T V p (neg != less)) := by
    have h3 := (Th.not_gt (t := ⟨2, neg, neg, p, V⟩) ⟨h0, h1, hp⟩).2
    have h4 := fits_sum hk h3
    unfold mvT; split
    · exact h4.2
    · exact h4.1
  have hM1 : ∀ W, Tot W g t (dz T) rest → Calls Tryz.prog 309 #[.pointer (some ⟨g, 0, none⟩), .agg #[.bool neg, .int .i64 (p : Int), .int .u64 (dz V 0), .int .u64 (dz V 1), .int .u64 (dz V 2)], .bool less] W fun en w' => en = .returned (.tuple #[]) ∧ Tot w' g t (dz (mvT T V p (neg != less))) rest ∧ W.grownBy w' (some g) := fun W hW => tmove_any T V p g t rest neg less W h0 h1 (by omega) hW
  have hM2 : ∀ W, Tot W g t (dz (mvT T V p (neg != less))) rest → Calls Tryz.prog 309 #[.pointer (some ⟨g, 0, none⟩), .agg #[.bool neg, .int .i64 (p : Int), .int .u64 (dz V 0), .int .u64 (dz V 1), .int .u64 (dz V 2)], .bool (!less)] W fun en w' => en = .returned (.tuple #[]) ∧ Tot w' g t (dz T) rest ∧ W.grownBy w' (some g) := by
    intro W hW
    have := tmove_any (mvT T V p (neg != less)) V p g t rest neg (!less) W h0 h1 (by omega) hW
    rw [show (neg != !less) = !(neg != less) by cases neg <;> cases less <;> rfl, hb] at this
    exact this
  generalize mvT T V p (neg != less) = T' at *
  have hGr := fun W (hW : Tot W g t (dz T') rest) => tgreat_any T' g t rest W hfit hW
  have HM1 := Lib.hid hM1; have HM2 := Lib.hid hM2; have HGr := Lib.hid hGr; have HT := Lib.hid hT
  clear hM1 hM2 hGr hT hb hfit h0 h1 hk
  go_enter Tryz.func267, Tryz.ntmps267
  go_wp2_with fail
  obtain ⟨w1, e1⟩ : ∃ W, W = w.alloc (.cells #[.bool neg, .int .i64 (p : Int), .int .u64 (dz V 0), .int .u64 (dz V 1), .int .u64 (dz V 2)] 215) := ⟨_, rfl⟩
  rw [← e1]
  obtain ⟨hTm, hb, s1⟩ := new_of e1 rfl
  replace hTm : TmAt w1 w.heap.size neg V p := hTm
  have hT1 := HT.out.below hb hgl
  have hG1 : w.grownBy w1 (some g) := gr_below hb
  clear e1 hb
  obtain ⟨k0, k1, k2, k3, k4⟩ := hTm.cells
  have HTm := Lib.hid hTm; have HT1 := Lib.hid hT1; have HG1 := Lib.hid hG1
  clear hTm hT1 hG1
  go_region_with ((go_at_call 309; refine (HM1.out _ HT1.out.drew).mono ?_; rintro en w2 ⟨rfl, hT2, hG2⟩))
  have hG2' : w.grownBy w2 (some g) := gr_trans HG1.out ⟨hG2.os, hG2.tape, hG2.output, hG2.size, hG2.block⟩
  have hTm2 : TmAt w2 w.heap.size neg V p := HTm.out.grown ⟨hG2.os, hG2.tape, hG2.output, hG2.size, hG2.block⟩ (by omega)
  obtain ⟨k0, k1, k2, k3, k4⟩ := hTm2.cells
  have HT2 := Lib.hid hT2; have HG2 := Lib.hid hG2'
  clear hT2 hG2 hG2' hTm2 HTm HT1 HG1 s1
  go_wp2_with fail
  refine (HGr.out w2 HT2.out).mono ?_; rintro en w' ⟨b, rfl, hbi, rfl⟩
  have HBI := Lib.hid hbi
  clear hbi
  cases b
  · go_wp2_with fail
    go_ret
    have hno : ¬ Gt T' := fun h => by have := HBI.out.2 h; simp at this
    exact ⟨true, rfl, ⟨fun _ => hno, fun _ => rfl⟩, HT2.out, HG2.out⟩
  · go_wp2_with fail
    go_region_with ((go_at_call 309; refine (HM2.out _ HT2.out.drew).mono ?_; rintro en w3 ⟨rfl, hT3, hG3⟩))
    have HT3 := Lib.hid hT3
    have HG3 : Hid (w.grownBy w3 (some g)) := gr_trans HG2.out ⟨hG3.os, hG3.tape, hG3.output, hG3.size, hG3.block⟩
    clear hT3 hG3
    go_wp2_with fail
    go_ret
    have hyes : Gt T' := HBI.out.1 (by trivial)
    exact ⟨false, rfl, ⟨fun h => absurd h (by decide), fun h => absurd hyes h⟩, HT3.out, HG3.out⟩
end Go.Proofs.YteahdgbokjbgcaaGreatDoor

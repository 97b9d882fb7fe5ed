/- The document's products in numbers: kinds, values. Contracts: super's special, Round of whatever mode and policy. No statement of the seat is proved here. -/
import Derived.Test.YteahdgbokjbgcaaGreatDoorProg
import Derived.Test.YteahdgbokjbgcaaGreatDoorYKg
namespace Go.Proofs.YteahdgbokjbgcaaGreatDoor
open Go.RowKit
set_option maxRecDepth 10000
set_option linter.unusedVariables false
set_option linter.unusedSimpArgs false

theorem pt_kind (b : Nat) (hb : b < 18446744073709551616) :
    ((ptOf b).c = 4 ∧ kindN b = 5) ∨ ((ptOf b).c = 3 ∧ (ptOf b).s = decide (9223372036854775808 ≤ b) ∧ kindN b = if 9223372036854775808 ≤ b then 4 else 3) ∨
    ((ptOf b).c = 0 ∧ (ptOf b).s = decide (9223372036854775808 ≤ b) ∧ kindN b = if 9223372036854775808 ≤ b then 1 else 2) ∨
    (((ptOf b).c = 1 ∨ (ptOf b).c = 2) ∧ (ptOf b).s = decide (9223372036854775808 ≤ b) ∧ kindN b = 0) := by
  have hs : (b / 9223372036854775808 % 2 == 1) = decide (9223372036854775808 ≤ b) := by
    by_cases h1 : 9223372036854775808 ≤ b
    · rw [decide_eq_true h1, show b / 9223372036854775808 % 2 = 1 by omega]; rfl
    · rw [decide_eq_false h1, show b / 9223372036854775808 % 2 = 0 by omega]; rfl
  have hx : b % 9223372036854775808 = (b / 4503599627370496 % 2048) * 4503599627370496 + b % 4503599627370496 := by omega
  have hx2 : b / 4503599627370496 % 2048 ≤ 2047 := by omega
  have hf : b % 4503599627370496 < 4503599627370496 := by omega
  unfold ptOf kindN
  rw [hs, hx]
  generalize b / 4503599627370496 % 2048 = ex at *
  generalize b % 4503599627370496 = fr at *
  by_cases h1 : ex = 2047
  · subst h1
    by_cases h2 : fr = 0
    · subst h2
      rw [if_pos rfl, if_neg (by simp), if_neg (by omega), if_pos (by omega)]
      exact .inr (.inl ⟨rfl, rfl, rfl⟩)
    · rw [if_pos rfl, if_pos (show fr ≠ 0 from h2), if_pos (show 9218868437227405312 < 2047 * 4503599627370496 + fr by omega)]
      exact .inl ⟨rfl, rfl⟩
  · rw [if_neg h1, if_neg (show ¬ 9218868437227405312 < ex * 4503599627370496 + fr by omega), if_neg (show ¬ ex * 4503599627370496 + fr = 9218868437227405312 by omega)]
    by_cases h3 : 0 < ex
    · rw [if_pos h3, if_neg (show ¬ ex * 4503599627370496 + fr = 0 by omega)]
      exact .inr (.inr (.inr ⟨.inr rfl, rfl, rfl⟩))
    · obtain rfl : ex = 0 := by omega
      rw [if_neg h3]
      by_cases h4 : 0 < fr
      · rw [if_pos h4, if_neg (show ¬ 0 * 4503599627370496 + fr = 0 by omega)]
        exact .inr (.inr (.inr ⟨.inl rfl, rfl, rfl⟩))
      · obtain rfl : fr = 0 := by omega
        rw [if_neg h4, if_pos (show 0 * 4503599627370496 + 0 = 0 from rfl)]
        exact .inr (.inr (.inl ⟨rfl, rfl, rfl⟩))
def bigB (b : Nat) : Bool := decide (9223372036854775808 ≤ b)
/-- the kind of a product of two kinds, of two signs that differ or not -/
def kindPB (k l : Int) (s : Bool) : Int :=
  if k = 5 ∨ l = 5 ∨ ((k = 1 ∨ k = 2) ∨ (l = 1 ∨ l = 2)) ∧ ((k = 3 ∨ k = 4) ∨ (l = 3 ∨ l = 4)) then 5
  else if (k = 3 ∨ k = 4) ∨ (l = 3 ∨ l = 4) then (if s = true then 4 else 3)
  else if (k = 1 ∨ k = 2) ∨ (l = 1 ∨ l = 2) then (if s = true then 1 else 2) else 0
def kindP (b c : Nat) : Int := kindPB (kindN b) (kindN c) (bigB b != bigB c)
theorem kindPB_bd (k l : Int) (s : Bool) : 0 ≤ kindPB k l s ∧ kindPB k l s ≤ 5 := by
  unfold kindPB
  split; · decide
  split; · split <;> decide
  split; · split <;> decide
  decide
theorem prT_kT (b c : Nat) (hb : b < 18446744073709551616) (hc : c < 18446744073709551616) : prT b c = kT (kindP b c) (prT b c).T ∧ (kindP b c ≠ 0 → (prT b c).T = 0) ∧ (kindP b c = 0 → kindN b = 0 ∧ kindN c = 0 ∧ (prT b c).T = sgn ((ptOf b).s != (ptOf c).s) ((ptOf b).f * (ptOf c).f * 2 ^ ((ptOf b).e + (ptOf c).e + 2148).toNat)) := by
  unfold kindP bigB prT prC
  generalize sgn ((ptOf b).s != (ptOf c).s) ((ptOf b).f * (ptOf c).f * 2 ^ ((ptOf b).e + (ptOf c).e + 2148).toNat) = V
  rcases pt_kind b hb with ⟨h1, h2⟩ | ⟨h1, h3, h2⟩ | ⟨h1, h3, h2⟩ | ⟨h1, h3, h2⟩ <;> rcases pt_kind c hc with ⟨j1, j2⟩ | ⟨j1, j3, j2⟩ | ⟨j1, j3, j2⟩ | ⟨j1, j3, j2⟩
  all_goals
    rw [h2, j2]
    try rw [h3]
    try rw [j3]
    try (rcases h1 with h1 | h1)
    all_goals
      rw [h1]
      try (rcases j1 with j1 | j1)
      all_goals
        rw [j1]
        by_cases h9 : 9223372036854775808 ≤ b <;> by_cases j9 : 9223372036854775808 ≤ c <;> simp [mkT, kT, kindPB, h9, j9, Int.min_def, Int.max_def]
/-- the value of a finite number in its own units -/
theorem dy_num {b : Nat} (hb : b < 18446744073709551616) (h : kindN b = 0) {d : D} (hd : DT d (numT b).T) : Dy (-1074) 66 d (fV b) := by
  obtain ⟨j, hj⟩ : ∃ j, j = 66 := ⟨_, rfl⟩
  obtain ⟨p, h1, h2⟩ := dt_num hb h
  obtain ⟨q, h3, h4⟩ := Dy.of ((numT_kT b hb).2.2 h) hj
  rw [h1] at h3
  cases h3
  rw [← h2.uniq hd]
  rw [← hj]; exact h4
theorem mul_num {b c : Nat} (hb : b < 18446744073709551616) (hc : c < 18446744073709551616) (h : kindP b c = 0) {p q : D} (hp : DT p (numT b).T) (hq : DT q (numT c).T) : ∃ d, mulD p q = some d ∧ DT d (prT b c).T := by
  obtain ⟨_, _, h3⟩ := prT_kT b c hb hc
  obtain ⟨k1, k2, h3⟩ := h3 h
  have f1 := (numT_fV hb ((numT_kT b hb).2.2 k1)).1
  have f2 := (numT_fV hc ((numT_kT c hc).2.2 k2)).1
  obtain ⟨d, e1, e2⟩ := (dy_num hb k1 hp).mul (dy_num hc k2 hq) ⟨by decide, by decide, by decide⟩
  refine ⟨d, e1, ?_⟩
  obtain ⟨P, hP⟩ : ∃ P : Nat, P = 1074 := ⟨_, rfl⟩
  have hz : fV b * fV c = (prT b c).T := by
    obtain ⟨r1, r2, r3, r4, r5, r6⟩ := ptOf_bd b
    obtain ⟨s1, s2, s3, s4, s5, s6⟩ := ptOf_bd c
    have g1 : (numT b).T = sgn (ptOf b).s ((ptOf b).f * 2 ^ ((ptOf b).e + 2148).toNat) := by
      rcases pt_kind b hb with ⟨_, h⟩ | ⟨_, _, h⟩ | ⟨_, _, h⟩ | ⟨h, _⟩
      · rw [k1] at h; cases h
      · rw [k1] at h; split at h <;> cases h
      · rw [k1] at h; split at h <;> cases h
      · unfold numT mkT; rcases h with h | h <;> simp [h]
    have g2 : (numT c).T = sgn (ptOf c).s ((ptOf c).f * 2 ^ ((ptOf c).e + 2148).toNat) := by
      rcases pt_kind c hc with ⟨_, h⟩ | ⟨_, _, h⟩ | ⟨_, _, h⟩ | ⟨h, _⟩
      · rw [k2] at h; cases h
      · rw [k2] at h; split at h <;> cases h
      · rw [k2] at h; split at h <;> cases h
      · unfold numT mkT; rcases h with h | h <;> simp [h]
    rw [f1] at g1
    rw [f2] at g2
    have hPp : (0 : Int) < (PZ : Int) := by rw [PZ_eq hP]; exact Int.natCast_pos.2 (Nat.two_pow_pos _)
    have e3 : fV b * fV c * ((PZ : Int) * (PZ : Int)) = (prT b c).T * ((PZ : Int) * (PZ : Int)) := by
      rw [show fV b * fV c * ((PZ : Int) * (PZ : Int)) = (fV b * PZ) * (fV c * PZ) by ac_rfl, g1, g2, ← sgn_xor, h3, ← Int.natCast_mul, ← sgn_mul]
      congr 1
      rw [PZ_eq hP]
      have : 2 ^ ((ptOf b).e + 2148).toNat * 2 ^ ((ptOf c).e + 2148).toNat = 2 ^ ((ptOf b).e + (ptOf c).e + 2148).toNat * (2 ^ P * 2 ^ P) := by
        rw [← Nat.pow_add, ← Nat.pow_add, ← Nat.pow_add]
        congr 1; omega
      calc _ = (ptOf b).f * (ptOf c).f * (2 ^ ((ptOf b).e + 2148).toNat * 2 ^ ((ptOf c).e + 2148).toNat) := by ac_rfl
        _ = _ := by rw [this]; ac_rfl
    exact Int.eq_of_mul_eq_mul_right (Int.ne_of_gt (Int.mul_pos hPp hPp)) e3
  rw [hz] at e2
  exact e2.up (by decide)
end Go.Proofs.YteahdgbokjbgcaaGreatDoor
namespace Go.Proofs.YteahdgbokjbgcaaGreatDoor
open Go.RowKit
set_option maxRecDepth 10000
set_option linter.unusedVariables false
set_option linter.unusedSimpArgs false

set_option maxHeartbeats 4000000 in
theorem special_bad (mode pn pi : Int) (g : Nat) (w : World) (hb : badM mode pn pi) :
    Calls Tryz.prog 206 #[.pointer (some ⟨g, 0, none⟩), .int .i64 mode, pol pn pi] w fun en w' => en = .returned (.tuple #[.float .f64 0, .bool false, .int .i64 1]) ∧ Below w.heap.size w w' := by
  obtain ⟨w1, e1⟩ : ∃ W, W = w.alloc (.cells #[.int .i64 pn, .int .i64 pi] 61) := ⟨_, rfl⟩
  obtain ⟨k1, b1, s1⟩ := new_of e1 rfl
  have HM := Lib.hid (fun W => may_all pn pi W)
  have HB1 := Lib.hid b1
  have E1 := Lib.hid e1
  unfold pol at HM ⊢
  clear k1 b1 e1 s1
  by_cases m1 : mode < 0
  · clear hb
    go_enter Tryz.func206, Tryz.ntmps206
    go_wp2_with fail
    rw [← E1.out]
    refine bodyPost_ret (v := .tuple #[.float .f64 0, .bool false, .int .i64 1]) (by simp [results, Tryz.results206, go_sem]) rfl ?_
    exact ⟨rfl, HB1.out⟩
  by_cases m2 : 4 < mode
  · clear hb
    go_enter Tryz.func206, Tryz.ntmps206
    go_wp2_with fail
    rw [← E1.out]
    refine bodyPost_ret (v := .tuple #[.float .f64 0, .bool false, .int .i64 1]) (by simp [results, Tryz.results206, go_sem]) rfl ?_
    exact ⟨rfl, HB1.out⟩
  have hp : okP pn pi = false := by
    rcases hb with h | h | h
    · exact absurd h m1
    · exact absurd h m2
    · exact h
  rw [hp] at HM
  clear hb hp
  go_enter Tryz.func206, Tryz.ntmps206
  go_wp2_with fail
  rw [← E1.out]
  refine (HM.out w1).mono ?_; rintro en w2 ⟨rfl, hb⟩
  have HB2 := Lib.hid (HB1.out.trans (hb.mono HB1.out.size))
  clear hb
  go_wp2_with fail
  refine bodyPost_ret (v := .tuple #[.float .f64 0, .bool false, .int .i64 1]) (by simp [results, Tryz.results206, go_sem]) rfl ?_
  exact ⟨rfl, HB2.out⟩
def SpcS (A : Ac) (mode pn pi : Int) (S : Nat × Bool × Int) : Prop := badM mode pn pi ∧ S = (0, false, 1) ∨ ¬ badM mode pn pi ∧ S = specR A mode pn pi
theorem special_all (A : Ac) (mode pn pi : Int) (g : Nat) (hA : A.Ok) : ∃ S : Nat × Bool × Int, SpcS A mode pn pi S ∧ ∀ W, AccAt W g A →
    Calls Tryz.prog 206 #[.pointer (some ⟨g, 0, none⟩), .int .i64 mode, pol pn pi] W fun en w' => en = .returned (.tuple #[.float .f64 S.1, .bool S.2.1, .int .i64 S.2.2]) ∧ Below W.heap.size W w' := by
  by_cases hb : badM mode pn pi
  · exact ⟨(0, false, 1), .inl ⟨hb, rfl⟩, fun W _ => special_bad mode pn pi g W hb⟩
  · refine ⟨specR A mode pn pi, .inr ⟨hb, rfl⟩, fun W hW => ?_⟩
    have h1 : ¬ mode < 0 := fun h => hb (.inl h)
    have h2 : ¬ 4 < mode := fun h => hb (.inr (.inl h))
    have h3 : okP pn pi = true := by
      cases h : okP pn pi
      · exact absurd (.inr (.inr h)) hb
      · rfl
    obtain ⟨⟨p1, p2⟩, p3, p4⟩ := (okP_iff pn pi).1 h3
    exact special_any A mode pn pi g W hA hW (by omega) (by omega) p1 p2 p3 p4
set_option maxHeartbeats 8000000 in
theorem accround_all (A : Ac) (mode pn pi : Int) (g : Nat) (w : World) (hA : A.Ok) (h : AccAt w g A) (hT : Tab w) :
    Calls Tryz.prog 96 #[.pointer (some ⟨g, 0, none⟩), .int .i64 mode, pol pn pi] w (RRound7 A mode pn pi w) := by
  by_cases hb : badM mode pn pi
  · have hS := fun W => special_bad mode pn pi g W hb
    have HB := Lib.hid hb
    unfold pol at *
    have HS := Lib.hid hS
    obtain ⟨w1, e1⟩ : ∃ W, W = w.alloc (.cells #[.int .i64 pn, .int .i64 pi] 61) := ⟨_, rfl⟩
    obtain ⟨k1, b1, s1⟩ := new_of e1 rfl
    have HB1 := Lib.hid b1
    have E1 := Lib.hid e1
    clear hS hb hA h hT k1 b1 s1 e1
    go_enter Tryz.func96, Tryz.ntmps96
    go_wp2_with fail
    rw [← E1.out]
    refine (HS.out w1).mono ?_; rintro en w2 ⟨rfl, hb⟩
    have HB2 := Lib.hid (HB1.out.trans (hb.mono HB1.out.size))
    clear hb
    go_wp2_with fail
    go_ret2
    exact ⟨0, 1, rfl, .inl ⟨HB.out, rfl, rfl⟩, HB2.out⟩
  · have h1 : ¬ mode < 0 := fun h => hb (.inl h)
    have h2 : ¬ 4 < mode := fun h => hb (.inr (.inl h))
    have h3 : okP pn pi = true := by
      cases h : okP pn pi
      · exact absurd (.inr (.inr h)) hb
      · rfl
    obtain ⟨⟨p1, p2⟩, p3, p4⟩ := (okP_iff pn pi).1 h3
    refine (accround_any A mode pn pi g w hA h hT (by omega) (by omega) p1 p2 p3 p4).mono ?_
    rintro en w' ⟨r, er, rfl, h4, h5⟩
    exact ⟨r, er, rfl, .inr ⟨hb, h4⟩, h5⟩
/-- a value of special's as a number of 32 bits -/
def narS (x : Nat) : Nat := if x = nan64 then 2143289344 else if x = inf64 then 2139095040 else if x = ninf64 then 4286578688 else if x = nzero64 then 2147483648 else 0
theorem verd_vals {A : Ac} {pn pi : Int} {x : Nat} (h : verd A pn pi = some x) : x = nan64 ∨ x = inf64 ∨ x = ninf64 := by
  rw [← verB_eq] at h
  unfold verB at h
  split at h
  · cases h; exact .inl rfl
  · split at h
    · split at h
      · cases h; exact .inl rfl
      · split at h
        · cases h; exact .inr (.inl rfl)
        · split at h
          · cases h; exact .inr (.inr rfl)
          · cases h
    · cases h
theorem nought_vals (A : Ac) (mode : Int) : noughtB A mode = 0 ∨ noughtB A mode = nzero64 := by
  unfold noughtB
  split
  · exact .inr rfl
  · exact .inl rfl
theorem specR_vals (A : Ac) (mode pn pi : Int) : ((specR A mode pn pi).2.1 = true ∧ (specR A mode pn pi).2.2 = 0 ∧ ((specR A mode pn pi).1 = nan64 ∨ (specR A mode pn pi).1 = inf64 ∨ (specR A mode pn pi).1 = ninf64 ∨ (specR A mode pn pi).1 = 0 ∨ (specR A mode pn pi).1 = nzero64)) ∨ ((specR A mode pn pi).2.1 = false ∧ (specR A mode pn pi).1 = 0) := by
  unfold specR
  split
  · exact .inr ⟨rfl, rfl⟩
  · split
    · exact .inr ⟨rfl, rfl⟩
    · cases hv : verd A pn pi with
      | some x =>
        left
        refine ⟨rfl, rfl, ?_⟩
        rcases verd_vals hv with h | h | h
        · exact .inl h
        · exact .inr (.inl h)
        · exact .inr (.inr (.inl h))
      | none =>
        dsimp only
        split
        · left
          refine ⟨rfl, rfl, ?_⟩
          rcases nought_vals A mode with h | h
          · exact .inr (.inr (.inr (.inl h)))
          · exact .inr (.inr (.inr (.inr h)))
        · exact .inr ⟨rfl, rfl⟩
/-- what Round32 tells -/
def RoundS (A : Ac) (mode : Int) (S : Nat × Bool × Int) (r : Nat) (er : Int) : Prop :=
  S.2.2 ≠ 0 ∧ r = 0 ∧ er = S.2.2 ∨ S.2.2 = 0 ∧ S.2.1 = true ∧ r = narS S.1 ∧ er = 0 ∨ S.2.2 = 0 ∧ S.2.1 = false ∧ RoundsTo 23 (-149) 2139095040 2147483648 mode (exO A.T) r er
theorem RoundS.uniq {A : Ac} {mode : Int} {S : Nat × Bool × Int} {r r' : Nat} {er er' : Int} (h : RoundS A mode S r er) (h' : RoundS A mode S r' er') : r = r' ∧ er = er' := by
  rcases h with ⟨h1, rfl, rfl⟩ | ⟨h1, h2, rfl, rfl⟩ | ⟨h1, h2, h3⟩ <;> rcases h' with ⟨j1, rfl, rfl⟩ | ⟨j1, j2, rfl, rfl⟩ | ⟨j1, j2, j3⟩
  · exact ⟨rfl, rfl⟩
  · exact absurd j1 h1
  · exact absurd j1 h1
  · exact absurd h1 j1
  · exact ⟨rfl, rfl⟩
  · rw [h2] at j2; cases j2
  · exact absurd h1 j1
  · rw [h2] at j2; cases j2
  · exact h3.uniq j3
theorem SpcS.uniq {A : Ac} {mode pn pi : Int} {S S' : Nat × Bool × Int} (h : SpcS A mode pn pi S) (h' : SpcS A mode pn pi S') : S = S' := by
  rcases h with ⟨h1, rfl⟩ | ⟨h1, rfl⟩ <;> rcases h' with ⟨j1, rfl⟩ | ⟨j1, rfl⟩
  · rfl
  · exact absurd h1 j1
  · exact absurd j1 h1
  · rfl
end Go.Proofs.YteahdgbokjbgcaaGreatDoor

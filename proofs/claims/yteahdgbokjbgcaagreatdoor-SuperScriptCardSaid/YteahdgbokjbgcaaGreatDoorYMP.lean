/- Equality of arrays; contracts of super's special and Round where mode and policy may be. Contract of super's Round where mode and policy may be. Contracts: math.Ldexp at 1, 1000; steelyardlaw07.live. Contract of steelyardlaw07.live; an accumulator of few things. The walk of steelyardlaw07.SuperNumbers: true, in every world whose table of math/bits is laid. No statement of the seat is proved here. -/
import Derived.Test.YteahdgbokjbgcaaGreatDoorProg
import Derived.Test.YteahdgbokjbgcaaGreatDoorYMO
import Derived.Test.YteahdgbokjbgcaaGreatDoorYMH
import Derived.ChangeKeysEq
import Derived.Laws.StructEq
import Derived.Deep.QuietTactic
import Derived.BigQuiet
import Derived.Test.YteahdgbokjbgcaaGreatDoorYMJ
namespace Go.Proofs.YteahdgbokjbgcaaGreatDoor
open Go.RowKit
set_option linter.unusedVariables false
set_option linter.unusedSimpArgs false

theorem run_part_row (f : Nat → Int) (w : World) {i : Nat} (hi : i < 67) : (part 80 (rowOf f).toArray (i * 1)).run Tryz.prog w = .ok (.int .u64 (f i)) w := by
  have ha : (isAgg 80).run Tryz.prog w = .ok false w := by kernel_rfl
  simp only [part, Sem.run_bind, ha, Result.andThen_ok, Nat.mul_one]
  have : (rowOf f).toArray[i]? = some (.int .u64 (f i)) := by rw [List.getElem?_toArray]; exact rowOf_get f hi
  rw [this]; rfl
theorem run_eqItems_row (d : Nat) (f h : Nat → Int) (w : World) : ∀ is : List Nat, (∀ i ∈ is, i < 67) → (Op.eqItems (d + 1) 80 1 (rowOf f).toArray (rowOf h).toArray is).run Tryz.prog w = .ok (decide (∀ i ∈ is, f i = h i)) w
  | [], _ => by simp [Op.eqItems]
  | i :: is, hi => by
    have h1 := hi i (by simp)
    have ih := run_eqItems_row d f h w is (fun j hj => hi j (by simp [hj]))
    simp only [Op.eqItems, Sem.run_bind, run_part_row f w h1, run_part_row h w h1, Result.andThen_ok, run_equalIn_int w d 80 .u64 .u64 (f i) (h i) Tryz.underlying80]
    by_cases he : f i = h i
    · simp [he, ih]
    · simp [he]
theorem run_eql_rows (f h : Nat → Int) (w : World) : (binOp .eql 122 (.agg (rowOf f).toArray) (.agg (rowOf h).toArray)).run Tryz.prog w = .ok (.bool (decide (∀ i ∈ List.range 67, f i = h i))) w := by
  obtain ⟨i, hi⟩ : ∃ i, Tryz.prog.info? 80 = some i := info_of_underlying Tryz.underlying80
  have hc : Tryz.prog.cellsOf 80 = 1 := by kernel_rfl
  rw [run_eql_struct, show (10000 : Nat) = 9999 + 1 from rfl, run_equalIn_array w 9999 _ _ Tryz.underlying122 hi, hc, show (9999 : Nat) = 9998 + 1 from rfl, run_eqItems_row 9998 f h w _ (fun j hj => by simpa using hj)]
  rfl
theorem fits_zero {T : Int} (h : Fits T) : (∀ i ∈ List.range 67, dz T i = dz 0 i) ↔ T = 0 := by
  constructor
  · intro h1
    have h2 : T % W64 ^ 67 = 0 := dz_all_zero.1 fun i hi => by rw [h1 i (by simpa using hi), dz_zero]
    have hp := w64_pos 66
    have h3 := Int.emod_add_mul_ediv T (W64 ^ 66)
    have h4 := (dz_all_zero (T := T) (n := 66)).1 fun i hi => by rw [h1 i (by simp; omega), dz_zero]
    have h5 : dz T 66 = 0 := by rw [h1 66 (by simp), dz_zero]
    obtain ⟨h6, h7⟩ := h
    unfold dz at h5
    generalize T / W64 ^ 66 = q at *
    have h8 : q = 0 := by unfold W64 at h5; omega
    rw [h8, h4] at h3
    rw [← h3]; simp
  · rintro rfl i _; rfl
theorem eql_total {T : Int} (h : Fits T) (w : World) : (binOp .eql 122 (.agg (rowOf (dz T)).toArray) (.agg Tryz.zeroCells122)).run Tryz.prog w = .ok (.bool (decide (T = 0))) w := by
  rw [zero_total, List.append_nil, run_eql_rows]
  congr 2
  exact decide_eq_decide.2 (fits_zero h)

/-- what special tells -/
def specR (A : Ac) (mode pn pi : Int) : Nat × Bool × Int :=
  if 0 < A.nan ∧ pn = 2 then (0, false, 60) else if 0 < A.up + A.down ∧ pi = 2 then (0, false, 61) else
  match verd A pn pi with
  | some x => (x, true, 0)
  | none => if A.T = 0 then (noughtB A mode, true, 0) else (0, false, 0)

set_option maxRecDepth 10000 in
set_option maxHeartbeats 16000000 in
theorem special_any (A : Ac) (mode pn pi : Int) (g : Nat) (w : World) (hA : A.Ok) (h : AccAt w g A) (m1 : 0 ≤ mode) (m2 : mode ≤ 4) (p1 : 0 ≤ pn) (p2 : pn ≤ 2) (p3 : 0 ≤ pi) (p4 : pi ≤ 2) :
    Calls Tryz.prog 206 #[.pointer (some ⟨g, 0, none⟩), .int .i64 mode, pol pn pi] w fun en w' => en = .returned (.tuple #[.float .f64 (specR A mode pn pi).1, .bool (specR A mode pn pi).2.1, .int .i64 (specR A mode pn pi).2.2]) ∧ Below w.heap.size w w' := by
  have hVd := fun W => verdict_any A pn pi W hA p1 p2 p3 p4
  have hNo := fun W => nought_any A mode W hA
  have hMy := fun W => may_any pn pi W p1 p2 p3 p4
  have hEq := fun W => eql_total (fits_of_not_gt hA.v) W
  obtain ⟨_, k2, k3, k4, k5, k6, k7, k8⟩ := hA
  obtain ⟨R, hR⟩ : ∃ R, R = specR A mode pn pi := ⟨_, rfl⟩
  rw [← hR]
  have gl := Tot.lt h
  have HR := Lib.hid hR
  unfold spcV pol at *
  have HVd := Lib.hid hVd; have HNo := Lib.hid hNo; have HMy := Lib.hid hMy; have HEq := Lib.hid hEq; have HA := Lib.hid h
  clear hVd hNo hMy hEq hR h
  go_enter Tryz.func206, Tryz.ntmps206
  go_wp2_with fail
  obtain ⟨w1, e1⟩ : ∃ W, W = w.alloc (.cells #[.int .i64 pn, .int .i64 pi] 61) := ⟨_, rfl⟩
  rw [← e1]
  obtain ⟨b1, hB1, s1⟩ := new_of e1 rfl
  have hA1 := acc_below HA.out hB1 gl
  clear e1
  refine (HMy.out w1).mono ?_; rintro en w2 ⟨rfl, hb⟩
  replace b1 := blk_below b1 hb (by omega)
  replace hA1 := acc_below hA1 hb (by omega)
  replace hB1 := hB1.trans (hb.mono (by omega))
  have z2 := hb.size
  clear hb
  obtain ⟨x0, x1, x2, x3, x4, x5⟩ := hA1.tails
  obtain ⟨y0, y1⟩ := pol_cells b1
  have z1 : w.heap.size < w1.heap.size := by omega
  have HB1 := Lib.hid hB1; have HA1 := Lib.hid hA1; have HP := Lib.hid b1
  clear b1 hB1 hA1 s1
  have hn : 0 < A.nan ∧ pn = 2 ∨ 0 < A.nan ∧ pn ≠ 2 ∨ A.nan = 0 := by omega
  have hu : 0 < A.up + A.down ∧ pi = 2 ∨ 0 < A.up + A.down ∧ pi ≠ 2 ∨ ¬ 0 < A.up + A.down := by omega
  by_cases hn1 : 0 < A.nan ∧ pn = 2
  · have H : Hid (R = (0, false, 60)) := by
      have := HR.out; rw [this]; unfold specR; exact if_pos hn1
    obtain ⟨c1, c2⟩ := hn1
    have u1 : (pn == 2) = true := by simp [c2]
    clear c2 hn hu
    go_wp2_with fail
    refine bodyPost_ret (v := .tuple #[.float .f64 0, .bool false, .int .i64 60]) (by simp [results, Tryz.results206, go_sem]) rfl ?_
    rw [H.out]
    exact ⟨rfl, HB1.out⟩
  have hr : Hid (R = if 0 < A.up + A.down ∧ pi = 2 then ((0 : Nat), false, (61 : Int)) else
      match verd A pn pi with
      | some x => (x, true, 0)
      | none => if A.T = 0 then (noughtB A mode, true, 0) else (0, false, 0)) := by
    have := HR.out; rw [this]; show specR A mode pn pi = _; unfold specR; exact if_neg hn1
  have hn2 : (0 < A.nan ∧ (pn == 2) = false) ∨ ¬ 0 < A.nan := by
    by_cases hh : 0 < A.nan
    · exact .inl ⟨hh, by simp; omega⟩
    · exact .inr hh
  have hu2 : (0 < A.up + A.down ∧ (pi == 2) = true ∧ Hid (R = (0, false, 61))) ∨ ((0 < A.up + A.down ∧ (pi == 2) = false ∨ decide (0 < A.up + A.down) = false) ∧ Hid (R = match verd A pn pi with
      | some x => (x, true, 0)
      | none => if A.T = 0 then (noughtB A mode, true, 0) else (0, false, 0))) := by
    by_cases hh : 0 < A.up + A.down ∧ pi = 2
    · refine .inl ⟨hh.1, by simp [hh.2], ?_⟩
      have := hr.out; rw [if_pos hh] at this; exact this
    · refine .inr ⟨?_, ?_⟩
      · by_cases h3 : 0 < A.up + A.down
        · exact .inl ⟨h3, by simp; omega⟩
        · exact .inr (decide_eq_false h3)
      · have := hr.out; rw [if_neg hh] at this; exact this
  clear hn hu hn1 hr HR
  obtain ⟨V, hV⟩ : ∃ V, V = verd A pn pi := ⟨_, rfl⟩
  have HVd2 : Hid (∀ W, Calls Tryz.prog 271 #[.agg #[.int .i64 A.nan, .int .i64 A.up, .int .i64 A.down, .int .i64 A.minus, .int .i64 A.plus, .int .i64 A.all], .agg #[.int .i64 pn, .int .i64 pi]] W fun en w' => en = .returned (.tuple #[.float .f64 (V.getD 0), .bool V.isSome]) ∧ Below W.heap.size W w') := by rw [hV]; exact HVd.out
  rw [← hV] at hu2
  clear hV HVd
  have gl2 : w.heap.size < w2.heap.size := by omega
  have gl3 : g < w2.heap.size := by omega
  rcases hu2 with ⟨d1, d2, H⟩ | ⟨d, H⟩
  · rcases hn2 with ⟨c1, c2⟩ | c1
    all_goals
      go_wp2_with fail
      go_quiet (fail)
      go_wp2_with fail
      refine bodyPost_ret (v := .tuple #[.float .f64 0, .bool false, .int .i64 61]) (by simp [results, Tryz.results206, go_sem]) rfl ?_
      rw [H.out]
      exact ⟨rfl, below_drewN' HB1.out⟩
  · have HH : Hid ((∀ x, V = some x → R = (x, true, 0)) ∧ (V = none → A.T = 0 → R = (noughtB A mode, true, 0)) ∧ (V = none → ¬ A.T = 0 → R = (0, false, 0))) := by
      have h1 := H.out
      refine ⟨fun x hx => by rw [h1, hx], fun hx hT => ?_, fun hx hT => ?_⟩
      · rw [h1, hx]; exact if_pos hT
      · rw [h1, hx]; exact if_neg hT
    clear H
    rcases hn2 with ⟨c1, c2⟩ | c1 <;> rcases d with ⟨d1, d2⟩ | d1
    all_goals
      go_wp2_with fail
      go_quiet (fail)
      obtain ⟨w3, e3⟩ : ∃ W, W = w2.drewN nq := ⟨_, rfl⟩
      rw [← e3]
      have HA3 : Hid (AccAt w3 g A) := by rw [e3]; exact HA1.out
      have HB3 : Hid (Below w.heap.size w w3) := by rw [e3]; exact below_drewN' HB1.out
      have hP3 : w3.heap[w.heap.size]? = some (.cells #[.int .i64 pn, .int .i64 pi] 61 (0, 0)) := by rw [e3]; exact HP.out
      have g3 : g < w3.heap.size := by rw [e3]; exact gl3
      clear e3 x0 x1 x2 x3 x4 x5 y0 y1
      obtain ⟨x0, x1, x2, x3, x4, x5⟩ := HA3.out.tails
      obtain ⟨y0, y1⟩ := pol_cells hP3
      clear hP3
      go_wp2_with fail
      go_region_with ((go_at_call 271; refine (HVd2.out _).mono ?_; rintro en w4 ⟨rfl, hb4⟩))
      all_goals
        have HA4 : Hid (AccAt w4 g A) := acc_below (B := w3.drew.heap.size) (show AccAt w3.drew g A from HA3.out) hb4 g3
        have HB4 : Hid (Below w.heap.size w w4) := (HB3.out.drew).trans (hb4.mono HB3.out.size)
        have g4 : g < w4.heap.size := Nat.lt_of_lt_of_le g3 hb4.size
        clear hb4 HA3 HB3 g3 x0 x1 x2 x3 x4 x5 y0 y1
        obtain ⟨h1, h2, h3⟩ := HH.out
        cases V with
        | some x =>
          have H := Lib.hid (h1 x rfl)
          clear h1 h2 h3 HH
          simp only [Option.getD_some, Option.isSome_some]
          go_wp2_with fail
          refine bodyPost_ret (v := .tuple #[.float .f64 x, .bool true, .int .i64 0]) (by simp [results, Tryz.results206, go_sem]) rfl ?_
          rw [H.out]
          exact ⟨rfl, HB4.out⟩
        | none =>
          simp only [Option.getD_none, Option.isSome_none]
          by_cases hT : A.T = 0
          · have H := Lib.hid (h2 rfl hT)
            have q1 : ∀ W, (binOp .eql 122 (.agg (rowOf (dz A.T)).toArray) (.agg Tryz.zeroCells122)).run Tryz.prog W = .ok (.bool true) W := by
              intro W; rw [HEq.out W, decide_eq_true hT]
            obtain ⟨x0, x1, x2, x3, x4, x5⟩ := HA4.out.tails
            clear h1 h2 h3 HH hT
            go_wp2_with (refine wpList_load_cells rfl 122 _ rfl g 0 rfl (rowOf (dz A.T)) _ (Tot.row HA4.out) Tryz.underlying122 rfl (by rw [rowOf_len]; exact info_total) ?_)
            refine (HNo.out w4).mono ?_; rintro en w5 ⟨rfl, hb5⟩
            have HB5 := Lib.hid (HB4.out.trans (hb5.mono HB4.out.size))
            clear hb5 x0 x1 x2 x3 x4 x5
            go_wp2_with fail
            refine bodyPost_ret (v := .tuple #[.float .f64 (noughtB A mode), .bool true, .int .i64 0]) (by simp [results, Tryz.results206, go_sem]) rfl ?_
            rw [H.out]
            exact ⟨rfl, HB5.out⟩
          · have H := Lib.hid (h3 rfl hT)
            have q1 : ∀ W, (binOp .eql 122 (.agg (rowOf (dz A.T)).toArray) (.agg Tryz.zeroCells122)).run Tryz.prog W = .ok (.bool false) W := by
              intro W; rw [HEq.out W, decide_eq_false hT]
            clear h1 h2 h3 HH hT
            go_wp2_with (refine wpList_load_cells rfl 122 _ rfl g 0 rfl (rowOf (dz A.T)) _ (Tot.row HA4.out) Tryz.underlying122 rfl (by rw [rowOf_len]; exact info_total) ?_)
            refine bodyPost_ret (v := .tuple #[.float .f64 0, .bool false, .int .i64 0]) (by simp [results, Tryz.results206, go_sem]) rfl ?_
            rw [H.out]
            exact ⟨rfl, HB4.out⟩

/-- what Round tells -/
def RoundR (A : Ac) (mode pn pi : Int) (r : Nat) (er : Int) : Prop :=
  ((specR A mode pn pi).2.1 = true ∨ (specR A mode pn pi).2.2 ≠ 0) ∧ r = (specR A mode pn pi).1 ∧ er = (specR A mode pn pi).2.2 ∨
  (specR A mode pn pi).2.1 = false ∧ (specR A mode pn pi).2.2 = 0 ∧ RoundsTo 52 (-1074) 9218868437227405312 9223372036854775808 mode (exO A.T) r er
end Go.Proofs.YteahdgbokjbgcaaGreatDoor
namespace Go.Proofs.YteahdgbokjbgcaaGreatDoor
open Go.RowKit
set_option linter.unusedVariables false
set_option linter.unusedSimpArgs false

theorem pow_m42 (b : Nat) : (2 : Nat) ^ b * 4398046511104 = 2 ^ (b + 42) := by rw [Nat.pow_add]
theorem w32_pow (j : Nat) : (4294967296 : Nat) ^ j = 2 ^ (32 * j) := by rw [Nat.pow_mul]
theorem gt_nat_gen {b k : Nat} (hb : 64 * 66 + 14 = b + 42) {T : Int} (h : ¬ Gt T) (hk : b + 42 ≤ k) : T.natAbs < 2 ^ k := by
  unfold Gt at h
  have e := mx_gen (a := 66) (b := b) hb
  have h2 := pow_m42 b
  have h3 : (2 : Nat) ^ (b + 42) ≤ 2 ^ k := Nat.pow_le_pow_right (by decide) hk
  rw [e] at h
  have h4 : T.natAbs < 2 ^ b * 4398046511104 := by
    generalize (2 : Nat) ^ b = M at *
    omega
  rw [h2] at h4
  exact Nat.lt_of_lt_of_le h4 h3
theorem gt_nat {T : Int} (h : ¬ Gt T) {k : Nat} (hk : 4238 ≤ k) : T.natAbs < 2 ^ k := by
  obtain ⟨b, hb⟩ : ∃ b : Nat, b = 4196 := ⟨_, rfl⟩
  exact gt_nat_gen (b := b) (by omega) h (by omega)
theorem exO_some {T : Int} (h : ¬ Gt T) : ∃ d, exO T = some d := by
  unfold exO formF
  by_cases h0 : T.natAbs = 0
  · rw [if_pos h0]; exact ⟨_, rfl⟩
  · rw [if_neg h0]
    have h1 := low_lt_bitLen h0
    obtain ⟨j, hj⟩ : ∃ j, j = 133 := ⟨_, rfl⟩
    have h5 := gt_nat h (k := 32 * j) (by omega)
    have h2 : bitLen T.natAbs ≤ 32 * j := bitLen_lt h5
    have h3 : (words (T.natAbs / 2 ^ low T.natAbs)).length ≤ j := words_len_le (by
      have h4 := Nat.div_le_self T.natAbs (2 ^ low T.natAbs)
      rw [w32_pow]
      omega)
    rw [if_neg (by omega)]; exact ⟨_, rfl⟩
theorem exO_both {T : Int} {d : D} (h : exO T = some d) : d.Is ∧ d.Ok := ⟨formF_is h, formF_ok h⟩
def RoundQ (A : Ac) (mode pn pi : Int) (w : World) (en : Ending) (w' : World) : Prop := ∃ (r : Nat) (er : Int), en = .returned (.tuple #[.float .f64 r, .int .i64 er]) ∧ RoundR A mode pn pi r er ∧ Below w.heap.size w w'

set_option maxRecDepth 10000 in
set_option maxHeartbeats 8000000 in
theorem accround_any (A : Ac) (mode pn pi : Int) (g : Nat) (w : World) (hA : A.Ok) (h : AccAt w g A) (hT : Tab w) (m1 : 0 ≤ mode) (m2 : mode ≤ 4) (p1 : 0 ≤ pn) (p2 : pn ≤ 2) (p3 : 0 ≤ pi) (p4 : pi ≤ 2) :
    Calls Tryz.prog 96 #[.pointer (some ⟨g, 0, none⟩), .int .i64 mode, pol pn pi] w (RoundQ A mode pn pi w) := by
  have gl := Tot.lt h
  have hS := fun W (hW : AccAt W g A) => special_any A mode pn pi g W hA hW m1 m2 p1 p2 p3 p4
  obtain ⟨d, hd⟩ := exO_some hA.v
  have hX : ∀ W, Below w.heap.size w W → AccAt W g A → Calls Tryz.prog 106 #[.pointer (some ⟨g, 0, none⟩)] W fun en w' => ∃ a c, en = .returned (.agg #[.bool d.neg, .slice a (words d.m).length c, .int .i64 d.exp]) ∧ Own w' 118 W.heap.size a c (words d.m) ∧ Below W.heap.size W w' := by
    intro W hw hW
    refine (exact_any A g W hW hA.v (hT.grow hw)).mono ?_
    rintro en w' ⟨v, rfl, ⟨a, c, rfl, ho⟩, hb⟩
    rw [hd] at ho ⊢
    exact ⟨a, c, rfl, ho, hb⟩
  have hR : ∀ W a c base, Below w.heap.size w W → Own W 118 base a c (words d.m) → Calls Tryz.prog 177 #[.agg #[.bool d.neg, .slice a (words d.m).length c, .int .i64 d.exp], .int .i64 mode] W fun en w' => (∃ (r : Nat) (er : Int), en = .returned (.tuple #[.float .f64 r, .int .i64 er]) ∧ RoundsTo 52 (-1074) 9218868437227405312 9223372036854775808 mode (exO A.T) r er) ∧ Below W.heap.size W w' := by
    intro W a c base hw ho
    have := dround_any (argOf d a c) mode W (ho.arg (exO_both hd).2) (hT.grow hw)
    rw [show Arg.F (argOf d a c) = exO A.T by rw [hd]; unfold Arg.F argOf; dsimp only; rw [num_words]; exact form_self (exO_both hd).1 (exO_both hd).2] at this
    exact this
  unfold pol at *
  have HS := Lib.hid hS; have HX := Lib.hid hX; have HR := Lib.hid hR; have HA := Lib.hid h
  obtain ⟨S, hSp⟩ : ∃ S, S = specR A mode pn pi := ⟨_, rfl⟩
  have HQ : Hid (∀ r er (w' : World), ((S.2.1 = true ∨ S.2.2 ≠ 0) ∧ r = S.1 ∧ er = S.2.2 ∨ S.2.1 = false ∧ S.2.2 = 0 ∧ RoundsTo 52 (-1074) 9218868437227405312 9223372036854775808 mode (exO A.T) r er) → Below w.heap.size w w' → RoundQ A mode pn pi w (.returned (.tuple #[.float .f64 r, .int .i64 er])) w') := by
    intro r er w' h1 h2
    refine ⟨r, er, rfl, ?_, h2⟩
    unfold RoundR
    rw [← hSp]; exact h1
  rw [← hSp] at HS
  clear hS hX hR hSp h hA hT hd
  obtain ⟨b, ok, e⟩ := S
  simp only [] at HS HQ
  go_enter Tryz.func96, Tryz.ntmps96
  go_wp2_with fail
  obtain ⟨w1, e1⟩ : ∃ W, W = w.alloc (.cells #[.int .i64 pn, .int .i64 pi] 61) := ⟨_, rfl⟩
  rw [← e1]
  obtain ⟨b1, hB1, s1⟩ := new_of e1 rfl
  have hA1 := acc_below HA.out hB1 gl
  clear e1 b1
  refine (HS.out w1 hA1).mono ?_; rintro en w2 ⟨rfl, hb⟩
  replace hA1 := acc_below hA1 hb (by omega)
  replace hB1 := hB1.trans (hb.mono (by omega))
  clear hb s1
  cases ok
  · by_cases he : e = 0
    · subst he
      have HA1 := Lib.hid hA1; have HB1 := Lib.hid hB1
      clear hA1 hB1
      go_wp2_with fail
      refine (HX.out w2 HB1.out HA1.out).mono ?_; rintro en w3 ⟨a, c, rfl, ho, hb⟩
      have HO := Lib.hid ho; have HB2 := Lib.hid (HB1.out.trans (hb.mono HB1.out.size))
      clear ho hb
      go_wp2_with fail
      refine (HR.out w3 a c _ HB2.out HO.out).mono ?_; rintro en w4 ⟨⟨r, er, rfl, hr⟩, hb⟩
      have HRR := Lib.hid hr; have HB3 := Lib.hid (HB2.out.trans (hb.mono HB2.out.size))
      clear hr hb
      go_wp2_with fail
      go_ret2
      exact HQ.out _ _ _ (.inr ⟨by trivial, by trivial, HRR.out⟩) HB3.out
    · have t1 : (e != 0) = true := by simpa using he
      have HE := Lib.hid he
      have HB1 := Lib.hid hB1
      clear hA1 hB1 he
      go_wp2_with fail
      go_ret2
      exact HQ.out _ _ _ (.inl ⟨.inr HE.out, rfl, rfl⟩) HB1.out
  · have HB1 := Lib.hid hB1
    clear hA1 hB1
    go_wp2_with fail
    go_ret2
    exact HQ.out _ _ _ (.inl ⟨.inl (by trivial), rfl, rfl⟩) HB1.out
end Go.Proofs.YteahdgbokjbgcaaGreatDoor
namespace Go.Proofs.YteahdgbokjbgcaaGreatDoor
open Go.RowKit
set_option linter.unusedVariables false
set_option linter.unusedSimpArgs false

theorem fl_abs (W : World) : Calls Tryz.prog 240 #[.float .f64 4607182418800017408] W fun en w' => en = .returned (.float .f64 4607182418800017408) ∧ W = w' := by
  have h1 := ext_bits64 4607182418800017408
  have h2 := ext_from64 4607182418800017408
  rw [show ((4607182418800017408 : Nat) : Int) = 4607182418800017408 from rfl] at h1 h2
  have b1 : bits .andNot .u64 4607182418800017408 9223372036854775808 = 4607182418800017408 := by kernel_rfl
  go_enter Tryz.func240, Tryz.ntmps240
  go_wp2_with fail
  go_ret
  exact ⟨rfl, rfl⟩
set_option maxRecDepth 10000 in
set_option maxHeartbeats 2000000 in
theorem fl_isinf (W : World) : Calls Tryz.prog 168 #[.float .f64 4607182418800017408, .int .i64 0] W fun en w' => en = .returned (.bool false) ∧ W = w' := by
  have h1 : ∀ W, (binOp .gtr 30 (.float .f64 4607182418800017408) (.float .f64 9218868437227405311)).run Tryz.prog W = .ok (.bool false) W := fun _ => by kernel_rfl
  go_enter Tryz.func168, Tryz.ntmps168
  go_wp2_with fail
  refine (fl_abs _).mono ?_; rintro en w' ⟨rfl, rfl⟩
  go_wp2_with fail
  go_ret
  exact ⟨rfl, rfl⟩
set_option maxRecDepth 10000 in
set_option maxHeartbeats 2000000 in
theorem fl_isnan (W : World) : Calls Tryz.prog 167 #[.float .f64 4607182418800017408] W fun en w' => en = .returned (.bool false) ∧ W = w' := by
  have h1 : ∀ W, (binOp .neq 30 (.float .f64 4607182418800017408) (.float .f64 4607182418800017408)).run Tryz.prog W = .ok (.bool false) W := fun _ => by kernel_rfl
  go_enter Tryz.func167, Tryz.ntmps167
  go_wp2_with fail
  go_ret
  exact ⟨rfl, rfl⟩
set_option maxRecDepth 10000 in
set_option maxHeartbeats 2000000 in
theorem fl_norm (W : World) : Calls Tryz.prog 269 #[.float .f64 4607182418800017408] W fun en w' => en = .returned (.tuple #[.float .f64 4607182418800017408, .int .i64 0]) ∧ W = w' := by
  have h1 : ∀ W, (binOp .lss 30 (.float .f64 4607182418800017408) (.float .f64 4503599627370496)).run Tryz.prog W = .ok (.bool false) W := fun _ => by kernel_rfl
  go_enter Tryz.func269, Tryz.ntmps269
  go_wp2_with fail
  refine (fl_abs _).mono ?_; rintro en w' ⟨rfl, rfl⟩
  go_wp2_with fail
  go_ret2
  exact ⟨rfl, rfl⟩
set_option maxRecDepth 10000 in
set_option maxHeartbeats 4000000 in
theorem ldexp1000 (W : World) : Calls Tryz.prog 205 #[.float .f64 4607182418800017408, .int .i64 1000] W fun en w' => en = .returned (.float .f64 9110782046170513408) ∧ W = w' := by
  have q1 : ∀ W, (binOp .eql 30 (.float .f64 4607182418800017408) (.float .f64 0)).run Tryz.prog W = .ok (.bool false) W := fun _ => by kernel_rfl
  have q2 : ∀ W, (binOp .mul 30 (.float .f64 4607182418800017408) (.float .f64 9110782046170513408)).run Tryz.prog W = .ok (.float .f64 9110782046170513408) W := fun _ => by kernel_rfl
  have h1 := ext_bits64 4607182418800017408
  have h2 := ext_from64 9110782046170513408
  rw [show ((4607182418800017408 : Nat) : Int) = 4607182418800017408 from rfl] at h1
  rw [show ((9110782046170513408 : Nat) : Int) = 9110782046170513408 from rfl] at h2
  have b1 : bits .and .i64 1023 2047 = 1023 := by kernel_rfl
  have b2 : bits .andNot .u64 4607182418800017408 9218868437227405312 = 0 := by kernel_rfl
  have b3 : bits .or .u64 0 9110782046170513408 = 9110782046170513408 := by kernel_rfl
  go_enter Tryz.func205, Tryz.ntmps205
  go_wp2_with fail
  refine (fl_isinf _).mono ?_; rintro en w' ⟨rfl, rfl⟩
  go_wp2_with fail
  refine (fl_isnan _).mono ?_; rintro en w' ⟨rfl, rfl⟩
  go_wp2_with fail
  refine (fl_norm _).mono ?_; rintro en w' ⟨rfl, rfl⟩
  go_wp2_with fail
  go_ret
  exact ⟨rfl, rfl⟩
set_option maxRecDepth 10000 in
set_option maxHeartbeats 2000000 in
theorem Ldexp1000 (W : World) : Calls Tryz.prog 95 #[.float .f64 4607182418800017408, .int .i64 1000] W fun en w' => en = .returned (.float .f64 9110782046170513408) ∧ W = w' := by
  go_enter Tryz.func95, Tryz.ntmps95
  go_wp2_with fail
  refine (ldexp1000 _).mono ?_; rintro en w' ⟨rfl, rfl⟩
  go_wp2_with fail
  go_ret
  exact ⟨rfl, rfl⟩
end Go.Proofs.YteahdgbokjbgcaaGreatDoor
namespace Go.Proofs.YteahdgbokjbgcaaGreatDoor
open Go.RowKit
set_option linter.unusedVariables false
set_option linter.unusedSimpArgs false

/-- so many things at most, none too great -/
structure Sm (n : Nat) (A : Ac) : Prop where
  lo : -(n * Mx) ≤ A.T
  hi : A.T ≤ n * Mx
  all : A.all = n
theorem sm_zero : Sm 0 Ac.zero := ⟨by simp [Ac.zero], by simp [Ac.zero], rfl⟩
theorem sm_add {n : Nat} {A d : Ac} (h : Sm n A) (k : d.One) (b1 : -Mx ≤ d.T) (b2 : d.T ≤ Mx) : Sm (n + 1) (A.sum d) := by
  refine ⟨?_, ?_, ?_⟩
  · show _ ≤ A.T + d.T
    have := h.lo; rw [Int.natCast_add, Int.add_mul]; simp only [Int.natCast_one, Int.one_mul]; omega
  · show A.T + d.T ≤ _
    have := h.hi; rw [Int.natCast_add, Int.add_mul]; simp only [Int.natCast_one, Int.one_mul]; omega
  · show A.all + d.all = _
    have := h.all; have := k.all; omega
theorem addR_small {n : Nat} {A d : Ac} (h : Sm n A) (hn : n + 1 ≤ 1099511627776) (k : d.One) (b1 : -Mx ≤ d.T) (b2 : d.T ≤ Mx) : addR A d = (0, A.sum d) := by
  have h2 := sm_add h k b1 b2
  unfold addR
  rw [if_neg (by have := h.all; omega), if_neg (show ¬ Gt (A.T + d.T) from gt_small (n := n + 1) hn h2.lo h2.hi)]
theorem sm_ok {n : Nat} {A d : Ac} (h : A.Ok) (s : Sm n A) (hn : n + 1 ≤ 1099511627776) (k : d.One) (b1 : -Mx ≤ d.T) (b2 : d.T ≤ Mx) : (A.sum d).Ok := by
  have := addR_ok h k
  rw [addR_small s hn k b1 b2] at this
  exact this

theorem formF_scale (s : Bool) (n : Nat) (e : Int) (k : Nat) : formF s (2 ^ k * n) e = formF s n (e + k) := by
  have hp := Nat.two_pow_pos k
  unfold formF
  by_cases h : n = 0
  · subst h; rw [Nat.mul_zero, if_pos rfl, if_pos rfl]
  · rw [if_neg (by have := Nat.mul_pos hp (Nat.pos_of_ne_zero h); omega), if_neg h, low_mul k h, Nat.pow_add, Nat.mul_div_mul_left _ _ hp, Int.natCast_add, ← Int.add_assoc]
theorem pt_one : ptOf 4607182418800017408 = ⟨false, 2, -52, 4503599627370496⟩ := by rfl
theorem pt_big : ptOf 9110782046170513408 = ⟨false, 2, 948, 4503599627370496⟩ := by rfl
theorem pt_nbig : ptOf 18334154083025289216 = ⟨true, 2, 948, 4503599627370496⟩ := by rfl
theorem of_one : ofF 4607182418800017408 = formF false 4503599627370496 (-52) := by kernel_rfl
theorem numT_bigs : (numT 9110782046170513408).T + (numT 18334154083025289216).T = 0 := by
  unfold numT
  rw [pt_big, pt_nbig]
  unfold mkT sgn
  simp only [Bool.false_eq_true, if_false, if_true, show ((2 : Int) = 4) = False by simp, show ((2 : Int) = 3) = False by simp, show ((2 : Int) = 0) = False by simp]
  generalize (4503599627370496 * 2 ^ ((948 : Int) + 2148).toNat : Nat) = M
  omega
theorem numT_counts {b : Nat} (h : (ptOf b).c = 2) : (numT b).nan = 0 ∧ (numT b).up = 0 ∧ (numT b).down = 0 ∧ (numT b).minus = 0 ∧ (numT b).plus = 0 := by
  unfold numT
  rw [h]
  exact ⟨rfl, rfl, rfl, rfl, rfl⟩
theorem exO_one : exO (numT 4607182418800017408).T = ofF 4607182418800017408 ∧ (numT 4607182418800017408).T ≠ 0 := by
  rw [of_one]
  unfold numT
  rw [pt_one]
  obtain ⟨k, hk⟩ : ∃ k, k = ((-52 : Int) + 2148).toNat := ⟨_, rfl⟩
  have hk2 : (k : Int) = 2096 := by omega
  have hp := Nat.two_pow_pos k
  unfold mkT sgn
  simp only [← hk, Bool.false_eq_true, if_false, show ((2 : Int) = 4) = False by simp, show ((2 : Int) = 3) = False by simp, show ((2 : Int) = 0) = False by simp]
  clear hk
  constructor
  · unfold exO
    rw [decide_eq_false (by omega), Int.natAbs_natCast, Nat.mul_comm, formF_scale, hk2]
    rfl
  · generalize 2 ^ k = P at *
    omega
theorem run_eql64 {a b : Nat} (W : World) (ha : a < 18446744073709551616) (hb : b < 18446744073709551616) (ka : a % 9223372036854775808 ≤ 9218868437227405312) (kb : b % 9223372036854775808 ≤ 9218868437227405312) (h : fV a = fV b) : (binOp .eql 30 (.float .f64 a) (.float .f64 b)).run Tryz.prog W = .ok (.bool true) W := by
  have e : (binOp .eql 30 (.float .f64 a) (.float .f64 b)).run Tryz.prog W = .ok (.bool (FloatKind.f64.format.order a b == some .eq)) W := rfl
  rw [e, order64 ha hb ka kb, h, cmpZ_self]; rfl

set_option maxRecDepth 10000 in
set_option maxHeartbeats 8000000 in
theorem live7_any (w : World) (hT : Tab w) : Calls Tryz.prog 21 #[] w fun en w' => en = .returned (.bool true) ∧ Below w.heap.size w w' := by
  have hd1 := numT_one 9110782046170513408
  have hd2 := numT_one 4607182418800017408
  have hd3 := numT_one 18334154083025289216
  obtain ⟨x1, y1⟩ := numT_bd 9110782046170513408
  obtain ⟨x2, y2⟩ := numT_bd 4607182418800017408
  obtain ⟨x3, y3⟩ := numT_bd 18334154083025289216
  have r1 := addR_small sm_zero (by decide) hd1 x1 y1
  have s1 := sm_add sm_zero hd1 x1 y1
  have o1 := sm_ok Ac.zero_ok sm_zero (by decide) hd1 x1 y1
  have r2 := addR_small s1 (by decide) hd2 x2 y2
  have s2 := sm_add s1 hd2 x2 y2
  have o2 := sm_ok o1 s1 (by decide) hd2 x2 y2
  have r3 := addR_small s2 (by decide) hd3 x3 y3
  have o3 := sm_ok o2 s2 (by decide) hd3 x3 y3
  obtain ⟨A1, e1⟩ : ∃ A, A = Ac.zero.sum (numT 9110782046170513408) := ⟨_, rfl⟩
  obtain ⟨A2, e2⟩ : ∃ A, A = A1.sum (numT 4607182418800017408) := ⟨_, rfl⟩
  obtain ⟨A3, e3⟩ : ∃ A, A = A2.sum (numT 18334154083025289216) := ⟨_, rfl⟩
  rw [← e1] at r1 o1 r2 o2 r3 o3
  rw [← e2] at r2 o2 r3 o3
  rw [← e3] at r3 o3
  have hv : ∀ r er, RoundR A3 0 0 0 r er → er = 0 ∧ ∀ W, (binOp .eql 30 (.float .f64 r) (.float .f64 4607182418800017408)).run Tryz.prog W = .ok (.bool true) W := by
    intro r er hR
    obtain ⟨c1, c2, c3, c4, c5⟩ := numT_counts (b := 9110782046170513408) (by rw [pt_big])
    obtain ⟨f1, f2, f3, f4, f5⟩ := numT_counts (b := 4607182418800017408) (by rw [pt_one])
    obtain ⟨g1, g2, g3, g4, g5⟩ := numT_counts (b := 18334154083025289216) (by rw [pt_nbig])
    have hT3 : A3.T = (numT 4607182418800017408).T := by
      rw [e3, e2, e1]
      show 0 + _ + _ + _ = _
      have := numT_bigs
      omega
    have n3 : A3.nan = 0 := by rw [e3, e2, e1]; show 0 + _ + _ + _ = _; rw [c1, f1, g1]; rfl
    have u3 : A3.up = 0 := by rw [e3, e2, e1]; show 0 + _ + _ + _ = _; rw [c2, f2, g2]; rfl
    have d3 : A3.down = 0 := by rw [e3, e2, e1]; show 0 + _ + _ + _ = _; rw [c3, f3, g3]; rfl
    have hsp : specR A3 0 0 0 = (0, false, 0) := by
      unfold specR verd
      rw [if_neg (by omega), if_neg (by omega), if_neg (by omega), if_pos rfl, if_neg (by omega), if_neg (by omega), if_neg (by omega)]
      exact if_neg (by rw [hT3]; exact exO_one.2)
    unfold RoundR at hR
    rw [hsp, hT3, exO_one.1] at hR
    rcases hR with ⟨h1, _⟩ | ⟨_, _, h1⟩
    · rcases h1 with h1 | h1
      · cases h1
      · exact absurd rfl h1
    · obtain ⟨q, hq⟩ := formF_small (s := false) (f := 4503599627370496) (e := -52) (by decide) (by decide) (by decide)
      rw [← of_one] at hq
      rw [hq] at h1
      obtain ⟨h2, h3, h4, h5⟩ := r64_own (by decide) (by decide) (by decide) hq h1
      exact ⟨h2, fun W => run_eql64 W h4 (by decide) h5 (by decide) h3⟩
  have h1 := fun W (hW : AccAt W w.heap.size Ac.zero) => accadd_any Ac.zero 9110782046170513408 w.heap.size W Ac.zero_ok (by decide) hW
  have h2 := fun W (hW : AccAt W w.heap.size A1) => accadd_any A1 4607182418800017408 w.heap.size W o1 (by decide) hW
  have h3 := fun W (hW : AccAt W w.heap.size A2) => accadd_any A2 18334154083025289216 w.heap.size W o2 (by decide) hW
  rw [r1] at h1
  rw [r2] at h2
  rw [r3] at h3
  have h4 := fun W (hW : AccAt W w.heap.size A3) (hb : Below w.heap.size w W) => accround_any A3 0 0 0 w.heap.size W o3 hW (hT.grow hb) (by decide) (by decide) (by decide) (by decide) (by decide) (by decide)
  unfold pol at h4
  have H1 := Lib.hid h1; have H2 := Lib.hid h2; have H3 := Lib.hid h3; have H4 := Lib.hid h4; have HV := Lib.hid hv
  have hng : ∀ W, (Op.unary .neg (.float .f64 9110782046170513408)).run Tryz.prog W = .ok (.float .f64 18334154083025289216) W := fun W => run_neg64 (by decide) W
  clear hd1 hd2 hd3 x1 y1 x2 y2 x3 y3 r1 s1 o1 r2 s2 o2 r3 o3 e1 e2 e3 hv h1 h2 h3 h4 hT
  go_enter Tryz.func21, Tryz.ntmps21
  go_wp2_with fail
  refine (new_any w).mono ?_; rintro en w1 ⟨rfl, hA, hB⟩
  have HA := Lib.hid hA; have HB := Lib.hid hB
  clear hA hB
  go_wp2_with fail
  refine (Ldexp1000 _).mono ?_; rintro en w' ⟨rfl, rfl⟩
  go_wp2_with fail
  refine (H1.out w1 HA.out).mono ?_; rintro en w2 ⟨rfl, hA, hG⟩
  have HA2 := Lib.hid hA; have HB2 := Lib.hid (bel_grown HB.out (Nat.le_refl _) hG (Nat.le_refl _))
  clear hA hG HA HB
  go_wp2_with fail
  refine (H2.out w2 HA2.out).mono ?_; rintro en w3 ⟨rfl, hA, hG⟩
  have HA3 := Lib.hid hA; have HB3 := Lib.hid (bel_grown HB2.out (Nat.le_refl _) hG (Nat.le_refl _))
  clear hA hG HA2 HB2
  go_wp2_with fail
  refine (Ldexp1000 _).mono ?_; rintro en w' ⟨rfl, rfl⟩
  go_wp2_with fail
  refine (H3.out w3 HA3.out).mono ?_; rintro en w4 ⟨rfl, hA, hG⟩
  have HA4 := Lib.hid hA; have HB4 := Lib.hid (bel_grown HB3.out (Nat.le_refl _) hG (Nat.le_refl _))
  clear hA hG HA3 HB3
  go_wp2_with fail
  refine (H4.out w4 HA4.out HB4.out).mono ?_; rintro en w5 ⟨r, er, rfl, hR, hb⟩
  obtain ⟨rfl, hq⟩ := HV.out r er hR
  have HB5 := Lib.hid (HB4.out.trans (hb.mono HB4.out.size))
  clear hR hb
  go_wp2_with fail
  go_ret
  exact ⟨rfl, HB5.out⟩
end Go.Proofs.YteahdgbokjbgcaaGreatDoor
namespace Go.Proofs.YteahdgbokjbgcaaGreatDoor
open Go.RowKit
set_option linter.unusedVariables false
set_option linter.unusedSimpArgs false

end Go.Proofs.YteahdgbokjbgcaaGreatDoor

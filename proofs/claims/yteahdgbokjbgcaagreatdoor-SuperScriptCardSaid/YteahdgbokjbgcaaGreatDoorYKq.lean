/- Contract of steelyardlaw07.Side.step: the other kinds. No statement of the seat is proved here. -/
import Derived.Test.YteahdgbokjbgcaaGreatDoorProg
import Derived.Test.YteahdgbokjbgcaaGreatDoorYKp
namespace Go.Proofs.YteahdgbokjbgcaaGreatDoor
open Go.RowKit
set_option maxRecDepth 10000
set_option linter.unusedVariables false
set_option linter.unusedSimpArgs false

theorem own_put {w : World} {e : TypeId} {base c : Nat} {a : Option Addr} {l : List Nat} (h : Own w e base a c l) {k : Nat} (hk : k < l.length) (x : Nat) : ∃ g, a = some ⟨g, 0, none⟩ ∧ base ≤ g ∧ w.frozen? ⟨g, k, none⟩ = false ∧ (∃ y, w.cell? ⟨g, k, none⟩ = some (.int .u32 ((y : Nat) : Int))) ∧ Own (w.setCell ⟨g, k, none⟩ (.int .u32 ((x : Nat) : Int))) e base a c (l.set k x) := by
  rcases h with ⟨_, _, h3⟩ | ⟨g, t, h0, h1, h2, h3, h4⟩
  · rw [h3] at hk; simp at hk
  · refine ⟨g, h0, h1, h4.frozen k, ⟨(l ++ t)[k]'(by simp; omega), h4.cell (List.getElem?_eq_getElem (by simp; omega))⟩, .inr ⟨g, t, h0, h1, by rw [List.length_set]; exact h2, by simpa using h3, ?_⟩⟩
    have := h4.set k x
    rw [List.set_append_left _ _ hk] at this
    exact this
theorem cel_opt {w w' : World} {g : Nat} {r : Option Nat} {v0 v1 v2 : Value} (h : Cel w g v0 v1 v2) (hk : w.grownBy w' r) (hne : ∀ b, r = some b → b ≠ g) : Cel w' g v0 v1 v2 :=
  (hk.block g h.lt (fun e => hne g e.symm rfl)).trans h
set_option maxHeartbeats 16000000 in
theorem step7_merge (e f : Sd) (kind on wth n : Int) (x y : Nat) (mode pn pi : Int) (w : World) (hkd : kind = 4) (hx : x < 18446744073709551616) (hy : y < 18446744073709551616) (hn1 : -9223372036854775808 ≤ n) (hn2 : n ≤ 9223372036854775807) (hT : Tab w) (he : SdAt w e) (hf : SdAt w f) (hef : f = e ∨ f.g ≠ e.g ∧ f.h ≠ e.h) :
    Calls Tryz.prog 25 #[sdV e, stV kind on wth n x y mode pn pi, sdV f] w (StQ e w) := by
  obtain ⟨g, hh, A⟩ := e
  obtain ⟨g', h', B⟩ := f
  obtain ⟨w1, e1⟩ : ∃ W, W = w.alloc (.cells #[.pointer (some ⟨g, 0, none⟩), .pointer (some ⟨hh, 0, none⟩)] 53) := ⟨_, rfl⟩
  obtain ⟨k1, b1, s1⟩ := new_of e1 rfl
  obtain ⟨w2, e2⟩ : ∃ W, W = w1.alloc (.cells #[.int .i64 kind, .int .i64 on, .int .i64 wth, .int .i64 n, .float .f64 x, .float .f64 y, .int .i64 mode, .int .i64 pn, .int .i64 pi] 63) := ⟨_, rfl⟩
  obtain ⟨k2, b2, s2⟩ := new_of e2 s1
  obtain ⟨w3, e3⟩ : ∃ W, W = w2.alloc (.cells #[.pointer (some ⟨g', 0, none⟩), .pointer (some ⟨h', 0, none⟩)] 53) := ⟨_, rfl⟩
  obtain ⟨k3, b3, s3⟩ := new_of e3 s2
  have hB3 := (b1.trans (b2.mono (by omega))).trans (b3.mono (by omega))
  obtain ⟨p1, hp1⟩ : ∃ p, p = w.heap.size := ⟨_, rfl⟩
  obtain ⟨p2, hp2⟩ : ∃ p, p = w.heap.size + 1 := ⟨_, rfl⟩
  obtain ⟨p3, hp3⟩ : ∃ p, p = w.heap.size + 2 := ⟨_, rfl⟩
  have hst : St7 w3 p1 p2 p3 ⟨g, hh, A⟩ ⟨g', h', B⟩ kind on wth n x y mode pn pi := by
    rw [hp1, hp2, hp3]
    exact ⟨⟨blk_below (blk_below k1 b2 (by omega)) b3 (by omega)⟩, blk_below k2 b3 (by omega), ⟨k3⟩⟩
  have HSt := Lib.hid hst
  have HE := Lib.hid (he.grow hB3)
  have HF := Lib.hid (hf.grow hB3)
  have HT := Lib.hid (fun W (hW : Below w.heap.size w W) => hT.grow hW)
  have HB3 := Lib.hid hB3
  have E1 := Lib.hid e1; have E2 := Lib.hid e2; have E3 := Lib.hid e3
  have P1 := Lib.hid hp1; have P2 : Hid (p2 = p1 + 1) := (by show p2 = p1 + 1; omega); have P3 : Hid (p3 = p2 + 1) := (by show p3 = p2 + 1; omega)
  have HEF := Lib.hid hef
  have HOk : Hid (A.Ok) := he.ok
  clear he hf hT hef e1 e2 e3 k1 k2 k3 b1 b2 b3 s1 s2 s3 hB3 hst hp1 hp2 hp3
  subst hkd
  have HPk := Lib.hid (fun W => pick_any n 50 W hn1 hn2 (by decide) (by decide))
  rw [show ((50 : Nat) : Int) = 50 from rfl] at HPk
  have HOth : Hid (∀ (W : World) (C : Ac), SdAt W ⟨g, hh, C⟩ → G2 w3 W g hh → ∃ D, SdAt W ⟨g', h', D⟩) := by
    intro W C h1 h2
    rcases HEF.out with h3 | h3
    · cases h3; exact ⟨C, h1⟩
    · exact ⟨B, SdAt.g2 HF.out HE.out h3.1 h3.2 h2⟩
  have HMp := Lib.hid (fun W C D (hC : SdAt W ⟨g, hh, C⟩) (hD : SdAt W ⟨g', h', D⟩) => accmerge_any C D g g' W hC.ok hD.ok hC.a hD.a)
  have HMr := Lib.hid (fun W C D d a c b (hC : C.Ok) (hD : D.Ok) h1 h2 h3 => rmerge7_any C D d a c hh b W hC hD h1 h2 h3)
  have HGr := Lib.hid (fun W C (h1 : SdAt W ⟨g, hh, C⟩) (h2 : G2 w3 W g hh) => HSt.out.g2 HE.out.a HE.out.b h2)
  clear hn1 hn2 HOk HF HEF HT hx hy
  unfold sdV stV
  go_enter Tryz.func25, Tryz.ntmps25
  go_upto_region 1 with fail
  rw [← E1.out, ← E2.out, ← E3.out]
  rw [← P1.out, ← P2.out, ← P3.out]
  obtain ⟨c0, c1, c2, c3, c4, c5, c6, c7, c8, c9, c10⟩ := HSt.out.cells
  go_wp2_with fail
  go_loopw [11] (fun ii wr => ∃ (k : Nat) (C : Ac), k ≤ 50 ∧ ii = .int .i64 k ∧ Hid (SdAt wr ⟨g, hh, C⟩ ∧ G2 w3 wr g hh)) (fun ii _ => 51 - (intOf ii).toNat)
  case atStart => exact ⟨0, A, by omega, rfl, HE.out, G2.refl _ _ _⟩
  case round =>
    obtain ⟨k, C, hk, rfl, hH⟩ := hrel
    have HH := Lib.hid hH.out
    have HStr := Lib.hid (HGr.out _ _ HH.out.1 HH.out.2)
    clear hH c0 c1 c2 c3 c4 c5 c6 c7 c8 c9 c10
    obtain ⟨c0, c1, c2, c3, c4, c5, c6, c7, c8, c9, c10⟩ := HStr.out.cells
    clear c4 c6 c7 c8 c9 c10
    go_wp2_with fail
    refine (HPk.out wr).mono ?_; rintro en w4 ⟨m, hm, rfl, rfl⟩
    by_cases hq : (k : Int) < 1 + (m : Int)
    case neg =>
      have hwm : IntKind.i64.wrap (1 + (m : Int)) = 1 + (m : Int) := by rw [IntKind.wrap_i64]; omega
      go_wp2_with fail
      go_ret
      exact StQ.of HB3.out HH.out.1 HH.out.2
    have hwm : IntKind.i64.wrap (1 + (m : Int)) = 1 + (m : Int) := by rw [IntKind.wrap_i64]; omega
    have hk49 : k < 50 := by omega
    obtain ⟨D, hD⟩ := HOth.out wr C HH.out.1 HH.out.2
    have HD := Lib.hid hD
    have HMC := Lib.hid (HMp.out wr C D HH.out.1 hD)
    obtain ⟨R, hR⟩ : ∃ R, R = mergeR C D := ⟨_, rfl⟩
    have hok : R.2.Ok := by rw [hR]; exact mergeR_ok HH.out.1.ok hD.ok
    rw [← hR] at HMC
    have HMR : Hid (∀ W d a c b, DT d D.T → Own W 118 b a c (words d.m) → RAc W hh C → Calls Tryz.prog 105 #[.pointer (some ⟨hh, 0, none⟩), .agg (rac d a c D)] W (RAccR R W hh)) := by rw [hR]; exact fun W d a c b h1 h2 h3 => HMr.out W C D d a c b HH.out.1.ok hD.ok h1 h2 h3
    have HR2 := Lib.hid hok
    clear hD hR hok
    go_wp2_with fail
    refine HMC.out.mono ?_; rintro en w5 ⟨rfl, hA5, hG5⟩
    have HA5 := Lib.hid hA5; have HG5 := Lib.hid hG5
    have HSt5 := Lib.hid (HStr.out.g2 HH.out.1.a HH.out.1.b (G2.ofG hG5))
    have HRb5 := Lib.hid (RAc.byAcc HH.out.1.b HH.out.1.a hG5)
    have hDb5 := RAc.byAcc HD.out.b HH.out.1.a hG5
    obtain ⟨dd, da, dc, hrow, hown, hdt⟩ := hDb5
    have HRow := Lib.hid (fun W (hW : Below w5.heap.size w5 W) => rac_cells (blk_below hrow hW (Array.getElem?_eq_some_iff.1 hrow).1))
    have HCall := Lib.hid (HMR.out w5.drew dd da dc _ hdt hown HRb5.out)
    obtain ⟨q0, q1, q2, q3, q4, q5, q6, q7, q8⟩ := HRow.out w5 (Below.refl _ _)
    clear hA5 hG5 hrow hown hdt c0 c1 c2 c3 c5 hm hwm
    obtain ⟨_, c1, _, c3, _, _, _, _, _, _, _⟩ := HSt5.out.cells
    obtain ⟨R1, R2⟩ := R
    dsimp only at HCall HR2 HA5 HG5
    unfold rac at HCall
    dsimp only at q3 q4 q5 q6 q7 q8
    have HSg : Hid (∀ w6, RAc w6 hh R2 → w5.drew.grownBy w6 (some hh) → SdAt w6 ⟨g, hh, R2⟩ ∧ G2 w3 w6 g hh) := by
      intro w6 h1 h2
      have h3 := sd_step HH.out.1 HA5.out HG5.out (Below.refl _ _).drew h1 h2 HR2.out
      exact ⟨h3.1, HH.out.2.trans h3.2⟩
    have hwk : IntKind.i64.wrap ((k : Int) + 1) = (k : Int) + 1 := by rw [IntKind.wrap_i64]; omega
    go_wp2_with fail
    go_region_with (first
      | (go_at_call 105; refine HCall.out.mono ?_; rintro en w6 ⟨rfl, hR6, hG6⟩; have HFin := Lib.hid (HSg.out w6 hR6 hG6); clear hR6 hG6))
    all_goals
      go_wp2_with fail
      go_roundw
      case rel => exact ⟨k + 1, R2, by omega, by go_num, HFin.out⟩
      case measure => simp [intOf]; omega
set_option maxHeartbeats 16000000 in
theorem step7_round (e f : Sd) (kind on wth n : Int) (x y : Nat) (mode pn pi : Int) (w : World) (hkd : kind = 6) (hx : x < 18446744073709551616) (hy : y < 18446744073709551616) (hn1 : -9223372036854775808 ≤ n) (hn2 : n ≤ 9223372036854775807) (hT : Tab w) (he : SdAt w e) (hf : SdAt w f) (hef : f = e ∨ f.g ≠ e.g ∧ f.h ≠ e.h) :
    Calls Tryz.prog 25 #[sdV e, stV kind on wth n x y mode pn pi, sdV f] w (StQ e w) := by
  obtain ⟨g, hh, A⟩ := e
  obtain ⟨g', h', B⟩ := f
  obtain ⟨w1, e1⟩ : ∃ W, W = w.alloc (.cells #[.pointer (some ⟨g, 0, none⟩), .pointer (some ⟨hh, 0, none⟩)] 53) := ⟨_, rfl⟩
  obtain ⟨k1, b1, s1⟩ := new_of e1 rfl
  obtain ⟨w2, e2⟩ : ∃ W, W = w1.alloc (.cells #[.int .i64 kind, .int .i64 on, .int .i64 wth, .int .i64 n, .float .f64 x, .float .f64 y, .int .i64 mode, .int .i64 pn, .int .i64 pi] 63) := ⟨_, rfl⟩
  obtain ⟨k2, b2, s2⟩ := new_of e2 s1
  obtain ⟨w3, e3⟩ : ∃ W, W = w2.alloc (.cells #[.pointer (some ⟨g', 0, none⟩), .pointer (some ⟨h', 0, none⟩)] 53) := ⟨_, rfl⟩
  obtain ⟨k3, b3, s3⟩ := new_of e3 s2
  have hB3 := (b1.trans (b2.mono (by omega))).trans (b3.mono (by omega))
  obtain ⟨p1, hp1⟩ : ∃ p, p = w.heap.size := ⟨_, rfl⟩
  obtain ⟨p2, hp2⟩ : ∃ p, p = w.heap.size + 1 := ⟨_, rfl⟩
  obtain ⟨p3, hp3⟩ : ∃ p, p = w.heap.size + 2 := ⟨_, rfl⟩
  have hst : St7 w3 p1 p2 p3 ⟨g, hh, A⟩ ⟨g', h', B⟩ kind on wth n x y mode pn pi := by
    rw [hp1, hp2, hp3]
    exact ⟨⟨blk_below (blk_below k1 b2 (by omega)) b3 (by omega)⟩, blk_below k2 b3 (by omega), ⟨k3⟩⟩
  have HSt := Lib.hid hst
  have HE := Lib.hid (he.grow hB3)
  have HF := Lib.hid (hf.grow hB3)
  have HT := Lib.hid (fun W (hW : Below w.heap.size w W) => hT.grow hW)
  have HB3 := Lib.hid hB3
  have E1 := Lib.hid e1; have E2 := Lib.hid e2; have E3 := Lib.hid e3
  have P1 := Lib.hid hp1; have P2 : Hid (p2 = p1 + 1) := (by show p2 = p1 + 1; omega); have P3 : Hid (p3 = p2 + 1) := (by show p3 = p2 + 1; omega)
  have HEF := Lib.hid hef
  have HOk : Hid (A.Ok) := he.ok
  clear he hf hT hef e1 e2 e3 k1 k2 k3 b1 b2 b3 s1 s2 s3 hB3 hst hp1 hp2 hp3
  subst hkd
  have HRd := Lib.hid (rounds7_any ⟨g, hh, A⟩ mode pn pi w3 (HT.out w3 HB3.out) HE.out)
  unfold sdV pol at HRd
  clear hn1 hn2 HOk HF HEF HT hx hy
  unfold sdV stV
  go_enter Tryz.func25, Tryz.ntmps25
  go_upto_region 1 with fail
  rw [← E1.out, ← E2.out, ← E3.out]
  rw [← P1.out, ← P2.out, ← P3.out]
  obtain ⟨c0, c1, c2, c3, c4, c5, c6, c7, c8, c9, c10⟩ := HSt.out.cells
  go_wp2_with fail
  refine HRd.out.mono ?_; rintro en w4 ⟨rfl, hb⟩
  have HE4 := Lib.hid (HE.out.grow hb)
  have HG4 : Hid (G2 w3 w4 g hh) := G2.below hb
  clear hb
  go_wp2_with fail
  go_ret
  exact StQ.of HB3.out HE4.out HG4.out
set_option maxHeartbeats 16000000 in
theorem step7_other (e f : Sd) (kind on wth n : Int) (x y : Nat) (mode pn pi : Int) (w : World) (hkd : kind ≠ 0 ∧ kind ≠ 1 ∧ kind ≠ 2 ∧ kind ≠ 3 ∧ kind ≠ 4 ∧ kind ≠ 6 ∧ kind ≠ 7) (hx : x < 18446744073709551616) (hy : y < 18446744073709551616) (hn1 : -9223372036854775808 ≤ n) (hn2 : n ≤ 9223372036854775807) (hT : Tab w) (he : SdAt w e) (hf : SdAt w f) (hef : f = e ∨ f.g ≠ e.g ∧ f.h ≠ e.h) :
    Calls Tryz.prog 25 #[sdV e, stV kind on wth n x y mode pn pi, sdV f] w (StQ e w) := by
  obtain ⟨g, hh, A⟩ := e
  obtain ⟨g', h', B⟩ := f
  obtain ⟨w1, e1⟩ : ∃ W, W = w.alloc (.cells #[.pointer (some ⟨g, 0, none⟩), .pointer (some ⟨hh, 0, none⟩)] 53) := ⟨_, rfl⟩
  obtain ⟨k1, b1, s1⟩ := new_of e1 rfl
  obtain ⟨w2, e2⟩ : ∃ W, W = w1.alloc (.cells #[.int .i64 kind, .int .i64 on, .int .i64 wth, .int .i64 n, .float .f64 x, .float .f64 y, .int .i64 mode, .int .i64 pn, .int .i64 pi] 63) := ⟨_, rfl⟩
  obtain ⟨k2, b2, s2⟩ := new_of e2 s1
  obtain ⟨w3, e3⟩ : ∃ W, W = w2.alloc (.cells #[.pointer (some ⟨g', 0, none⟩), .pointer (some ⟨h', 0, none⟩)] 53) := ⟨_, rfl⟩
  obtain ⟨k3, b3, s3⟩ := new_of e3 s2
  have hB3 := (b1.trans (b2.mono (by omega))).trans (b3.mono (by omega))
  obtain ⟨p1, hp1⟩ : ∃ p, p = w.heap.size := ⟨_, rfl⟩
  obtain ⟨p2, hp2⟩ : ∃ p, p = w.heap.size + 1 := ⟨_, rfl⟩
  obtain ⟨p3, hp3⟩ : ∃ p, p = w.heap.size + 2 := ⟨_, rfl⟩
  have hst : St7 w3 p1 p2 p3 ⟨g, hh, A⟩ ⟨g', h', B⟩ kind on wth n x y mode pn pi := by
    rw [hp1, hp2, hp3]
    exact ⟨⟨blk_below (blk_below k1 b2 (by omega)) b3 (by omega)⟩, blk_below k2 b3 (by omega), ⟨k3⟩⟩
  have HSt := Lib.hid hst
  have HE := Lib.hid (he.grow hB3)
  have HF := Lib.hid (hf.grow hB3)
  have HT := Lib.hid (fun W (hW : Below w.heap.size w W) => hT.grow hW)
  have HB3 := Lib.hid hB3
  have E1 := Lib.hid e1; have E2 := Lib.hid e2; have E3 := Lib.hid e3
  have P1 := Lib.hid hp1; have P2 : Hid (p2 = p1 + 1) := (by show p2 = p1 + 1; omega); have P3 : Hid (p3 = p2 + 1) := (by show p3 = p2 + 1; omega)
  have HEF := Lib.hid hef
  have HOk : Hid (A.Ok) := he.ok
  clear he hf hT hef e1 e2 e3 k1 k2 k3 b1 b2 b3 s1 s2 s3 hB3 hst hp1 hp2 hp3
  obtain ⟨k0, k1, k2, k3, k4, k6, k7⟩ := hkd
  have d0 : (kind == 0) = false := by simpa using k0
  have d1 : (kind == 1) = false := by simpa using k1
  have d2 : (kind == 2) = false := by simpa using k2
  have d3 : (kind == 3) = false := by simpa using k3
  have d4 : (kind == 4) = false := by simpa using k4
  have d6 : (kind == 6) = false := by simpa using k6
  have d7 : (kind == 7) = false := by simpa using k7
  clear hn1 hn2 HOk HF HEF HT hx hy k0 k1 k2 k3 k4 k6 k7
  unfold sdV stV
  go_enter Tryz.func25, Tryz.ntmps25
  go_upto_region 1 with fail
  rw [← E1.out, ← E2.out, ← E3.out]
  rw [← P1.out, ← P2.out, ← P3.out]
  obtain ⟨c0, c1, c2, c3, c4, c5, c6, c7, c8, c9, c10⟩ := HSt.out.cells
  go_wp2_with fail
  go_ret
  exact StQ.of HB3.out HE.out (G2.refl _ _ _)
set_option maxHeartbeats 16000000 in
theorem step7_exact (e f : Sd) (kind on wth n : Int) (x y : Nat) (mode pn pi : Int) (w : World) (hkd : kind = 7) (hx : x < 18446744073709551616) (hy : y < 18446744073709551616) (hn1 : -9223372036854775808 ≤ n) (hn2 : n ≤ 9223372036854775807) (hT : Tab w) (he : SdAt w e) (hf : SdAt w f) (hef : f = e ∨ f.g ≠ e.g ∧ f.h ≠ e.h) :
    Calls Tryz.prog 25 #[sdV e, stV kind on wth n x y mode pn pi, sdV f] w (StQ e w) := by
  obtain ⟨g, hh, A⟩ := e
  obtain ⟨g', h', B⟩ := f
  obtain ⟨w1, e1⟩ : ∃ W, W = w.alloc (.cells #[.pointer (some ⟨g, 0, none⟩), .pointer (some ⟨hh, 0, none⟩)] 53) := ⟨_, rfl⟩
  obtain ⟨k1, b1, s1⟩ := new_of e1 rfl
  obtain ⟨w2, e2⟩ : ∃ W, W = w1.alloc (.cells #[.int .i64 kind, .int .i64 on, .int .i64 wth, .int .i64 n, .float .f64 x, .float .f64 y, .int .i64 mode, .int .i64 pn, .int .i64 pi] 63) := ⟨_, rfl⟩
  obtain ⟨k2, b2, s2⟩ := new_of e2 s1
  obtain ⟨w3, e3⟩ : ∃ W, W = w2.alloc (.cells #[.pointer (some ⟨g', 0, none⟩), .pointer (some ⟨h', 0, none⟩)] 53) := ⟨_, rfl⟩
  obtain ⟨k3, b3, s3⟩ := new_of e3 s2
  have hB3 := (b1.trans (b2.mono (by omega))).trans (b3.mono (by omega))
  obtain ⟨p1, hp1⟩ : ∃ p, p = w.heap.size := ⟨_, rfl⟩
  obtain ⟨p2, hp2⟩ : ∃ p, p = w.heap.size + 1 := ⟨_, rfl⟩
  obtain ⟨p3, hp3⟩ : ∃ p, p = w.heap.size + 2 := ⟨_, rfl⟩
  have hst : St7 w3 p1 p2 p3 ⟨g, hh, A⟩ ⟨g', h', B⟩ kind on wth n x y mode pn pi := by
    rw [hp1, hp2, hp3]
    exact ⟨⟨blk_below (blk_below k1 b2 (by omega)) b3 (by omega)⟩, blk_below k2 b3 (by omega), ⟨k3⟩⟩
  have HSt := Lib.hid hst
  have HE := Lib.hid (he.grow hB3)
  have HF := Lib.hid (hf.grow hB3)
  have HT := Lib.hid (fun W (hW : Below w.heap.size w W) => hT.grow hW)
  have HB3 := Lib.hid hB3
  have E1 := Lib.hid e1; have E2 := Lib.hid e2; have E3 := Lib.hid e3
  have P1 := Lib.hid hp1; have P2 : Hid (p2 = p1 + 1) := (by show p2 = p1 + 1; omega); have P3 : Hid (p3 = p2 + 1) := (by show p3 = p2 + 1; omega)
  have HEF := Lib.hid hef
  have HOk : Hid (A.Ok) := he.ok
  clear he hf hT hef e1 e2 e3 k1 k2 k3 b1 b2 b3 s1 s2 s3 hB3 hst hp1 hp2 hp3
  subst hkd
  obtain ⟨i0, hi, hz0, hz1, hz2⟩ := _root_.Go.info_parts infoW
  obtain ⟨d, hd⟩ := exO_some HOk.out.v
  have HX : Hid (Calls Tryz.prog 106 #[.pointer (some ⟨g, 0, none⟩)] w3 fun en w' => ∃ a c, en = .returned (.agg #[.bool d.neg, .slice a (words d.m).length c, .int .i64 d.exp]) ∧ Own w' 118 w3.heap.size a c (words d.m) ∧ Below w3.heap.size w3 w') := by
    refine (exact_any A g w3 HE.out.a HOk.out.v (HT.out w3 HB3.out)).mono ?_
    rintro en w' ⟨v, rfl, ⟨a, c, rfl, ho⟩, hb⟩
    rw [hd] at ho ⊢
    exact ⟨a, c, rfl, ho, hb⟩
  have hln := (exO_both hd).2.len
  obtain ⟨n7, hn7⟩ : ∃ k, k = (words d.m).length := ⟨_, rfl⟩
  rw [← hn7] at HX hln
  have HN7 := Lib.hid hn7
  clear hn1 hn2 HOk HF HEF HT hx hy hd hn7
  unfold sdV stV
  go_enter Tryz.func25, Tryz.ntmps25
  go_upto_region 1 with fail
  rw [← E1.out, ← E2.out, ← E3.out]
  rw [← P1.out, ← P2.out, ← P3.out]
  obtain ⟨c0, c1, c2, c3, c4, c5, c6, c7, c8, c9, c10⟩ := HSt.out.cells
  go_wp2_with fail
  refine HX.out.mono ?_; rintro en w4 ⟨a, c, rfl, ho, hb⟩
  clear c0 c1 c2 c3 c4 c5 c6 c7 c8 c9 c10
  go_upto_region 25 with fail
  obtain ⟨w5, e5⟩ : ∃ W, W = w4.alloc (.cells #[.bool d.neg, .slice a n7 c, .int .i64 d.exp] 46) := ⟨_, rfl⟩
  obtain ⟨p4, hp4⟩ : ∃ p, p = w4.heap.size := ⟨_, rfl⟩
  rw [← e5, ← hp4]
  obtain ⟨K5, b5, s5⟩ := new_cel e5 rfl
  rw [← hp4] at K5
  have HK5 := Lib.hid K5
  have HO5 := Lib.hid (ho.grow b5)
  have HB5 := Lib.hid (hb.trans (b5.mono hb.size))
  have hp3 : w3.heap.size ≤ p4 := by rw [hp4]; exact hb.size
  have HApt := Lib.hid (fun ad (h : a = some ad) => cel_apart K5 (ho.grow b5) ad h)
  clear e5 hp4 K5 b5 s5 ho hb
  go_wp2_with fail
  go_loopw [14] (fun ii wr => ∃ (k : Nat) (l : List Nat), k ≤ n7 ∧ ii = .int .i64 k ∧ Hid (l.length = n7 ∧ Own wr 118 w3.heap.size a c l ∧ Cel wr p4 (.bool d.neg) (.slice a n7 c) (.int .i64 d.exp) ∧ Below w3.heap.size w3 wr)) (fun ii _ => n7 - (intOf ii).toNat)
  case atStart => exact ⟨0, words d.m, Nat.zero_le _, rfl, HN7.out.symm, HO5.out, HK5.out, HB5.out⟩
  case round =>
    obtain ⟨k, l, hk, rfl, hH⟩ := hrel
    have HH := Lib.hid hH.out
    clear hH
    obtain ⟨z0, z1, z2, z3, z4, z5⟩ := HH.out.2.2.1.facts
    by_cases hq : k < n7
    · obtain ⟨gb, rfl, g1, g2, ⟨y0, g3⟩, g4⟩ := own_put HH.out.2.1 (k := k) (by rw [HH.out.1]; exact hq) 77
      rw [show ((77 : Nat) : Int) = 77 from rfl] at g4
      have G4 := Lib.hid g4
      have G1 := Lib.hid g1
      clear g4
      go_wp2_with fail
      go_roundw
      case rel => exact ⟨k + 1, l.set k 77, by omega, by go_num, by rw [List.length_set]; exact HH.out.1, G4.out, HH.out.2.2.1.other (a := ⟨gb, k, none⟩) (HApt.out (⟨gb, 0, none⟩ : Addr) rfl) _, HH.out.2.2.2.setCell (p := ⟨gb, k, none⟩) G1.out _⟩
      case measure => simp [intOf]; omega
    · obtain rfl : k = n7 := by omega
      have HBk := Lib.hid (blk_alloc wr 118 #[.int .u32 78, .int .u32 79] [78, 79] rfl)
      have hsz := HH.out.2.2.2.size
      have HL := Lib.hid HH.out.1.symm
      go_wp2_with (first | (at_builtin; refine wpList_append_words rfl _ _ 44 rfl 118 i0 Tryz.underlying44 hi hz0 hz1 hz2 w3.heap.size a (some ⟨wr.heap.size, 0, none⟩) k c 2 2 l [78, 79] rfl rfl HL.out rfl (HH.out.2.1.grow ((Below.refl _ _).alloc (Nat.le_refl _) _)) HBk.out.rd (by intro h; cases h) (by omega) (by rw [World.size_alloc]; omega) ?_; intro a2 c2 w6 ho2 hg2 hn2; obtain ⟨_, _, _, _, _, _⟩ := (cel_opt (HH.out.2.2.1.alloc (.cells #[.int .u32 78, .int .u32 79] 118)) hg2 (by
            intro b hb
            obtain ⟨ad, had, rfl⟩ := Option.map_eq_some_iff.1 hb
            exact HApt.out ad had)).facts))
      have hbb : Below w3.heap.size w3 w6 := by
        refine HH.out.2.2.2.trans (((Below.refl _ _).alloc (by omega) _).trans ⟨hg2.os, hg2.tape, hg2.output, hg2.size, fun j hj => hg2.block j (by rw [World.size_alloc]; omega) ?_⟩)
        intro h
        obtain ⟨ad, had, hj2⟩ := Option.map_eq_some_iff.1 h.symm
        have := HH.out.2.1.ge ad had
        omega
      have hb9 := hbb.setCell (p := ⟨p4, 1, none⟩) hp3 (.slice a2 (k + 2) c2)
      have HE9 := Lib.hid (HE.out.grow hb9)
      have HB9 := Lib.hid hb9
      clear ho2 hg2 hn2 hbb hb9
      go_ret
      exact StQ.of HB3.out HE9.out (G2.below HB9.out)
end Go.Proofs.YteahdgbokjbgcaaGreatDoor

/- The walk of SuperScript. No statement of the seat is proved here. -/
import Derived.Test.YteahdgbokjbgcaaGreatDoorProg
import Derived.Test.YteahdgbokjbgcaaGreatDoorYKq
import Derived.Test.YteahdgbokjbgcaaGreatDoorYMP
import Derived.Deep.DeepCutAuto
namespace Go.Proofs.YteahdgbokjbgcaaGreatDoor
open Go.RowKit
set_option maxRecDepth 10000
set_option linter.unusedVariables false
set_option linter.unusedSimpArgs false

structure Tq where
  kind : Int
  on : Int
  wth : Int
  n : Int
  x : Nat
  y : Nat
  mode : Int
  pn : Int
  pi : Int
def stsV : List Tq → List Value
  | [] => []
  | o :: l => .int .i64 o.kind :: .int .i64 o.on :: .int .i64 o.wth :: .int .i64 o.n :: .float .f64 o.x :: .float .f64 o.y :: .int .i64 o.mode :: .int .i64 o.pn :: .int .i64 o.pi :: stsV l
theorem stsV_get : ∀ (l : List Tq) (i : Nat) (o : Tq), l[i]? = some o → (stsV l)[i * 9]? = some (.int .i64 o.kind) ∧ (stsV l)[i * 9 + 1]? = some (.int .i64 o.on) ∧ (stsV l)[i * 9 + 2]? = some (.int .i64 o.wth) ∧ (stsV l)[i * 9 + 3]? = some (.int .i64 o.n) ∧ (stsV l)[i * 9 + 4]? = some (.float .f64 o.x) ∧ (stsV l)[i * 9 + 5]? = some (.float .f64 o.y) ∧ (stsV l)[i * 9 + 6]? = some (.int .i64 o.mode) ∧ (stsV l)[i * 9 + 7]? = some (.int .i64 o.pn) ∧ (stsV l)[i * 9 + 8]? = some (.int .i64 o.pi)
  | [], i, e, h => by simp at h
  | q :: l, 0, e, h => by
    simp at h; subst h
    exact ⟨rfl, rfl, rfl, rfl, rfl, rfl, rfl, rfl, rfl⟩
  | q :: l, i + 1, e, h => by
    have ih := stsV_get l i e (by simpa using h)
    have e1 : (i + 1) * 9 = i * 9 + 1 + 1 + 1 + 1 + 1 + 1 + 1 + 1 + 1 := by omega
    rw [e1]
    simp only [stsV, List.getElem?_cons_succ]
    exact ih
structure Tq.Ok (o : Tq) : Prop where
  x : o.x < 18446744073709551616
  y : o.y < 18446744073709551616
  o1 : -9223372036854775808 ≤ o.on
  o2 : o.on ≤ 9223372036854775807
  w1 : -9223372036854775808 ≤ o.wth
  w2 : o.wth ≤ 9223372036854775807
  n1 : -9223372036854775808 ≤ o.n
  n2 : o.n ≤ 9223372036854775807
theorem step7_any (e f : Sd) (kind on wth n : Int) (x y : Nat) (mode pn pi : Int) (w : World) (hx : x < 18446744073709551616) (hy : y < 18446744073709551616) (hn1 : -9223372036854775808 ≤ n) (hn2 : n ≤ 9223372036854775807) (hT : Tab w) (he : SdAt w e) (hf : SdAt w f) (hef : f = e ∨ f.g ≠ e.g ∧ f.h ≠ e.h) :
    Calls Tryz.prog 25 #[sdV e, stV kind on wth n x y mode pn pi, sdV f] w (StQ e w) := by
  by_cases k0 : kind = 0
  · exact step7_add e f kind on wth n x y mode pn pi w k0 hx hy hn1 hn2 hT he hf hef
  by_cases k1 : kind = 1
  · exact step7_take e f kind on wth n x y mode pn pi w k1 hx hy hn1 hn2 hT he hf hef
  by_cases k2 : kind = 2
  · exact step7_addp e f kind on wth n x y mode pn pi w k2 hx hy hn1 hn2 hT he hf hef
  by_cases k3 : kind = 3
  · exact step7_takep e f kind on wth n x y mode pn pi w k3 hx hy hn1 hn2 hT he hf hef
  by_cases k4 : kind = 4
  · exact step7_merge e f kind on wth n x y mode pn pi w k4 hx hy hn1 hn2 hT he hf hef
  by_cases k6 : kind = 6
  · exact step7_round e f kind on wth n x y mode pn pi w k6 hx hy hn1 hn2 hT he hf hef
  by_cases k7 : kind = 7
  · exact step7_exact e f kind on wth n x y mode pn pi w k7 hx hy hn1 hn2 hT he hf hef
  exact step7_other e f kind on wth n x y mode pn pi w ⟨k0, k1, k2, k3, k4, k6, k7⟩ hx hy hn1 hn2 hT he hf hef
theorem Sds.pair {w W : World} {gl k : Nat} {s : Nat → Sd} (h : Sds w W gl k s) {i j : Nat} (hi : i < k) (hj : j < k) : s j = s i ∨ (s j).g ≠ (s i).g ∧ (s j).h ≠ (s i).h := by
  by_cases e : j = i
  · rw [e]; exact .inl rfl
  · exact .inr (h.ne j i hj hi e)
theorem sdAt_zero {W1 W2 : World} {g h : Nat} (ha : AccAt W1 g Ac.zero) (hb : Below W1.heap.size W1 W2) (hr : RAc W2 h Ac.zero) : SdAt W2 ⟨g, h, Ac.zero⟩ := ⟨acc_below ha hb (Tot.lt ha), hr, Ac.zero_ok⟩
set_option maxHeartbeats 64000000 in
theorem superscript_any (a : Option Addr) (c : Nat) (l : List Tq) (w : World) (hT : Tab w) (hr : VRd w a (stsV l)) (hok : ∀ o ∈ l, o.Ok) (hlen : l.length ≤ 17592186044416) :
    Calls Tryz.prog 4 #[.slice a l.length c] w fun en w' => en = .returned (.bool true) ∧ Below w.heap.size w w' := by
  have HL7 := Lib.hid (live7_any w hT)
  have HT := Lib.hid (fun W (hW : Below w.heap.size w W) => hT.grow hW)
  have HR := Lib.hid (fun W (hW : Below w.heap.size w W) => hr.grow hW)
  have HOk := Lib.hid hok
  clear hT hr hok
  go_enter Tryz.func4, Tryz.ntmps4
  go_wp2_with fail
  refine HL7.out.mono ?_; rintro en w1 ⟨rfl, hb⟩
  have HB1 := Lib.hid hb
  clear hb HL7
  go_upto_region 3 with fail
  obtain ⟨gl, hgl⟩ : ∃ g, g = w1.heap.size := ⟨_, rfl⟩
  obtain ⟨w2, e2⟩ : ∃ W, W = w1.alloc (.cells #[.pointer none, .pointer none, .pointer none, .pointer none, .pointer none, .pointer none] 54) := ⟨_, rfl⟩
  rw [← e2, ← hgl]
  obtain ⟨k2, b2, s2⟩ := new_of e2 hgl.symm
  rw [hgl] at b2
  have HS0 : Hid (Sds w w2 gl 0 (fun _ => ⟨0, 0, Ac.zero⟩)) := ⟨k2, by rw [hgl]; exact HB1.out.size, fun i hi => absurd hi (by omega), fun i j hi => absurd hi (by omega), HB1.out.trans (b2.mono HB1.out.size)⟩
  clear e2 hgl k2 b2 s2
  go_wp2_with fail
  go_loopw [5] (fun ii wr => ∃ (k : Nat) (s : Nat → Sd), k ≤ 3 ∧ ii = .int .i64 k ∧ Hid (Sds w wr gl k s)) (fun ii _ => 3 - (intOf ii).toNat)
  case atStart => exact ⟨0, _, by omega, rfl, HS0.out⟩
  case round =>
    obtain ⟨k, s, hk, rfl, hH⟩ := hrel
    have HH := Lib.hid hH.out
    clear hH
    by_cases hk3 : k < 3
    · go_wp2_with fail
      refine (new_any wr).mono ?_; rintro en w3 ⟨rfl, hA, hb⟩
      obtain ⟨p3, hp3⟩ : ∃ p, p = wr.heap.size := ⟨_, rfl⟩
      rw [← hp3] at hA ⊢
      have HA3 := Lib.hid hA
      have HB3 := Lib.hid hb
      have HP3 := Lib.hid hp3
      obtain ⟨w4, e4⟩ : ∃ W, W = w3.alloc (.cells #[.bool false, .slice none 0 0, .int .i64 0, .int .i64 0, .int .i64 0, .int .i64 0, .int .i64 0, .int .i64 0, .int .i64 0] 59) := ⟨_, rfl⟩
      obtain ⟨k4, b4, s4⟩ := new_of e4 rfl
      have HB4 := Lib.hid (hb.trans (b4.mono hb.size))
      have HSd4 := Lib.hid (sdAt_zero hA b4 (rac_zero k4))
      have HS4 := Lib.hid (HH.out.grow HB4.out)
      have HPut := Lib.hid (HH.out.put (k' := k + 1) (i := k) (.inr ⟨rfl, rfl⟩) (by omega) HB4.out HSd4.out (by rw [hp3]; exact Nat.le_refl _) hb.size)
      have f0 := HS4.out.frozen (k * 2)
      have f1 := HS4.out.frozen (k * 2 + 1)
      have g0 := rowF_cell HS4.out.row (t := k * 2) (by omega)
      have g1 := rowF_cell HS4.out.row (t := k * 2 + 1) (by omega)
      have E4 := Lib.hid e4
      rw [e4] at f0 f1 g0 g1
      have n1 : (0 : Int) ≤ (k : Int) := by omega
      have n2 : (k : Int) < 3 := by omega
      clear hA hb hp3 e4 k4 b4 s4
      go_upto_region 7 with fail
      rw [← E4.out]
      obtain ⟨p4, hp4⟩ : ∃ p, p = w3.heap.size := ⟨_, rfl⟩
      rw [← hp4] at HPut ⊢
      obtain ⟨w5, e5⟩ : ∃ W, W = (w4.setCell ⟨gl, k * 2, none⟩ (.pointer (some ⟨p3, 0, none⟩))).setCell ⟨gl, k * 2 + 1, none⟩ (.pointer (some ⟨p4, 0, none⟩)) := ⟨_, rfl⟩
      rw [← e5]
      have HS5 : Hid (Sds w w5 gl (k + 1) (putS s k ⟨p3, p4, Ac.zero⟩)) := by rw [e5]; exact HPut.out
      have q0 := (HS5.out.cells (by omega) (show k < k + 1 by omega)).1
      rw [putS_self] at q0
      dsimp only at q0
      clear e5 hp4 HPut f0 f1 g0 g1 HSd4 HS4 E4
      go_wp2_with fail
      go_roundw
      case rel => exact ⟨k + 1, _, by omega, by go_num, HS5.out⟩
      case measure => simp [intOf]; omega
    · obtain rfl : k = 3 := by omega
      rw [show ((3 : Nat) : Int) = 3 from rfl]
      clear hk hk3
      go_wp2_with fail
      go_loopw [6] (fun ii wr => ∃ (k : Nat) (s : Nat → Sd), k ≤ l.length ∧ ii = .int .i64 k ∧ Hid (Sds w wr gl 3 s)) (fun ii _ => l.length - (intOf ii).toNat)
      case atStart => exact ⟨0, s, by omega, rfl, HH.out⟩
      case round =>
        obtain ⟨k, s, hk, rfl, hH⟩ := hrel
        have HH := Lib.hid hH.out
        clear hH
        by_cases hq : k < l.length
        · obtain ⟨o, ho⟩ : ∃ o, l[k]? = some o := ⟨l[k], List.getElem?_eq_getElem hq⟩
          have hoo := HOk.out o (List.mem_of_getElem? ho)
          obtain ⟨g0, g1, g2, g3, g4, g5, g6, g7, g8⟩ := stsV_get l k o ho
          obtain ⟨kind, on, wth, n, x, y, mode, pn, pi⟩ := o
          dsimp only at g0 g1 g2 g3 g4 g5 g6 g7 g8
          obtain ⟨b, off, rfl, z0⟩ := HR.out wr HH.out.bel _ _ g0
          obtain ⟨_, _, e', z1⟩ := HR.out wr HH.out.bel _ _ g1
          cases e'
          obtain ⟨_, _, e', z2⟩ := HR.out wr HH.out.bel _ _ g2
          cases e'
          obtain ⟨_, _, e', z3⟩ := HR.out wr HH.out.bel _ _ g3
          cases e'
          obtain ⟨_, _, e', z4⟩ := HR.out wr HH.out.bel _ _ g4
          cases e'
          obtain ⟨_, _, e', z5⟩ := HR.out wr HH.out.bel _ _ g5
          cases e'
          obtain ⟨_, _, e', z6⟩ := HR.out wr HH.out.bel _ _ g6
          cases e'
          obtain ⟨_, _, e', z7⟩ := HR.out wr HH.out.bel _ _ g7
          cases e'
          obtain ⟨_, _, e', z8⟩ := HR.out wr HH.out.bel _ _ g8
          cases e'
          rw [← Nat.add_assoc] at z1 z2 z3 z4 z5 z6 z7 z8
          have HO := Lib.hid hoo
          have n1 : (0 : Int) ≤ (k : Int) := by omega
          have n2 : (k : Int) < (l.length : Int) := by omega
          have PA := Lib.hid (fun W => pick_any on 3 W hoo.o1 hoo.o2 (by decide) (by decide))
          have PB := Lib.hid (fun W => pick_any wth 3 W hoo.w1 hoo.w2 (by decide) (by decide))
          rw [show ((3 : Nat) : Int) = 3 from rfl] at PA PB
          have hst1 := run_storeF x
          have hst2 := run_storeF y
          clear ho hoo g0 g1 g2 g3 g4 g5 g6 g7 g8
          go_upto_region 13 with fail
          obtain ⟨w3, e3⟩ : ∃ W, W = wr.alloc (.cells #[.int .i64 kind, .int .i64 on, .int .i64 wth, .int .i64 n, .float .f64 x, .float .f64 y, .int .i64 mode, .int .i64 pn, .int .i64 pi] 63) := ⟨_, rfl⟩
          obtain ⟨p3, hp3⟩ : ∃ p, p = wr.heap.size := ⟨_, rfl⟩
          rw [← e3, ← hp3]
          obtain ⟨k3, b3, s3⟩ := new_of e3 hp3.symm
          rw [hp3] at b3
          have HS3 := Lib.hid (HH.out.grow b3)
          have HK3 := Lib.hid k3
          obtain ⟨y0, y1, y2, y3, y4, y5, y6, y7, y8⟩ := cells9 k3
          clear e3 hp3 k3 b3 s3 z0 z1 z2 z3 z4 z5 z6 z7 z8 hst1 hst2
          go_wp2_with fail
          refine (PA.out w3).mono ?_; rintro en w' ⟨i, hi, rfl, rfl⟩
          go_wp2_with fail
          refine (PB.out w3).mono ?_; rintro en w' ⟨j, hj, rfl, rfl⟩
          go_upto_region 15 with fail
          have i1 : (0 : Int) ≤ (i : Int) := by omega
          have i2 : (i : Int) < 3 := by omega
          have j1 : (0 : Int) ≤ (j : Int) := by omega
          have j2 : (j : Int) < 3 := by omega
          obtain ⟨ci0, ci1⟩ := HS3.out.cells (by omega) hi
          obtain ⟨cj0, cj1⟩ := HS3.out.cells (by omega) hj
          by_cases hk5 : kind = 5
          · subst hk5
            obtain ⟨hat, hlg, hlh⟩ := HS3.out.ats j hj
            obtain ⟨e, he⟩ : ∃ e, e = s j := ⟨_, rfl⟩
            rw [← he] at hat cj0 cj1
            have HEq := Lib.hid he
            clear he
            have HOkA : Hid (e.A.Ok) := hat.ok
            have HAa := Lib.hid hat.a
            obtain ⟨d, da, dc, hrow, hown, hdt⟩ := hat.b
            have HOwn := Lib.hid hown; have HDt := Lib.hid hdt
            obtain ⟨r0, r1, r2, r3, r4, r5, r6, r7, r8⟩ := rac_cells hrow
            clear hrow hown hdt hat hlg hlh ci0 ci1
            go_upto_region 21 with fail
            obtain ⟨w4, e4⟩ : ∃ W, W = w3.alloc (.cells #[.bool d.neg, .slice da (words d.m).length dc, .int .i64 d.exp, .int .i64 e.A.nan, .int .i64 e.A.up, .int .i64 e.A.down, .int .i64 e.A.minus, .int .i64 e.A.plus, .int .i64 e.A.all] 59) := ⟨_, rfl⟩
            obtain ⟨p4, hp4⟩ : ∃ p, p = w3.heap.size := ⟨_, rfl⟩
            rw [← e4, ← hp4]
            obtain ⟨k4, b4, s4⟩ := new_of e4 hp4.symm
            rw [hp4] at b4
            have HB4 := Lib.hid b4
            have HR4 : Hid (RAc w4 p4 e.A) := ⟨d, da, dc, k4, HOwn.out.grow b4, HDt.out⟩
            have HCp := Lib.hid (acccopy_any e.A e.g w4 (acc_below HAa.out b4 (Tot.lt HAa.out)))
            have HS4 := Lib.hid (HS3.out.grow b4)
            have cj0 : w4.cell? ⟨gl, j * 2, none⟩ = some (.pointer (some ⟨e.g, 0, none⟩)) := by rw [HEq.out]; exact (HS4.out.cells (by omega) hj).1
            have HP4 : Hid (p4 = w3.heap.size) := hp4
            clear e4 hp4 k4 b4 s4 r0 r1 r2 r3 r4 r5 r6 r7 r8 cj1 y0 y1 y2 y3 y4 y5 y6 y7 y8
            go_wp2_with fail
            refine HCp.out.mono ?_; rintro en w5 ⟨rfl, hA5, hb⟩
            obtain ⟨p5, hp5⟩ : ∃ p, p = w4.heap.size := ⟨_, rfl⟩
            rw [← hp5] at hA5 ⊢
            have HB5 := Lib.hid (HB4.out.trans (hb.mono HB4.out.size))
            have HPut := Lib.hid (HS3.out.put (k' := 3) (i := i) (e := ⟨p5, p4, e.A⟩) (.inl ⟨rfl, hi⟩) (by omega) HB5.out ⟨hA5, HR4.out.grow hb, HOkA.out⟩ (by rw [hp5]; exact HB4.out.size) (by rw [HP4.out]; exact Nat.le_refl _))
            have HS5 := Lib.hid (HS4.out.grow hb)
            have f0 := HS5.out.frozen (i * 2)
            have f1 := HS5.out.frozen (i * 2 + 1)
            have g0 := rowF_cell HS5.out.row (t := i * 2) (by omega)
            have g1 := rowF_cell HS5.out.row (t := i * 2 + 1) (by omega)
            clear hA5 hb hp5 cj0
            go_upto_region 22 with fail
            obtain ⟨w6, e6⟩ : ∃ W, W = (w5.setCell ⟨gl, i * 2, none⟩ (.pointer (some ⟨p5, 0, none⟩))).setCell ⟨gl, i * 2 + 1, none⟩ (.pointer (some ⟨p4, 0, none⟩)) := ⟨_, rfl⟩
            rw [← e6]
            obtain ⟨s', hs'⟩ : ∃ s', s' = putS s i ⟨p5, p4, e.A⟩ := ⟨_, rfl⟩
            have HS6 : Hid (Sds w w6 gl 3 s') := by rw [e6, hs']; exact HPut.out
            have q0 := (HS6.out.cells (by omega) hi).1
            clear e6 hs' HPut f0 f1 g0 g1 HS5 HS4
            have t0 : w6.cell? ⟨gl, 0, none⟩ = some (.pointer (some ⟨(s' 0).g, 0, none⟩)) := (HS6.out.cells (by decide) (show 0 < 3 by decide)).1
            have t1 : w6.cell? ⟨gl, 1, none⟩ = some (.pointer (some ⟨(s' 0).h, 0, none⟩)) := (HS6.out.cells (by decide) (show 0 < 3 by decide)).2
            have L0 := Lib.hid (alike7_any (s' 0) w6 (HT.out w6 HS6.out.bel) (HS6.out.ats 0 (by decide)).1)
            unfold sdV at L0
            go_wp2_with fail
            refine L0.out.mono ?_; rintro en w7 ⟨rfl, hb⟩
            have HS7 := Lib.hid (HS6.out.grow hb)
            clear hb t0 t1 L0 HS6
            have t0 : w7.cell? ⟨gl, 2, none⟩ = some (.pointer (some ⟨(s' 1).g, 0, none⟩)) := (HS7.out.cells (by decide) (show 1 < 3 by decide)).1
            have t1 : w7.cell? ⟨gl, 3, none⟩ = some (.pointer (some ⟨(s' 1).h, 0, none⟩)) := (HS7.out.cells (by decide) (show 1 < 3 by decide)).2
            have L0 := Lib.hid (alike7_any (s' 1) w7 (HT.out w7 HS7.out.bel) (HS7.out.ats 1 (by decide)).1)
            unfold sdV at L0
            go_wp2_with fail
            refine L0.out.mono ?_; rintro en w8 ⟨rfl, hb⟩
            have HS8 := Lib.hid (HS7.out.grow hb)
            clear hb t0 t1 L0 HS7
            have t0 : w8.cell? ⟨gl, 4, none⟩ = some (.pointer (some ⟨(s' 2).g, 0, none⟩)) := (HS8.out.cells (by decide) (show 2 < 3 by decide)).1
            have t1 : w8.cell? ⟨gl, 5, none⟩ = some (.pointer (some ⟨(s' 2).h, 0, none⟩)) := (HS8.out.cells (by decide) (show 2 < 3 by decide)).2
            have L0 := Lib.hid (alike7_any (s' 2) w8 (HT.out w8 HS8.out.bel) (HS8.out.ats 2 (by decide)).1)
            unfold sdV at L0
            go_wp2_with fail
            refine L0.out.mono ?_; rintro en w9 ⟨rfl, hb⟩
            have HS9 := Lib.hid (HS8.out.grow hb)
            clear hb t0 t1 L0 HS8
            go_wp2_with fail
            go_roundw
            case rel => exact ⟨k + 1, s', by omega, by go_num, HS9.out⟩
            case measure => simp [intOf]; omega
          by_cases hk8 : kind = 8
          · subst hk8
            clear ci0 ci1 cj0 cj1
            go_wp2_with fail
            refine (new_any w3).mono ?_; rintro en w4 ⟨rfl, hA, hb⟩
            obtain ⟨p4, hp4⟩ : ∃ p, p = w3.heap.size := ⟨_, rfl⟩
            rw [← hp4] at hA ⊢
            obtain ⟨w5, e5⟩ : ∃ W, W = w4.alloc (.cells #[.bool false, .slice none 0 0, .int .i64 0, .int .i64 0, .int .i64 0, .int .i64 0, .int .i64 0, .int .i64 0, .int .i64 0] 59) := ⟨_, rfl⟩
            obtain ⟨k5, b5, s5⟩ := new_of e5 rfl
            have HB5 := Lib.hid (hb.trans (b5.mono hb.size))
            have HPut := Lib.hid (HS3.out.put (k' := 3) (i := i) (.inl ⟨rfl, hi⟩) (by omega) HB5.out (sdAt_zero hA b5 (rac_zero k5)) (by rw [hp4]; exact Nat.le_refl _) hb.size)
            have HS5 := Lib.hid (HS3.out.grow HB5.out)
            have f0 := HS5.out.frozen (i * 2)
            have f1 := HS5.out.frozen (i * 2 + 1)
            have g0 := rowF_cell HS5.out.row (t := i * 2) (by omega)
            have g1 := rowF_cell HS5.out.row (t := i * 2 + 1) (by omega)
            have E5 := Lib.hid e5
            rw [e5] at f0 f1 g0 g1
            clear hA hb hp4 e5 k5 b5 s5 y0 y1 y2 y3 y4 y5 y6 y7 y8
            go_upto_region 26 with fail
            rw [← E5.out]
            obtain ⟨p5, hp5⟩ : ∃ p, p = w4.heap.size := ⟨_, rfl⟩
            rw [← hp5] at HPut ⊢
            obtain ⟨w6, e6⟩ : ∃ W, W = (w5.setCell ⟨gl, i * 2, none⟩ (.pointer (some ⟨p4, 0, none⟩))).setCell ⟨gl, i * 2 + 1, none⟩ (.pointer (some ⟨p5, 0, none⟩)) := ⟨_, rfl⟩
            rw [← e6]
            obtain ⟨s', hs'⟩ : ∃ s', s' = putS s i ⟨p4, p5, Ac.zero⟩ := ⟨_, rfl⟩
            have HS6 : Hid (Sds w w6 gl 3 s') := by rw [e6, hs']; exact HPut.out
            have q0 := (HS6.out.cells (by omega) hi).1
            clear e6 hs' HPut f0 f1 g0 g1 HS5 E5 hp5
            have t0 : w6.cell? ⟨gl, 0, none⟩ = some (.pointer (some ⟨(s' 0).g, 0, none⟩)) := (HS6.out.cells (by decide) (show 0 < 3 by decide)).1
            have t1 : w6.cell? ⟨gl, 1, none⟩ = some (.pointer (some ⟨(s' 0).h, 0, none⟩)) := (HS6.out.cells (by decide) (show 0 < 3 by decide)).2
            have L0 := Lib.hid (alike7_any (s' 0) w6 (HT.out w6 HS6.out.bel) (HS6.out.ats 0 (by decide)).1)
            unfold sdV at L0
            go_wp2_with fail
            refine L0.out.mono ?_; rintro en w7 ⟨rfl, hb⟩
            have HS7 := Lib.hid (HS6.out.grow hb)
            clear hb t0 t1 L0 HS6
            have t0 : w7.cell? ⟨gl, 2, none⟩ = some (.pointer (some ⟨(s' 1).g, 0, none⟩)) := (HS7.out.cells (by decide) (show 1 < 3 by decide)).1
            have t1 : w7.cell? ⟨gl, 3, none⟩ = some (.pointer (some ⟨(s' 1).h, 0, none⟩)) := (HS7.out.cells (by decide) (show 1 < 3 by decide)).2
            have L0 := Lib.hid (alike7_any (s' 1) w7 (HT.out w7 HS7.out.bel) (HS7.out.ats 1 (by decide)).1)
            unfold sdV at L0
            go_wp2_with fail
            refine L0.out.mono ?_; rintro en w8 ⟨rfl, hb⟩
            have HS8 := Lib.hid (HS7.out.grow hb)
            clear hb t0 t1 L0 HS7
            have t0 : w8.cell? ⟨gl, 4, none⟩ = some (.pointer (some ⟨(s' 2).g, 0, none⟩)) := (HS8.out.cells (by decide) (show 2 < 3 by decide)).1
            have t1 : w8.cell? ⟨gl, 5, none⟩ = some (.pointer (some ⟨(s' 2).h, 0, none⟩)) := (HS8.out.cells (by decide) (show 2 < 3 by decide)).2
            have L0 := Lib.hid (alike7_any (s' 2) w8 (HT.out w8 HS8.out.bel) (HS8.out.ats 2 (by decide)).1)
            unfold sdV at L0
            go_wp2_with fail
            refine L0.out.mono ?_; rintro en w9 ⟨rfl, hb⟩
            have HS9 := Lib.hid (HS8.out.grow hb)
            clear hb t0 t1 L0 HS8
            go_wp2_with fail
            go_roundw
            case rel => exact ⟨k + 1, s', by omega, by go_num, HS9.out⟩
            case measure => simp [intOf]; omega
          have d5 : (kind == 5) = false := by simpa using hk5
          have d8 : (kind == 8) = false := by simpa using hk8
          have hpr := HS3.out.pair hi hj
          obtain ⟨hat, hlg, hlh⟩ := HS3.out.ats i hi
          obtain ⟨hatj, _, _⟩ := HS3.out.ats j hj
          obtain ⟨e, he⟩ : ∃ e, e = s i := ⟨_, rfl⟩
          obtain ⟨f, hf⟩ : ∃ f, f = s j := ⟨_, rfl⟩
          rw [← he, ← hf] at hpr
          rw [← he] at hat ci0 ci1
          rw [← hf] at hatj cj0 cj1
          have HStp := Lib.hid (step7_any e f kind on wth n x y mode pn pi w3.drew HO.out.x HO.out.y HO.out.n1 HO.out.n2 (HT.out _ HS3.out.bel.drew) hat.drew hatj.drew hpr)
          have HTurn : Hid (∀ W A, SdAt W ⟨e.g, e.h, A⟩ → G2 w3 W e.g e.h → (∃ s', Sds w W gl 3 s') ∧ W.heap[gl]? = some (.cells (rowF (sideF s 3)) 54 (0, 0)) ∧ W.heap[p3]? = some (.cells #[.int .i64 kind, .int .i64 on, .int .i64 wth, .int .i64 n, .float .f64 x, .float .f64 y, .int .i64 mode, .int .i64 pn, .int .i64 pi] 63 (0, 0))) := by
            intro W A h1 h2
            refine ⟨HS3.out.turn hi (A := A) (by rw [← he]; exact h2) (by rw [← he]; exact h1), ?_, ?_⟩
            · exact h2.row hat.a hat.b HS3.out.row (by decide) (by decide)
            · exact h2.row hat.a hat.b HK3.out (by decide) (by decide)
          have HSi : Hid (sideF s 3 (i * 2) = .pointer (some ⟨e.g, 0, none⟩) ∧ sideF s 3 (i * 2 + 1) = .pointer (some ⟨e.h, 0, none⟩) ∧ sideF s 3 (j * 2) = .pointer (some ⟨f.g, 0, none⟩) ∧ sideF s 3 (j * 2 + 1) = .pointer (some ⟨f.h, 0, none⟩)) := ⟨by rw [sideF_g hi, ← he], by rw [sideF_h hi, ← he], by rw [sideF_g hj, ← hf], by rw [sideF_h hj, ← hf]⟩
          unfold sdV stV at HStp
          clear hat hatj hlg hlh he hf hpr hk5 hk8
          go_wp2_with fail
          go_region_held3 (fun V => V.cell? ⟨gl, i * 2, none⟩ = some (.pointer (some ⟨e.g, 0, none⟩)) ∧ V.cell? ⟨gl, i * 2 + 1, none⟩ = some (.pointer (some ⟨e.h, 0, none⟩)) ∧ V.cell? ⟨gl, j * 2, none⟩ = some (.pointer (some ⟨f.g, 0, none⟩)) ∧ V.cell? ⟨gl, j * 2 + 1, none⟩ = some (.pointer (some ⟨f.h, 0, none⟩)) ∧ V.cell? ⟨p3, 0, none⟩ = some (.int .i64 kind) ∧ V.cell? ⟨p3, 1, none⟩ = some (.int .i64 on) ∧ V.cell? ⟨p3, 2, none⟩ = some (.int .i64 wth) ∧ V.cell? ⟨p3, 3, none⟩ = some (.int .i64 n) ∧ V.cell? ⟨p3, 4, none⟩ = some (.float .f64 x) ∧ V.cell? ⟨p3, 5, none⟩ = some (.float .f64 y) ∧ V.cell? ⟨p3, 6, none⟩ = some (.int .i64 mode) ∧ V.cell? ⟨p3, 7, none⟩ = some (.int .i64 pn) ∧ V.cell? ⟨p3, 8, none⟩ = some (.int .i64 pi)) (go_keep) (first
            | (go_at_call 25; (with_reducible refine HStp.out.mono ?_); rintro en w6 ⟨rfl, A', hs6, hg6⟩; have HTn := Lib.hid (HTurn.out w6 A' hs6 ((G2.refl w3 e.g e.h).drew.trans hg6)); have ci0 := (rowF_cell HTn.out.2.1 (t := i * 2) (by omega)).trans (congrArg some HSi.out.1); have ci1 := (rowF_cell HTn.out.2.1 (t := i * 2 + 1) (by omega)).trans (congrArg some HSi.out.2.1); have cj0 := (rowF_cell HTn.out.2.1 (t := j * 2) (by omega)).trans (congrArg some HSi.out.2.2.1); have cj1 := (rowF_cell HTn.out.2.1 (t := j * 2 + 1) (by omega)).trans (congrArg some HSi.out.2.2.2); obtain ⟨y0, y1, y2, y3, y4, y5, y6, y7, y8⟩ := cells9 HTn.out.2.2; clear hs6 hg6))
          obtain ⟨s', hs'⟩ := HTn.out.1
          have HS6 := Lib.hid hs'
          clear hs' ci0 ci1 cj0 cj1 y0 y1 y2 y3 y4 y5 y6 y7 y8
          have t0 : w6.cell? ⟨gl, 0, none⟩ = some (.pointer (some ⟨(s' 0).g, 0, none⟩)) := (HS6.out.cells (by decide) (show 0 < 3 by decide)).1
          have t1 : w6.cell? ⟨gl, 1, none⟩ = some (.pointer (some ⟨(s' 0).h, 0, none⟩)) := (HS6.out.cells (by decide) (show 0 < 3 by decide)).2
          have L0 := Lib.hid (alike7_any (s' 0) w6 (HT.out w6 HS6.out.bel) (HS6.out.ats 0 (by decide)).1)
          unfold sdV at L0
          go_wp2_with fail
          refine L0.out.mono ?_; rintro en w7 ⟨rfl, hb⟩
          have HS7 := Lib.hid (HS6.out.grow hb)
          clear hb t0 t1 L0 HS6
          have t0 : w7.cell? ⟨gl, 2, none⟩ = some (.pointer (some ⟨(s' 1).g, 0, none⟩)) := (HS7.out.cells (by decide) (show 1 < 3 by decide)).1
          have t1 : w7.cell? ⟨gl, 3, none⟩ = some (.pointer (some ⟨(s' 1).h, 0, none⟩)) := (HS7.out.cells (by decide) (show 1 < 3 by decide)).2
          have L0 := Lib.hid (alike7_any (s' 1) w7 (HT.out w7 HS7.out.bel) (HS7.out.ats 1 (by decide)).1)
          unfold sdV at L0
          go_wp2_with fail
          refine L0.out.mono ?_; rintro en w8 ⟨rfl, hb⟩
          have HS8 := Lib.hid (HS7.out.grow hb)
          clear hb t0 t1 L0 HS7
          have t0 : w8.cell? ⟨gl, 4, none⟩ = some (.pointer (some ⟨(s' 2).g, 0, none⟩)) := (HS8.out.cells (by decide) (show 2 < 3 by decide)).1
          have t1 : w8.cell? ⟨gl, 5, none⟩ = some (.pointer (some ⟨(s' 2).h, 0, none⟩)) := (HS8.out.cells (by decide) (show 2 < 3 by decide)).2
          have L0 := Lib.hid (alike7_any (s' 2) w8 (HT.out w8 HS8.out.bel) (HS8.out.ats 2 (by decide)).1)
          unfold sdV at L0
          go_wp2_with fail
          refine L0.out.mono ?_; rintro en w9 ⟨rfl, hb⟩
          have HS9 := Lib.hid (HS8.out.grow hb)
          clear hb t0 t1 L0 HS8
          go_wp2_with fail
          go_roundw
          case rel => exact ⟨k + 1, s', by omega, by go_num, HS9.out⟩
          case measure => simp [intOf]; omega
        · obtain rfl : k = l.length := by omega
          have t0 : wr.cell? ⟨gl, 0, none⟩ = some (.pointer (some ⟨(s 0).g, 0, none⟩)) := (HH.out.cells (by decide) (show 0 < 3 by decide)).1
          have t1 : wr.cell? ⟨gl, 1, none⟩ = some (.pointer (some ⟨(s 0).h, 0, none⟩)) := (HH.out.cells (by decide) (show 0 < 3 by decide)).2
          have L0 := Lib.hid (rounds7_any (s 0) 0 0 0 wr (HT.out wr HH.out.bel) (HH.out.ats 0 (by decide)).1)
          unfold sdV pol at L0
          clear hk hq
          go_wp2_with fail
          refine L0.out.mono ?_; rintro en w7 ⟨rfl, hb⟩
          have HS7 := Lib.hid (HH.out.grow hb)
          clear hb t0 t1 L0 HH
          have t0 : w7.cell? ⟨gl, 2, none⟩ = some (.pointer (some ⟨(s 1).g, 0, none⟩)) := (HS7.out.cells (by decide) (show 1 < 3 by decide)).1
          have t1 : w7.cell? ⟨gl, 3, none⟩ = some (.pointer (some ⟨(s 1).h, 0, none⟩)) := (HS7.out.cells (by decide) (show 1 < 3 by decide)).2
          have L0 := Lib.hid (rounds7_any (s 1) 3 1 1 w7 (HT.out w7 HS7.out.bel) (HS7.out.ats 1 (by decide)).1)
          unfold sdV pol at L0
          go_wp2_with fail
          refine L0.out.mono ?_; rintro en w8 ⟨rfl, hb⟩
          have HB8 := Lib.hid (HS7.out.bel.trans (hb.mono HS7.out.bel.size))
          clear hb t0 t1 L0 HS7
          go_wp2_with fail
          go_ret
          exact ⟨rfl, HB8.out⟩
end Go.Proofs.YteahdgbokjbgcaaGreatDoor

/- The walk of BinsAlike. No statement of the seat is proved here. -/
import Derived.Test.YthdbapibbdkclaaDoorProg
import Derived.Test.YthdbapibbdkclaaDoorTw
import Derived.Deep.DeepCutAuto
namespace Go.Proofs.YthdbapibbdkclaaDoor
open Go.RowKit
set_option maxRecDepth 10000
set_option linter.unusedVariables false
set_option linter.unusedSimpArgs false

set_option maxHeartbeats 32000000 in
theorem binsalike_any (a : Option Addr) (c : Nat) (l : List Nat) (fold shares : Int) (w : World) (hT : Tab w) (hl : FSl w a c l) (hs1 : -9223372036854775808 ≤ shares) (hs2 : shares ≤ 9223372036854775807) :
    Calls Tryd.prog 4 #[.int .i64 fold, .slice a l.length c, .int .i64 shares] w fun en w' => en = .returned (.bool true) ∧ Below w.heap.size w w' := by
  obtain ⟨i0, hi0, hz0, hs0, hb0⟩ := info_fl9
  have HI := Lib.hid (And.intro hi0 (And.intro hz0 (And.intro hs0 hb0)))
  obtain ⟨i1, hi1, hz1, hs11, hb1⟩ := info_pb
  have HI1 := Lib.hid (And.intro hi1 (And.intro hz1 (And.intro hs11 hb1)))
  have HAw := Lib.hid (awake09_any w hT)
  have HL := Lib.hid (fun W (hw : Below w.heap.size w W) => hl.grow hw)
  have HT := Lib.hid (fun W (hw : Below w.heap.size w W) => hT.grow hw)
  have HWf := Lib.hid (w64_getD hl.wf)
  have HWl := Lib.hid hl.wf
  clear hl hT hi0 hz0 hs0 hb0 hi1 hz1 hs11 hb1
  go_enter Tryd.func4, Tryd.ntmps4
  go_wp2_with fail
  refine HAw.out.mono ?_; rintro en w1 ⟨rfl, hb⟩
  have HB1 := Lib.hid hb
  clear hb
  by_cases m1 : fold < 1 ∨ 8 < fold
  · have HNn := Lib.hid (bnewN_any fold w1 m1)
    clear m1
    go_wp2_with fail
    refine HNn.out.mono ?_; rintro en w2 ⟨rfl, rfl⟩
    go_wp2_with fail
    go_ret
    exact ⟨rfl, HB1.out⟩
  obtain ⟨f, rfl⟩ : ∃ f : Nat, fold = (f : Int) := ⟨fold.toNat, by omega⟩
  have f1 : 1 ≤ f := by omega
  have f2 : f ≤ 8 := by omega
  clear m1
  go_wp2_with fail
  refine (bnew_any f w1 f1 f2).mono ?_; rintro en w2 ⟨rfl, _, hb⟩
  have HB2 := Lib.hid (HB1.out.trans (hb.mono HB1.out.size))
  clear hb
  by_cases m2 : 4000 < l.length
  · go_wp2_with fail
    go_ret
    exact ⟨rfl, HB2.out⟩
  have hlen : l.length ≤ 4000 := by omega
  obtain ⟨B0, hB0⟩ : ∃ B, B = w2.heap.size := ⟨_, rfl⟩
  have HB0 : Hid (w.heap.size ≤ B0) := by rw [hB0]; exact HB2.out.size
  have HK0 : Hid (Bk w w2 B0 none 0 []) := ⟨VOwn.none _ _ _ _, HB2.out, by omega⟩
  clear hB0
  go_wp2_with fail
  go_loopw [9, 10] (fun bk ii wr => ∃ (k : Nat) (ab : Option Addr) (cb : Nat), k ≤ l.length ∧ ii = .int .i64 ((l.length : Int) - 1 - k) ∧ bk = .slice ab k cb ∧ Hid (Bk w wr B0 ab cb (l.reverse.take k))) (fun _ ii _ => (intOf ii + 1).toNat)
  case atStart => exact ⟨0, none, 0, Nat.zero_le _, by simp, rfl, HK0.out⟩
  case round =>
    obtain ⟨k, ab, cb, hk, rfl, rfl, hH⟩ := hrel
    by_cases hq : k < l.length
    · obtain ⟨j, hj⟩ : ∃ j : Nat, (l.length : Int) - 1 - k = (j : Int) := ⟨l.length - 1 - k, by omega⟩
      have hj2 : l.length - 1 - k = j := by omega
      have hjl : j < l.length := by omega
      obtain ⟨bx, ox, rfl, hcx⟩ := (HL.out wr hH.out.bel).rd.at hjl
      have htk : l.reverse.take (k + 1) = l.reverse.take k ++ [l.getD j 0] := take_succ_get (by
        rw [List.getElem?_reverse hq, hj2, List.getD_eq_getElem?_getD, List.getElem?_eq_getElem hjl]; rfl)
      obtain ⟨x, hx⟩ : ∃ x, x = l.getD j 0 := ⟨_, rfl⟩
      rw [← hx] at hcx htk
      have HTk := Lib.hid htk
      have HH := Lib.hid hH.out
      have HBk := Lib.hid (vblk_alloc wr 36 #[.float .f64 x])
      have HBa : Hid (Below wr.heap.size wr (wr.alloc (.cells #[.float .f64 x] 36))) := (Below.refl _ _).alloc (Nat.le_refl _) _
      have HLn : Hid ((l.reverse.take k).length = k) := by show _ = _; rw [List.length_take, List.length_reverse]; omega
      have HJ : Hid ((l.length : Int) - 1 - ((k + 1 : Nat) : Int) = (j : Int) - 1) := by show _ = _; omega
      have hge : (0 : Int) ≤ (j : Int) := by omega
      rw [hj]
      clear hx htk hH hj hj2
      go_wp2_with (first | (at_builtin; refine wpList_append_vals rfl _ _ 33 33 rfl 36 36 i0 (.float .f64 0) 1 Tryd.underlying33 Tryd.underlying33 HI.out.1 HI.out.2.1 HI.out.2.2.1 rfl (by decide) HI.out.2.2.2 B0 ab (some ⟨wr.heap.size, 0, none⟩) k cb 1 1 ((l.reverse.take k).map fv) [fv x] rfl rfl (by rw [List.length_map, HLn.out, Nat.mul_one]) rfl (fvs_one9 [x]) (HH.out.own.grow HBa.out) HBk.out.rd (by omega) (by have := HBa.out.size; have := HH.out.siz; omega) ?_; intro a5 c5 w5 ho5 hg5 hn5))
      have HU5 : Hid (Bk w w5 B0 a5 c5 (l.reverse.take (k + 1))) := by rw [HTk.out]; exact HH.out.push HB0.out HBa.out ho5 hg5
      clear ho5 hg5 hn5 HBk HBa
      go_roundw
      case rel => exact ⟨k + 1, a5, c5, by omega, by rw [HJ.out], by go_num, HU5.out⟩
      case measure => simp [intOf]
    · obtain rfl : k = l.length := by omega
      have hneg : (l.length : Int) - 1 - (l.length : Nat) = -1 := by omega
      rw [hneg]
      have hH2 := hH.out
      rw [show l.reverse.take l.length = l.reverse from by rw [← List.length_reverse]; exact List.take_length] at hH2
      have HBb := Lib.hid hH2.bel
      have HFb := Lib.hid (vown_fsl9 hH2.own (fun y hy => HWl.out y (List.mem_reverse.1 hy)))
      clear hneg hH hH2 hq hk
      go_upto_region 10 with fail
      go_cut [65] (fun t65 wx => ∃ b : Bool, t65 = .bool b ∧ (b = false → 1 ≤ shares ∧ shares ≤ 64) ∧ wx = wr)
      case first =>
        by_cases q1 : shares < 1
        · go_wp2_with fail
          go_meet
          case rel => exact ⟨true, rfl, (fun h => nomatch h), rfl⟩
        · by_cases q2 : 64 < shares
          · go_wp2_with fail
            go_meet
            case rel => exact ⟨true, rfl, (fun h => nomatch h), rfl⟩
          · go_wp2_with fail
            go_meet
            case rel => exact ⟨false, rfl, (fun _ => by omega), rfl⟩
      obtain ⟨b, rfl, hbs, rfl⟩ := hcut
      obtain ⟨w9, rfl⟩ : ∃ W, W = wc := ⟨_, rfl⟩
      go_upto_if 65 with fail
      go_cut [2] (fun t2 wx => ∃ s : Nat, t2 = .int .i64 s ∧ 1 ≤ s ∧ s ≤ 64 ∧ wx = w9)
      case first =>
        cases b
        · obtain ⟨q1, q2⟩ := hbs rfl
          go_wp2_with fail
          go_meet
          case rel => exact ⟨shares.toNat, by congr 1; omega, by omega, by omega, rfl⟩
        · go_wp2_with fail
          go_meet
          case rel => exact ⟨1 + l.length % 7, by go_num, by omega, by omega, rfl⟩
      obtain ⟨s, rfl, s1, s2, rfl⟩ := hcut
      obtain ⟨w3, rfl⟩ : ∃ W, W = wc := ⟨_, rfl⟩
      obtain ⟨v, hv⟩ : ∃ v : Nat → Bn, v = fun i => bnX (l.getD i 0) := ⟨_, rfl⟩
      obtain ⟨S, hS⟩ : ∃ S, S = sumB v l.length := ⟨_, rfl⟩
      have HSf : Hid (S.Few 4000) := by rw [hS, hv]; exact (sumB_few (fun i _ => bnX_few _) (by omega)).mono hlen
      have HFi : Hid (∀ (W : World) (fr st : Nat), Below w3.heap.size w3 W → 1 ≤ st → st ≤ 64 → fr ≤ 64 → Calls Tryd.prog 19 #[.int .i64 f, .slice a l.length c, .int .i64 fr, .int .i64 st] W fun en w' => en = .returned (.pointer (some ⟨W.heap.size, 0, none⟩)) ∧ BinAt w' W.heap.size f (sumB (stepB v l.length fr st) l.length) ∧ Below W.heap.size W w') := by
        intro W fr st hW h1 h2 h3
        rw [hv]
        exact filled09_any a c f fr st l W (HL.out W (HBb.out.trans (hW.mono HBb.out.size))) hlen f1 f2 h1 h2 h3
      have HFb2 : Hid (∀ (W : World), Below w3.heap.size w3 W → Calls Tryd.prog 19 #[.int .i64 f, .slice ab l.length cb, .int .i64 0, .int .i64 1] W fun en w' => en = .returned (.pointer (some ⟨W.heap.size, 0, none⟩)) ∧ BinAt w' W.heap.size f S ∧ Below W.heap.size W w') := by
        intro W hW
        have h := filled09_any ab cb f 0 1 l.reverse W (HFb.out.grow hW) (by rw [List.length_reverse]; exact hlen) f1 f2 (by decide) (by decide) (by decide)
        unfold FillQ at h
        rw [stepB_all, List.length_reverse, show ((0 : Nat) : Int) = 0 from rfl, show ((1 : Nat) : Int) = 1 from rfl, sumB_congr (d := fun i => v (l.length - 1 - i)) (fun i hi => by rw [hv]; show bnX _ = bnX _; rw [rev_get l hi]), sumB_rev, ← hS] at h
        exact h
      have HFo : Hid (∀ fr st, (sumB (stepB v l.length fr st) l.length).Ok) := fun fr st => (sumB_few (fun i _ => by rw [hv]; exact stepB_few i) (by omega)).ok
      have HSh : Hid (sumB (fun i => sumB (stepB v l.length i s) l.length) s = S) := by show _ = _; rw [hS]; exact stepB_shares v _ (by omega)
      have HSe : Hid (S = sumB v l.length) := hS
      have HVe : Hid (∀ i, v i = bnX (l.getD i 0)) := fun i => by rw [hv]
      obtain ⟨B, hB⟩ : ∃ B, B = w3.heap.size := ⟨_, rfl⟩
      have HBB : Hid (w3.heap.size ≤ B) := by rw [hB]; exact Nat.le_refl _
      have HP0 : Hid (PtsB w3 w3 B f none 0 []) := ⟨VOwn.none _ _ _ _, fun _ h => by simp at h, fun _ h => by simp at h, fun _ h => by simp at h, List.nodup_nil, Below.refl _ _, by omega⟩
      clear hv hS hB
      go_wp2_with fail
      go_loopw [11, 12] (fun ps ii wr => ∃ (k : Nat) (L : List (Nat × Bn)) (ap : Option Addr) (cp : Nat), k ≤ s ∧ ii = .int .i64 k ∧ ps = .slice ap k cp ∧ Hid (L.length = k ∧ sumP L = sumB (fun i => sumB (stepB v l.length i s) l.length) k ∧ PtsB w3 wr B f ap cp L)) (fun _ ii _ => s - (intOf ii).toNat)
      case atStart => exact ⟨0, [], none, 0, Nat.zero_le _, rfl, rfl, rfl, rfl, HP0.out⟩
      case round =>
        obtain ⟨k, L, ap, cp, hk, rfl, rfl, hH⟩ := hrel
        by_cases hq : k < s
        · have HC := Lib.hid (HFi.out wr k s hH.out.2.2.bel s1 s2 (by omega))
          have HH := Lib.hid hH.out
          clear hH
          go_wp2_with (first | (at_builtin; fail) | fail)
          refine HC.out.mono ?_; rintro en w4 ⟨rfl, hA, hb⟩
          obtain ⟨g, hg⟩ : ∃ g, g = wr.heap.size := ⟨_, rfl⟩
          have HNe : Hid (∀ p ∈ L, p.1 ≠ g) := fun p hp => by have := BinC.lt (HH.out.2.2.at' p hp); omega
          have HGe : Hid (B ≤ g) := by rw [hg]; exact HH.out.2.2.siz
          rw [← hg] at hA ⊢
          have HPb : Hid (PtsB w3 w4 B f ap cp L) := HH.out.2.2.below hb
          have HA := Lib.hid hA
          have HBk := Lib.hid (vblk_alloc w4 34 #[.pointer (some ⟨g, 0, none⟩)])
          have HBa : Hid (Below w4.heap.size w4 (w4.alloc (.cells #[.pointer (some ⟨g, 0, none⟩)] 34))) := (Below.refl _ _).alloc (Nat.le_refl _) _
          have hk64 : k ≤ 64 := by omega
          clear hA hb hg
          go_wp2_with (first | (at_builtin; refine wpList_append_vals rfl _ _ 37 37 rfl 34 34 i1 (.pointer none) 1 Tryd.underlying37 Tryd.underlying37 HI1.out.1 HI1.out.2.1 HI1.out.2.2.1 rfl (by decide) HI1.out.2.2.2 B ap (some ⟨w4.heap.size, 0, none⟩) k cp 1 1 (L.map fun p => pb p.1) [pb g] rfl rfl (by rw [List.length_map, HH.out.1, Nat.mul_one]) rfl (pb_one [(g, Bn.zero)]) (HPb.out.own.grow HBa.out) HBk.out.rd (by omega) (by have := HBa.out.size; have := HPb.out.siz; omega) ?_; intro a5 c5 w5 ho5 hg5 hn5))
          have HU5 : Hid (PtsB w3 w5 B f a5 c5 (L ++ [(g, sumB (stepB v l.length k s) l.length)])) := HPb.out.push HBB.out HA.out HGe.out (HFo.out _ _) HNe.out HBa.out ho5 hg5
          clear ho5 hg5 hn5 HBk HBa
          go_roundw
          case rel => exact ⟨k + 1, L ++ [(g, sumB (stepB v l.length k s) l.length)], a5, c5, by omega, by go_num, rfl, by rw [List.length_append, HH.out.1]; rfl, by rw [sumP_snoc, HH.out.2.1]; rfl, HU5.out⟩
          case measure => simp [intOf]; omega
        · obtain rfl : k = s := by omega
          have HQ0 : Hid (L.length = k ∧ sumP L = S ∧ PtsB w3 wr B f ap cp L) := ⟨hH.out.1, by rw [hH.out.2.1]; exact HSh.out, hH.out.2.2⟩
          clear hH hq hk
          go_wp2_with fail
          go_loopw [11, 13] (fun ps ee wr => ∃ (m : Nat) (L : List (Nat × Bn)) (ap : Option Addr) (cp : Nat), 1 ≤ m ∧ m ≤ 64 ∧ ps = .slice ap m cp ∧ Hid (L.length = m ∧ sumP L = S ∧ PtsB w3 wr B f ap cp L)) (fun ps _ _ => slN ps)
          case atStart => exact ⟨k, L, ap, cp, s1, s2, rfl, HQ0.out⟩
          case round =>
            obtain ⟨m, L, ap, cp, hm, hm64, rfl, hH⟩ := hrel
            by_cases hq : 1 < m
            · obtain ⟨⟨g0, A0⟩, ⟨g1, A1⟩, R, rfl⟩ : ∃ p0 p1 R, L = p0 :: p1 :: R := by
                have h1 := hH.out.1
                match L, h1 with
                | [], h1 => simp at h1; omega
                | [_], h1 => simp at h1; omega
                | p0 :: p1 :: R, _ => exact ⟨p0, p1, R, rfl⟩
              obtain ⟨hLm, hsum, hP⟩ := hH.out
              obtain ⟨b0, o0, rfl, _⟩ := hP.own.rd 0 (pb g0) rfl
              have hcell : ∀ W, VOwn W 34 1 B (some ⟨b0, o0, none⟩) cp (((g0, A0) :: (g1, A1) :: R).map fun p => pb p.1) → W.cell? ⟨b0, o0, none⟩ = some (.pointer (some ⟨g0, 0, none⟩)) ∧ W.cell? ⟨b0, o0 + 1, none⟩ = some (.pointer (some ⟨g1, 0, none⟩)) := by
                intro W hW
                obtain ⟨b', o', e1, h1⟩ := hW.rd 0 (pb g0) rfl
                obtain ⟨b2, o2, e2, h2⟩ := hW.rd 1 (pb g1) rfl
                cases e1; cases e2
                exact ⟨h1, h2⟩
              have HCl := Lib.hid hcell
              have hA0 := hP.ok (g0, A0) (by simp)
              have hA1 := hP.ok (g1, A1) (by simp)
              have hn2 : A1.n + A0.n ≤ 1099511627776 := by
                have h1 := HSf.out.le
                rw [← hsum] at h1
                have h2 : (sumP ((g0, A0) :: (g1, A1) :: R)).n = A0.n + (A1.n + (sumP R).n) := rfl
                omega
              have HMg : Hid (Calls Tryd.prog 20 #[.pointer (some ⟨g1, 0, none⟩), .pointer (some ⟨g0, 0, none⟩)] wr.drew fun en w' => en = .returned (.int .i64 0) ∧ BinAt w' g1 f (A1.sum A0) ∧ wr.grownBy w' (some g1)) := by
                refine (bmerge_any A1 A0 g1 g0 f f wr.drew hA1 hA0 f2 (hP.at' (g1, A1) (by simp)) (hP.at' (g0, A0) (by simp))).mono ?_
                rintro en w' ⟨h1, h2⟩
                rcases h1 with ⟨h3, _⟩ | ⟨_, h3, _⟩ | ⟨_, _, rfl, h4⟩
                · exact absurd rfl h3
                · omega
                · exact ⟨rfl, h4, ⟨h2.os, h2.tape, h2.output, h2.size, h2.block⟩⟩
              obtain ⟨x0, x1⟩ := hcell wr hP.own
              have hcap := hP.own.cap
              rw [List.length_map, Nat.mul_one, hLm] at hcap
              have HOk : Hid ((A1.sum A0).Ok) := hA1.sum hA0 hn2
              have HH := Lib.hid (And.intro hLm (And.intro hsum hP))
              have hm0 : 0 < m := by omega
              have hm2 : 2 ≤ m := by omega
              have hm3 : (2 : Int) ≤ (m : Int) := by omega
              have hc2 : 2 ≤ cp := by omega
              clear hH hLm hsum hP hcell hA0 hA1 hn2
              go_upto_region 18 with fail
              go_region_held3 (fun W => W.cell? ⟨b0, o0, none⟩ = some (.pointer (some ⟨g0, 0, none⟩)) ∧ W.cell? ⟨b0, o0 + 1, none⟩ = some (.pointer (some ⟨g1, 0, none⟩))) (go_keep) (first
                | (go_at_call 20; refine HMg.out.mono ?_; rintro en w4 ⟨rfl, hA4, hg4⟩; have HA4 := Lib.hid hA4; have HG4 := Lib.hid hg4; obtain ⟨x0, x1⟩ := HCl.out w4 (HH.out.2.2.own' hg4); clear hA4 hg4))
              have HO4 := Lib.hid (HH.out.2.2.own' HG4.out)
              obtain ⟨A2, hA2, hA2o⟩ : ∃ A, (if cp = 2 then (some ⟨b0, o0, none⟩ : Option Addr) else some ⟨b0, o0 + 2, none⟩) = some A ∧ VOwn w4 34 1 B (some A) (cp - 2) (R.map fun p => pb p.1) := by
                have h := HO4.out.two
                by_cases e : cp = 2
                · rw [if_pos e] at h ⊢; exact ⟨_, rfl, h⟩
                · rw [if_neg e] at h ⊢; exact ⟨_, rfl, h⟩
              have hRr := HH.out.2.2.rest HBB.out HG4.out hA2o
              have HR := Lib.hid hRr
              have HGe : Hid (B ≤ g1) := HH.out.2.2.ge (g1, A1) (by simp)
              have hRm : R.length = m - 2 := by have := HH.out.1; simp at this; omega
              have HRm := Lib.hid hRm
              have HBk : Hid (VBlk (w4.alloc (.cells #[.pointer (some ⟨g1, 0, none⟩)] 34)).drew 34 w4.heap.size [pb g1]) := (vblk_alloc w4 34 #[.pointer (some ⟨g1, 0, none⟩)]).drew
              have HBa : Hid (Below w4.heap.size w4 (w4.alloc (.cells #[.pointer (some ⟨g1, 0, none⟩)] 34)).drew) := ((Below.refl _ _).alloc (Nat.le_refl _) _).drew
              clear hA2o hRr hRm
              go_upto_region 21 with fail
              go_region_law (first
                | (refine step_append_vals rfl (.tmp 96) (.tmp 100) 37 37 rfl 34 34 i1 (.pointer none) 1 Tryd.underlying37 Tryd.underlying37 HI1.out.1 HI1.out.2.1 HI1.out.2.2.1 rfl (by decide) HI1.out.2.2.2 B (some A2) (some ⟨w4.heap.size, 0, none⟩) (m - 2) (cp - 2) 1 1 (R.map fun p => pb p.1) [pb g1] (by simp [Act.eval, Act.put]) (by simp [Act.eval, Act.put]) (by rw [List.length_map, HRm.out, Nat.mul_one]) rfl (pb_one [(g1, Bn.zero)]) (HR.out.1.own.grow HBa.out) HBk.out.rd (by omega) (by have := HBa.out.size; have := HR.out.1.siz; omega) ?_; intro a5 c5 w5 ho5 hg5 hn5))
              all_goals
                have HU : Hid (PtsB w3 w5 B f a5 c5 (R ++ [(g1, A1.sum A0)])) := HR.out.1.push HBB.out HA4.out HGe.out HOk.out HR.out.2 HBa.out ho5 hg5
                clear ho5 hg5 hn5
                go_wp2_with fail
                go_roundw
                case rel => exact ⟨m - 2 + 1, by omega, by omega, R ++ [(g1, A1.sum A0)], a5, c5, ⟨rfl, rfl, rfl⟩, by rw [List.length_append, HRm.out]; rfl, by rw [sumP_turn (g0, A0) (g1, A1) R g1]; exact HH.out.2.1, HU.out⟩
                case measure => simp [slN]; omega
            · obtain rfl : m = 1 := by omega
              obtain ⟨⟨g, A⟩, rfl⟩ : ∃ p, L = [p] := by
                have h1 := hH.out.1
                match L, h1 with
                | [], h1 => simp at h1
                | [p], _ => exact ⟨p, rfl⟩
                | _ :: _ :: _, h1 => simp at h1
              obtain ⟨_, hsum, hP⟩ := hH.out
              obtain rfl : A = S := by rw [← hsum]; exact (Bn.sum_zero A).symm
              obtain ⟨b0, o0, rfl, _⟩ := hP.own.rd 0 (pb g) rfl
              have HCl : Hid (∀ W, Below wr.heap.size wr W → W.cell? ⟨b0, o0, none⟩ = some (.pointer (some ⟨g, 0, none⟩)) ∧ BinAt W g f A) := by
                intro W hW
                obtain ⟨b', o', e1, h1⟩ := (hP.own.grow hW).rd 0 (pb g) rfl
                cases e1
                exact ⟨h1, BinC.grow (hP.at' (g, A) (by simp)) hW⟩
              have HW3 : Hid (Below w3.heap.size w3 wr) := hP.bel
              have HBw : Hid (Below w.heap.size w wr) := HBb.out.trans (hP.bel.mono HBb.out.size)
              obtain ⟨d, hd, hdy⟩ := kS_dy HSf.out.ok f
              have HF1 : Hid (∀ W, Below wr.heap.size wr W → Calls Tryd.prog 19 #[.int .i64 f, .slice a l.length c, .int .i64 0, .int .i64 1] W fun en w' => en = .returned (.pointer (some ⟨W.heap.size, 0, none⟩)) ∧ BinAt w' W.heap.size f A ∧ Below W.heap.size W w') := by
                intro W hW
                have h := HFi.out W 0 1 (HW3.out.trans (hW.mono HW3.out.size)) (by decide) (by decide) (by decide)
                rw [stepB_all, ← HSe.out, show ((0 : Nat) : Int) = 0 from rfl, show ((1 : Nat) : Int) = 1 from rfl] at h
                exact h
              have HF2 : Hid (∀ W, Below wr.heap.size wr W → Calls Tryd.prog 19 #[.int .i64 f, .slice ab l.length cb, .int .i64 0, .int .i64 1] W fun en w' => en = .returned (.pointer (some ⟨W.heap.size, 0, none⟩)) ∧ BinAt w' W.heap.size f A ∧ Below W.heap.size W w') := fun W hW => HFb2.out W (HW3.out.trans (hW.mono HW3.out.size))
              have HTd : Hid (∀ W q, Below wr.heap.size wr W → BinAt W q f A → Calls Tryd.prog 21 #[.pointer (some ⟨q, 0, none⟩)] W (ToldQ A f d W)) := fun W q hW hA => told09_any A q f W HSf.out.ok f1 f2 hA (HT.out W (HBw.out.trans (hW.mono HBw.out.size))) hd
              have HDy : Hid (Dy (-1088) 68 d (A.kS f)) := hdy
              have HTw : Hid (∀ W, Below wr.heap.size wr W → Below w.heap.size w W) := fun W hW => HBw.out.trans (hW.mono HBw.out.size)
              have HSm : Hid (∀ W (a a' : Option Addr) (c c' : Nat), (argOf d a c).Ok W → (argOf d a' c').Ok W → Calls Tryd.prog 22 #[.agg #[.bool d.neg, .slice a (words d.m).length c, .int .i64 d.exp], .agg #[.bool d.neg, .slice a' (words d.m).length c', .int .i64 d.exp]] W fun en w' => en = .returned (.bool true) ∧ Below W.heap.size W w') := fun W a a' c c' h1 h2 => same_any (argOf d a c) (argOf d a' c') W h1 h2 ⟨rfl, rfl, rfl⟩
              clear hH hsum hP hd hdy hm hm64 hq HFi HFb2 HSh HFo HP0 HQ0
              go_wp2_with fail
              refine (HF1.out wr (Below.refl _ _)).mono ?_; rintro en w4 ⟨rfl, hA, hb⟩
              have C4 := Lib.hid hb
              have HA4 := Lib.hid hA
              clear hA hb
              go_wp2_with fail
              refine (HTd.out w4 _ C4.out HA4.out).mono ?_; rintro en w5 ⟨a1, c1, r1, rfl, ho, hr, hb⟩
              have C5 := Lib.hid (C4.out.trans (hb.mono C4.out.size))
              obtain ⟨w6, e6⟩ : ∃ W, W = w5.alloc (.cells #[.bool d.neg, .slice a1 (words d.m).length c1, .int .i64 d.exp] 28) := ⟨_, rfl⟩
              obtain ⟨hK, hb6⟩ := Ky.new HDy.out.ok ho e6
              obtain ⟨n1, hn1⟩ : ∃ n, n = w5.heap.size := ⟨_, rfl⟩
              rw [← hn1] at hK
              have K1 := Lib.hid hK
              have C6 := Lib.hid (C5.out.trans (hb6.mono C5.out.size))
              have R1 := Lib.hid hr
              have E6 := Lib.hid e6
              have N1 := Lib.hid hn1
              clear ho hr hb e6 hK hb6 hn1 HA4 C4
              simp only [DV]
              go_upto_region 23 with fail
              rw [← E6.out, ← N1.out]
              clear E6 N1 C5
              go_wp2_with fail
              refine (HF2.out w6 C6.out).mono ?_; rintro en w7 ⟨rfl, hA, hb⟩
              have C7 := Lib.hid (C6.out.trans (hb.mono C6.out.size))
              have K1 := Lib.hid (K1.out.grow hb)
              have HA7 := Lib.hid hA
              clear hA hb
              go_wp2_with fail
              refine (HTd.out w7 _ C7.out HA7.out).mono ?_; rintro en w8 ⟨a2, c2, r2, rfl, ho, hr, hb⟩
              obtain rfl := R1.out.uniq hr
              have C8 := Lib.hid (C7.out.trans (hb.mono C7.out.size))
              have K1 := Lib.hid (K1.out.grow hb)
              obtain ⟨w9', e9⟩ : ∃ W, W = w8.alloc (.cells #[.bool d.neg, .slice a2 (words d.m).length c2, .int .i64 d.exp] 28) := ⟨_, rfl⟩
              obtain ⟨hK, hb9⟩ := Ky.new HDy.out.ok ho e9
              obtain ⟨n2, hn2⟩ : ∃ n, n = w8.heap.size := ⟨_, rfl⟩
              rw [← hn2] at hK
              have K2 := Lib.hid hK
              have K1 := Lib.hid (K1.out.grow hb9)
              have C9 := Lib.hid (C8.out.trans (hb9.mono C8.out.size))
              have E9 := Lib.hid e9
              have N2 := Lib.hid hn2
              clear ho hr hb e9 hK hb9 hn2 HA7 C7
              simp only [DV]
              go_upto_region 24 with fail
              rw [← E9.out, ← N2.out]
              clear E9 N2 C8
              obtain ⟨x0, hAg⟩ := HCl.out w9' C9.out
              have HAg := Lib.hid hAg
              clear hAg
              go_wp2_with fail
              refine (HTd.out w9' g C9.out HAg.out).mono ?_; rintro en w10 ⟨a3, c3, r3, rfl, ho, hr, hb⟩
              obtain rfl := R1.out.uniq hr
              have C10 := Lib.hid (C9.out.trans (hb.mono C9.out.size))
              have K1 := Lib.hid (K1.out.grow hb)
              have K2 := Lib.hid (K2.out.grow hb)
              obtain ⟨w11, e11⟩ : ∃ W, W = w10.alloc (.cells #[.bool d.neg, .slice a3 (words d.m).length c3, .int .i64 d.exp] 28) := ⟨_, rfl⟩
              obtain ⟨hK, hb11⟩ := Ky.new HDy.out.ok ho e11
              obtain ⟨n3, hn3⟩ : ∃ n, n = w10.heap.size := ⟨_, rfl⟩
              rw [← hn3] at hK
              have K3 := Lib.hid hK
              have K1 := Lib.hid (K1.out.grow hb11)
              have K2 := Lib.hid (K2.out.grow hb11)
              have C11 := Lib.hid (C10.out.trans (hb11.mono C10.out.size))
              have E11 := Lib.hid e11
              have N3 := Lib.hid hn3
              clear ho hr hb e11 hK hb11 hn3 x0
              simp only [DV]
              go_upto_region 25 with fail
              rw [← E11.out, ← N3.out]
              clear E11 N3 C10
              obtain ⟨_, _, _, _, _, _⟩ := K1.out.cel.facts
              obtain ⟨_, _, _, _, _, _⟩ := K2.out.cel.facts
              go_wp2_with fail
              refine (HSm.out w11 a1 a2 c1 c2 K1.out.ok K2.out.ok).mono ?_; rintro en w12 ⟨rfl, hb⟩
              have K1 := Lib.hid (K1.out.grow hb)
              have K3 := Lib.hid (K3.out.grow hb)
              have C12 := Lib.hid (C11.out.trans (hb.mono C11.out.size))
              clear hb K2
              obtain ⟨_, _, _, _, _, _⟩ := K1.out.cel.facts
              obtain ⟨_, _, _, _, _, _⟩ := K3.out.cel.facts
              go_wp2_with fail
              refine (HSm.out w12 a1 a3 c1 c3 K1.out.ok K3.out.ok).mono ?_; rintro en w13 ⟨rfl, hb⟩
              have K1 := Lib.hid (K1.out.grow hb)
              have C13 := Lib.hid (C12.out.trans (hb.mono C12.out.size))
              clear hb K3 C11 C12
              have HAl : Hid (∀ W, Calls Tryd.prog 23 #[.float .f64 r1, .float .f64 r1] W fun en w' => en = .returned (.bool true) ∧ W = w') := by
                intro W
                have h := alike_any r1 r1 W
                rw [decide_eq_true rfl] at h
                exact h
              go_wp2_with fail
              refine (HAl.out w13).mono ?_; rintro en w14 ⟨rfl, rfl⟩
              go_wp2_with fail
              refine (HAl.out w13).mono ?_; rintro en w14 ⟨rfl, rfl⟩
              obtain ⟨w15, e15⟩ : ∃ W, W = w13.alloc (.cells #[.bool false, .slice none 0 0, .int .i64 0] 28) := ⟨_, rfl⟩
              have hSq := Sq.new e15
              obtain ⟨n4, hn4⟩ : ∃ n, n = w13.heap.size := ⟨_, rfl⟩
              rw [← hn4] at hSq
              have HSq := Lib.hid hSq
              have E15 := Lib.hid e15
              have N4 : Hid (n4 = w13.heap.size) := hn4
              have HTv : Hid (∀ W, Below w13.heap.size w13 W → Below w.heap.size w W) := fun W hW => HTw.out W (C13.out.trans (hW.mono C13.out.size))
              have HNg : Hid (w13.heap.size ≤ n4) := by rw [hn4]; exact Nat.le_refl _
              clear hSq e15 hn4
              go_upto_region 28 with fail
              rw [← E15.out, ← N4.out]
              clear E15 N4
              go_wp2_with fail
              go_loopw [24, 25, 26] (fun ii dd ee wx => ∃ (k : Nat) (dS : D) (aS : Option Addr) (cS : Nat), k ≤ l.length ∧ ii = .int .i64 k ∧ Hid (Dy (-1088) 68 dS ((sumB v k).val 68) ∧ Sq w13 wx n4 dS aS cS)) (fun ii _ _ _ => l.length - (intOf ii).toNat)
              case atStart => exact ⟨0, D.zero, none, 0, Nat.zero_le _, rfl, Dy.zero (by decide), HSq.out⟩
              case round =>
                obtain ⟨k, dS, aS, cS, hk, rfl, hH⟩ := hrel
                obtain ⟨hS, hQ⟩ := hH.out
                have HQ := Lib.hid hQ
                by_cases hq : k < l.length
                · have hbx := HWf.out k
                  obtain ⟨bx, ox, rfl, hcx⟩ := (HL.out wr (HTv.out wr hQ.bel)).rd.at hq
                  have hval : (sumB v (k + 1)).val 68 = (sumB v k).val 68 + zX (l.getD k 0) := by
                    rw [sumB_val, HVe.out k, bnX_zX hbx (by decide)]
                  have hok : (sumB v (k + 1)).Ok := (sumB_few (fun i _ => by rw [HVe.out i]; exact bnX_few _) (by omega)).ok
                  obtain ⟨x, hx⟩ : ∃ x, x = l.getD k 0 := ⟨_, rfl⟩
                  rw [← hx] at hcx hbx hval
                  by_cases hf : x % 9223372036854775808 < 9218868437227405312
                  case neg =>
                    have hN : ofF x = none := by unfold ofF bitsF; rw [if_pos (by omega)]
                    have hz : zX x = 0 := by unfold zX; rw [if_pos (by omega)]
                    have HOf := Lib.hid (qOfN hbx hN wr)
                    have HDn : Hid (Dy (-1088) 68 dS ((sumB v (k + 1)).val 68)) := by
                      show Dy _ _ _ _
                      rw [hval, hz, Int.add_zero]; exact hS
                    clear hx hf hN hz hval hok hbx hH hS hQ
                    unfold DV at *
                    go_wp2_with fail
                    refine HOf.out.mono ?_; rintro en w16 ⟨a6, c6, rfl, hb⟩
                    have HQ1 := Lib.hid (HQ.out.below hb)
                    clear hb
                    have HQ2 := Lib.hid (HQ1.out.below ((Below.refl w16.heap.size w16).alloc (Nat.le_refl _) (.cells #[.bool D.zero.neg, .slice a6 (words D.zero.m).length c6, .int .i64 D.zero.exp] 28)))
                    go_wp2_with fail
                    go_roundw
                    case rel => exact ⟨k + 1, dS, aS, cS, by omega, by go_num, HDn.out, HQ2.out⟩
                    case measure => simp [intOf]; omega
                  obtain ⟨j6, hj6⟩ : ∃ j, j = 66 := ⟨_, rfl⟩
                  obtain ⟨p, hp, dp⟩ := Dy.of hf hj6
                  have dp2 := (dp.lower 14 (K := 68) (by omega))
                  rw [show (-1074 : Int) - ((14 : Nat) : Int) = -1088 from rfl, show ((2 ^ 14 : Nat) : Int) = 16384 from rfl] at dp2
                  have hz : zX x = fV x * 16384 := by unfold zX; rw [if_neg (by omega)]
                  rw [hz] at hval
                  obtain ⟨j8, hj8⟩ : ∃ j, j = 68 := ⟨_, rfl⟩
                  have hsz := val_bd hok (L := 68) (by have := hok.len; omega) hj8
                  rw [hval] at hsz
                  obtain ⟨dN, hadd, hdN⟩ := hS.addZ dp2 ⟨by decide, by decide, by decide⟩ hsz
                  rw [← hval, hj8] at hdN
                  have HOf := Lib.hid (qOf hbx hp wr)
                  have HAd := Lib.hid (fun W a b c d (h3 : (argOf dS a c).Ok W) (h4 : (argOf p b d).Ok W) => qAdd hS.is hS.ok dp.is dp.ok hadd a b c d W h3 h4)
                  have HOk : Hid (dS.Ok ∧ p.Ok ∧ dN.Ok) := ⟨hS.ok, dp.ok, hdN.ok⟩
                  have HDn := Lib.hid hdN
                  clear hx hf hp dp dp2 hz hval hok hsz hj6 hj8 hadd hdN hbx hH hS hQ
                  unfold DV at *
                  go_wp2_with fail
                  refine HOf.out.mono ?_; rintro en w16 ⟨a6, c6, rfl, ho, hb⟩
                  have HQ1 := Lib.hid (HQ.out.below hb)
                  obtain ⟨w17, e17⟩ : ∃ W, W = w16.alloc (.cells #[.bool p.neg, .slice a6 (words p.m).length c6, .int .i64 p.exp] 28) := ⟨_, rfl⟩
                  obtain ⟨hK, hb17⟩ := Ky.new HOk.out.2.1 ho e17
                  obtain ⟨n5, hn5⟩ : ∃ n, n = w16.heap.size := ⟨_, rfl⟩
                  rw [← hn5] at hK
                  have K5 := Lib.hid hK
                  have HQ2 := Lib.hid (HQ1.out.below hb17)
                  obtain ⟨s0, s1', s2', _, _, _⟩ := (HQ1.out.cel.alloc (.cells #[.bool p.neg, .slice a6 (words p.m).length c6, .int .i64 p.exp] 28)).facts
                  have E17 := Lib.hid e17
                  have N5 := Lib.hid hn5
                  clear ho hb e17 hK hb17 hn5 HQ1
                  simp only [DV]
                  go_upto_if 173 with fail
                  rw [← E17.out, ← N5.out]
                  rw [← E17.out] at s0 s1' s2'
                  clear E17 N5 s0 s1' s2'
                  obtain ⟨_, _, _, _, _, _⟩ := HQ2.out.cel.facts
                  obtain ⟨_, _, _, _, _, _⟩ := K5.out.cel.facts
                  go_wp2_with fail
                  refine (HAd.out w17 aS a6 cS c6 (HQ2.out.own.arg HOk.out.1) K5.out.ok).mono ?_; rintro en w18 ⟨a7, c7, rfl, ho, hb⟩
                  have HQ3 := Lib.hid (HQ2.out.below hb)
                  have HQ4 := Lib.hid (HQ3.out.put HNg.out (d' := dN) (ho.mono (b := n4 + 1) HQ2.out.siz))
                  unfold wr3 at HQ4
                  obtain ⟨_, _, _, _, _, _⟩ := HQ3.out.cel.facts
                  clear ho hb
                  simp only [DV]
                  go_wp2_with fail
                  go_roundw
                  case rel => exact ⟨k + 1, dN, a7, c7, by omega, by go_num, HDn.out, HQ4.out⟩
                  case measure => simp [intOf]; omega
                · obtain rfl : k = l.length := by omega
                  rw [← HSe.out] at hS
                  have hAok := HSf.out.ok
                  have hval : A.kS A.len = A.val 68 := kS_full hAok.hi (by have := hAok.len; omega)
                  rw [← hval] at hS
                  obtain ⟨q', hq', hqd⟩ := HDy.out.neg (by decide)
                  obtain ⟨o, hadd, hod⟩ := hS.add hqd ⟨by decide, by decide, by decide⟩
                  have hod := hod.up (K := 70) (by decide)
                  rw [← Int.sub_eq_add_neg] at hod
                  obtain ⟨o', hon, hop, hod'⟩ := dy_abs hod (by decide)
                  have HSb := Lib.hid (fun W a b c e (h3 : (argOf dS a c).Ok W) (h4 : (argOf d b e).Ok W) => qSub hS.is hS.ok hq' hadd a b c e W h3 h4)
                  have HNe := Lib.hid (fun (h : o.neg = true) W a c (h3 : (argOf o a c).Ok W) => qNeg (hon h) a c W h3)
                  have HOp := Lib.hid hop
                  have HOk : Hid (dS.Ok ∧ o.Ok ∧ o'.Ok) := ⟨hS.ok, hod.ok, hod'.ok⟩
                  have HDo := Lib.hid hod'
                  have HDs := Lib.hid hS
                  have K1 := Lib.hid (K1.out.grow hQ.bel)
                  clear hval hq' hqd hadd hod hon hop hod' hS hQ hH hAok hq hk
                  unfold DV at HSb HNe
                  obtain ⟨_, _, _, _, _, _⟩ := HQ.out.cel.facts
                  obtain ⟨_, _, _, _, _, _⟩ := K1.out.cel.facts
                  go_wp2_with fail
                  refine (HSb.out wr aS a1 cS c1 (HQ.out.own.arg HOk.out.1) K1.out.ok).mono ?_; rintro en w16 ⟨a6, c6, rfl, ho, hb⟩
                  have HQ1 := Lib.hid (HQ.out.below hb)
                  have K1 := Lib.hid (K1.out.grow hb)
                  obtain ⟨w17, e17⟩ : ∃ W, W = w16.alloc (.cells #[.bool o.neg, .slice a6 (words o.m).length c6, .int .i64 o.exp] 28) := ⟨_, rfl⟩
                  obtain ⟨hK, hb17⟩ := Ky.new HOk.out.2.1 ho e17
                  obtain ⟨n6, hn6⟩ : ∃ n, n = w16.heap.size := ⟨_, rfl⟩
                  have HB17 := Lib.hid hb17
                  rw [← hn6] at hK
                  have K6 := Lib.hid hK
                  have HN6 : Hid (w16.heap.size ≤ n6 ∧ n6 < w17.heap.size) := ⟨by omega, hK.cel.lt⟩
                  have E17 := Lib.hid e17
                  have N6 := Lib.hid hn6
                  clear ho hb e17 hK hb17 hn6 HQ
                  simp only [DV]
                  go_upto_region 35 with fail
                  rw [← E17.out, ← N6.out]
                  clear E17 N6
                  obtain ⟨k0, k1, k2, k3, k4, k5⟩ := K6.out.cel.facts
                  go_upto_if 187 with fail
                  go_cut [27] (fun t wx => t = .pointer (some ⟨n6, 0, none⟩) ∧ ∃ a c, Ky wx n6 o' a c ∧ Below w16.heap.size w16 wx)
                  case first =>
                    cases hn : o.neg
                    · obtain rfl := HOp.out hn
                      go_wp2_with fail
                      go_meet
                      case rel => exact ⟨rfl, a6, c6, K6.out, HB17.out⟩
                    · have HC := Lib.hid (HNe.out hn w17 a6 c6 K6.out.ok)
                      rw [hn] at HC k0
                      go_wp2_with fail
                      refine HC.out.mono ?_; rintro en w18 ⟨a7, c7, rfl, ho, hb⟩
                      have hB := below_wr3 (g := n6) (v0 := .bool o'.neg) (v1 := .slice a7 (words o'.m).length c7) (v2 := .int .i64 o'.exp) (HB17.out.trans (hb.mono HB17.out.size)) HN6.out.1
                      have hK : Ky (wr3 w18 n6 (.bool o'.neg) (.slice a7 (words o'.m).length c7) (.int .i64 o'.exp)) n6 o' a7 c7 := ⟨(K6.out.cel.below hb K6.out.cel.lt).wr _ _ _, (own_wr3 ho HN6.out.2).arg HOk.out.2.2⟩
                      have HK7 := Lib.hid hK
                      have HB7 := Lib.hid hB
                      unfold wr3 at HK7 HB7
                      obtain ⟨_, _, _, _, _, _⟩ := (K6.out.cel.below hb K6.out.cel.lt).facts
                      clear ho hb hB hK
                      simp only [DV]
                      go_wp2_with fail
                      go_meet
                      case rel => exact ⟨rfl, a7, c7, HK7.out, HB7.out⟩
                  obtain ⟨rfl, a8, c8, hK6, hB⟩ := hcut
                  obtain ⟨w19, rfl⟩ : ∃ W, W = wc := ⟨_, rfl⟩
                  have K6 := Lib.hid hK6
                  have HQ := Lib.hid (HQ1.out.below hB)
                  have K1 := Lib.hid (K1.out.grow hB)
                  have hr64 := (bdR_lt R1.out).1
                  clear hK6 hB k0 k1 k2 k3 k4 k5 HB17 HN6 HSb HNe HOp HQ1
                  by_cases h0 : A.len = 0
                  · have hr0 : r1 = 0 := by
                      rcases R1.out with ⟨_, h⟩ | ⟨h, _⟩
                      · exact h
                      · omega
                    subst hr0
                    obtain ⟨j6, hj6⟩ : ∃ j, j = 66 := ⟨_, rfl⟩
                    obtain ⟨q, hp, dq⟩ := Dy.of (v := 0) (by decide) hj6
                    have z0 : fV 0 = 0 := by kernel_rfl
                    have z1 : A.kS A.len = 0 := by rw [h0]; rfl
                    have z2 : A.kS f = 0 := by rw [kS_more (A := A) (k := f) (by omega)]; exact z1
                    have HOf := Lib.hid (qOf (by decide) hp w19)
                    have HS1 : Hid (∀ W a c, (argOf q a c).Ok W → Calls Tryd.prog 28 #[.agg #[.bool q.neg, .slice a (words q.m).length c, .int .i64 q.exp]] W fun en w' => en = .returned (.int .i64 0) ∧ Below W.heap.size W w') := by
                      intro W a c h
                      have := qSign dq a c W h
                      rw [z0] at this; exact this
                    have HS2 : Hid (∀ W a c, (argOf dS a c).Ok W → Calls Tryd.prog 28 #[.agg #[.bool dS.neg, .slice a (words dS.m).length c, .int .i64 dS.exp]] W fun en w' => en = .returned (.int .i64 0) ∧ Below W.heap.size W w') := by
                      intro W a c h
                      have := qSign HDs.out a c W h
                      rw [z1] at this; exact this
                    have HS3 : Hid (∀ W a c, (argOf d a c).Ok W → Calls Tryd.prog 28 #[.agg #[.bool d.neg, .slice a (words d.m).length c, .int .i64 d.exp]] W fun en w' => en = .returned (.int .i64 0) ∧ Below W.heap.size W w') := by
                      intro W a c h
                      have := qSign HDy.out a c W h
                      rw [z2] at this; exact this
                    have HOq := Lib.hid dq.ok
                    clear h0 hj6 hp dq z0 z1 z2 hr64
                    unfold DV at HOf
                    go_wp2_with fail
                    refine HOf.out.mono ?_; rintro en w20 ⟨a9, c9, rfl, ho, hb⟩
                    obtain ⟨w21, e21⟩ : ∃ W, W = w20.alloc (.cells #[.bool q.neg, .slice a9 (words q.m).length c9, .int .i64 q.exp] 28) := ⟨_, rfl⟩
                    obtain ⟨hK, hb21⟩ := Ky.new HOq.out ho e21
                    obtain ⟨n9, hn9⟩ : ∃ n, n = w20.heap.size := ⟨_, rfl⟩
                    rw [← hn9] at hK
                    have K9 := Lib.hid hK
                    have HQ := Lib.hid ((HQ.out.below hb).below hb21)
                    have K1 := Lib.hid ((K1.out.grow hb).grow hb21)
                    have E21 := Lib.hid e21
                    have N9 := Lib.hid hn9
                    clear ho hb e21 hK hb21 hn9 K6
                    simp only [DV]
                    go_upto_region 38 with fail
                    rw [← E21.out, ← N9.out]
                    clear E21 N9
                    obtain ⟨_, _, _, _, _, _⟩ := K9.out.cel.facts
                    go_wp2_with fail
                    refine (HS1.out w21 a9 c9 K9.out.ok).mono ?_; rintro en w22 ⟨rfl, hb⟩
                    have HQ := Lib.hid (HQ.out.below hb)
                    have K1 := Lib.hid (K1.out.grow hb)
                    obtain ⟨_, _, _, _, _, _⟩ := HQ.out.cel.facts
                    clear hb
                    go_wp2_with fail
                    refine (HS2.out w22 aS cS (HQ.out.own.arg HOk.out.1)).mono ?_; rintro en w23 ⟨rfl, hb⟩
                    have HQ := Lib.hid (HQ.out.below hb)
                    have K1 := Lib.hid (K1.out.grow hb)
                    obtain ⟨_, _, _, _, _, _⟩ := K1.out.cel.facts
                    clear hb
                    go_wp2_with fail
                    refine (HS3.out w23 a1 c1 K1.out.ok).mono ?_; rintro en w24 ⟨rfl, hb⟩
                    have HBe := Lib.hid (HTv.out w24 (HQ.out.below hb).bel)
                    clear hb
                    go_wp2_with fail
                    go_ret
                    exact ⟨rfl, HBe.out⟩
                  obtain ⟨hNone, hSome⟩ := bound_pos HSf.out (by omega) f2 R1.out HDo.out
                  cases hof : ofF r1 with
                  | none =>
                    obtain rfl := hNone hof
                    have HX : ∀ W, (binOp .gtr 36 (.float .f64 9218868437227405312) (.float .f64 0)).run Tryd.prog W = .ok (.bool true) W := fun _ => by kernel_rfl
                    have HOf := Lib.hid (qOfN hr64 hof w19)
                    clear hof hNone hSome h0 hr64
                    unfold DV at HOf
                    go_wp2_with fail
                    refine HOf.out.mono ?_; rintro en w20 ⟨a9, c9, rfl, hb⟩
                    have HBe := Lib.hid (HTv.out _ ((HQ.out.below hb).below ((Below.refl w20.heap.size w20).alloc (Nat.le_refl _) (.cells #[.bool D.zero.neg, .slice a9 (words D.zero.m).length c9, .int .i64 D.zero.exp] 28))).bel)
                    clear hb
                    go_wp2_with fail
                    go_ret
                    exact ⟨rfl, HBe.out⟩
                  | some q =>
                    obtain ⟨hpos, hcmp⟩ := hSome q hof
                    obtain ⟨h3, _, _⟩ := ofF_z (-1074) (by decide) hr64 hof
                    obtain ⟨j6, hj6⟩ : ∃ j, j = 66 := ⟨_, rfl⟩
                    obtain ⟨q', hq', dq⟩ := Dy.of h3 hj6
                    obtain rfl : q = q' := by rw [hof] at hq'; exact Option.some.inj hq'
                    have HOf := Lib.hid (qOf hr64 hof w19)
                    have HS1 : Hid (∀ W a c, (argOf q a c).Ok W → Calls Tryd.prog 28 #[.agg #[.bool q.neg, .slice a (words q.m).length c, .int .i64 q.exp]] W fun en w' => en = .returned (.int .i64 1) ∧ Below W.heap.size W w') := by
                      intro W a c h
                      have := qSign dq a c W h
                      rw [show sgnZ (fV r1) = 1 by unfold sgnZ; rw [if_neg (by omega), if_neg (by omega)]] at this
                      exact this
                    have HCm : Hid (∀ W a c a' c', (argOf o' a c).Ok W → (argOf q a' c').Ok W → Calls Tryd.prog 29 #[.agg #[.bool o'.neg, .slice a (words o'.m).length c, .int .i64 o'.exp], .agg #[.bool q.neg, .slice a' (words q.m).length c', .int .i64 q.exp]] W fun en w' => (∃ z : Int, en = .returned (.int .i64 z) ∧ z < 0) ∧ Below W.heap.size W w') := by
                      intro W a c a' c' h1 h2
                      refine (rcmpd_any (argOf o' a c) (argOf q a' c') W h1 h2).mono ?_
                      rintro en w' ⟨rfl, hb⟩
                      exact ⟨⟨_, rfl, hcmp a c a' c'⟩, hb⟩
                    have HOq := Lib.hid dq.ok
                    clear hof hNone hSome h0 hr64 hpos hcmp h3 hq' dq hj6
                    unfold DV at HOf
                    go_wp2_with fail
                    refine HOf.out.mono ?_; rintro en w20 ⟨a9, c9, rfl, ho, hb⟩
                    obtain ⟨w21, e21⟩ : ∃ W, W = w20.alloc (.cells #[.bool q.neg, .slice a9 (words q.m).length c9, .int .i64 q.exp] 28) := ⟨_, rfl⟩
                    obtain ⟨hK, hb21⟩ := Ky.new HOq.out ho e21
                    obtain ⟨n9, hn9⟩ : ∃ n, n = w20.heap.size := ⟨_, rfl⟩
                    rw [← hn9] at hK
                    have K9 := Lib.hid hK
                    have HQ := Lib.hid ((HQ.out.below hb).below hb21)
                    have K6 := Lib.hid ((K6.out.grow hb).grow hb21)
                    have E21 := Lib.hid e21
                    have N9 := Lib.hid hn9
                    clear ho hb e21 hK hb21 hn9 K1
                    simp only [DV]
                    go_upto_region 38 with fail
                    rw [← E21.out, ← N9.out]
                    clear E21 N9
                    obtain ⟨_, _, _, _, _, _⟩ := K9.out.cel.facts
                    go_wp2_with fail
                    refine (HS1.out w21 a9 c9 K9.out.ok).mono ?_; rintro en w22 ⟨rfl, hb⟩
                    have HQ := Lib.hid (HQ.out.below hb)
                    have K6 := Lib.hid (K6.out.grow hb)
                    have K9 := Lib.hid (K9.out.grow hb)
                    obtain ⟨_, _, _, _, _, _⟩ := K6.out.cel.facts
                    obtain ⟨_, _, _, _, _, _⟩ := K9.out.cel.facts
                    clear hb
                    go_wp2_with fail
                    refine (HCm.out w22 a8 c8 a9 c9 K6.out.ok K9.out.ok).mono ?_; rintro en w23 ⟨⟨z, rfl, hz⟩, hb⟩
                    have HBe := Lib.hid (HTv.out w23 (HQ.out.below hb).bel)
                    clear hb
                    go_wp2_with fail
                    go_ret
                    exact ⟨by simp, HBe.out⟩
end Go.Proofs.YthdbapibbdkclaaDoor

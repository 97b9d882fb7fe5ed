/- Contract of steelyardlaw09.play.asked. One step of a script of bins, in memory. Contract of steelyardlaw09.play.step. The walk of BinsPlays. No statement of the seat is proved here. -/
import Derived.Test.YteahdgbokjbgcaaGreatDoorProg
import Derived.Test.YteahdgbokjbgcaaGreatDoorZNO
import Derived.Test.YteahdgbokjbgcaaGreatDoorZNN
import Derived.Deep.DeepCutAuto
import Derived.Test.YteahdgbokjbgcaaGreatDoorZMI
namespace Go.Proofs.YteahdgbokjbgcaaGreatDoor
open Go.RowKit
set_option maxRecDepth 10000
set_option linter.unusedVariables false
set_option linter.unusedSimpArgs false

theorem info_dyW : (Tryz.prog.info? 46).map (fun i => (i.zero, i.size, i.bytes)) = some (some (.agg #[.bool false, .slice none 0 0, .int .i64 0]), 3, 40) := by kernel_rfl
theorem info_dyv : ∃ i, Tryz.prog.info? 46 = some i ∧ i.zero = some (.agg #[.bool false, .slice none 0 0, .int .i64 0]) ∧ i.size = 3 ∧ i.bytes ≤ 64 := by
  have h := info_dyW
  cases hi : Tryz.prog.info? 46 with
  | none => rw [hi] at h; cases h
  | some i =>
    rw [hi] at h
    simp only [Option.map_some, Option.some.injEq, Prod.mk.injEq] at h
    exact ⟨i, rfl, h.1, h.2.1, by omega⟩
theorem rbkeptx_any (g f : Nat) (a : Option Addr) (A : Bn) (w : World) (f1 : 1 ≤ f) (f2 : f ≤ 8) (h : RBx w g f a A) {d : D} (hd : zO (-1088) (A.kS f) = some d) : Calls Tryz.prog 90 #[.pointer (some ⟨g, 0, none⟩)] w (OutD d w) := by
  obtain ⟨c, l, h1, h2, h3, h4⟩ := h.ex
  have h5 := bnO_len_le h4
  rw [h2] at h5
  have h6 := h.le
  exact rbkept_any g A.n f a c l w h3 (by rw [h2]; exact h6) (by omega) f1 f2 h1 (by rw [h2]; exact hd)
theorem rbroundx_any (g f : Nat) (mode : Int) (a : Option Addr) (A : Bn) (w : World) (f1 : 1 ≤ f) (f2 : f ≤ 8) (h : RBx w g f a A) : Calls Tryz.prog 89 #[.pointer (some ⟨g, 0, none⟩), .int .i64 mode] w (BRoundQ A f mode w) := by
  obtain ⟨c, l, h1, h2, h3, h4⟩ := h.ex
  have h5 := bnO_len_le h4
  rw [h2] at h5
  have h6 := h.le
  have := rbround_any g A.n f mode a c l w h3 (by rw [h2]; exact h6) (by omega) f1 f2 h1
  rw [h2] at this
  exact this
structure UpFrom (B : Nat) (W W' : World) : Prop where
  size : W.heap.size ≤ W'.heap.size
  same : ∀ j, B ≤ j → j < W.heap.size → W'.heap[j]? = W.heap[j]?
theorem Own.up {W W' : World} {B base c : Nat} {a : Option Addr} {l : List Nat} (h : Own W 118 base a c l) (hB : B ≤ base) (hu : UpFrom B W W') : Own W' 118 base a c l := by
  rcases h with h | ⟨b, t, j1, j2, j3, j4, j5⟩
  · exact .inl h
  · exact .inr ⟨b, t, j1, j2, j3, j4, (hu.same b (by omega) j5.lt).trans j5⟩
def AskQ (q : Prop) (w : World) (gp : Nat) (L : List Bth) (aL : Option Addr) (cL : Nat) (C E : List Cm) (en : Ending) (w' : World) : Prop :=
  en = .returned (.bool true) ∧ ∃ x aC cC aD cD, Ply q w w' gp L aL cL (C ++ [x]) aC cC (E ++ [x]) aD cD
set_option maxHeartbeats 16000000 in
theorem asked_any {q : Prop} {w W : World} {gp : Nat} {L : List Bth} {aL aC aD : Option Addr} {cL cC cD : Nat} {C E : List Cm} {i : Nat} {e : Bth} (hT : Tab w) (hi : L[i]? = some e) (hC : C.length ≤ 10000) (hE : E.length ≤ 10000) (h : Ply q w W gp L aL cL C aC cC E aD cD) :
    Calls Tryz.prog 17 #[.pointer (some ⟨gp, 0, none⟩), .agg #[.pointer (some ⟨e.gb, 0, none⟩), .pointer (some ⟨e.gr, 0, none⟩)]] W (AskQ q w gp L aL cL C E) := by
  obtain ⟨i0, hi0, hz0, hs0, hb0⟩ := info_dyv
  have HI := Lib.hid (And.intro hi0 (And.intro hz0 (And.intro hs0 hb0)))
  have hmem := List.mem_of_getElem? hi
  have he := (h.en e hmem).1
  obtain ⟨d, hd, hdy⟩ := kS_dy he.rb.ok e.f
  obtain ⟨w1, e1⟩ : ∃ V, V = W.alloc (.cells #[.pointer (some ⟨e.gb, 0, none⟩), .pointer (some ⟨e.gr, 0, none⟩)] 37) := ⟨_, rfl⟩
  obtain ⟨k1, b1, s1⟩ := new_of e1 rfl
  have HP := Lib.hid (fun V (hV : Below W.heap.size W V) => h.grow hV)
  have HAt := Lib.hid (fun V (hV : Below W.heap.size W V) => he.grow hV)
  have HTb := Lib.hid (fun V (hV : Below W.heap.size W V) => hT.grow (h.grow hV).bel)
  have HTw := Lib.hid (fun V (hV : Below w.heap.size w V) => hT.grow hV)
  have HMe := Lib.hid hmem
  have HB1 := Lib.hid b1
  have E1 := Lib.hid e1
  have K1 := Lib.hid k1
  have S1 := Lib.hid s1
  have HD := Lib.hid (And.intro hd hdy.ok)
  have q0 : w1.cell? ⟨W.heap.size, 0, none⟩ = some (.pointer (some ⟨e.gb, 0, none⟩)) := by rw [cell_of_row w1 _ 0 _ _ _ k1]; rfl
  have hwW : Hid (w.heap.size ≤ W.heap.size) := h.bel.size
  have HLt : Hid (q → ∀ y ∈ C, ∀ v, y.a = some v → v.block < W.heap.size) := fun k y hy v hv => (h.cm k y hy).1.lt v hv
  have HgpW : Hid (gp < W.heap.size) := h.lt
  have HaC : Hid (∀ x, aC = some x → x.block < W.heap.size) := fun x hx => h.oc.lt x hx
  have HaD : Hid (∀ x, aD = some x → x.block < W.heap.size) := fun x hx => h.od.lt x hx
  clear h he hT hi0 hz0 hs0 hb0 hd hdy e1 k1 b1 s1 hmem
  go_enter Tryz.func17, Tryz.ntmps17
  go_wp2_with fail
  rw [← E1.out]
  refine (bkept_any e.A e.gb e.f w1 (HAt.out w1 HB1.out).rb.ok (HAt.out w1 HB1.out).f1 (HAt.out w1 HB1.out).f2 (HAt.out w1 HB1.out).bin (HTb.out w1 HB1.out) HD.out.1).mono ?_; rintro en w2 ⟨a, c, rfl, ho, hb⟩
  have HB2 := Lib.hid (HB1.out.trans (hb.mono HB1.out.size))
  have K2 := Lib.hid (blk_below K1.out hb (by have := S1.out; omega))
  obtain ⟨w3, e3⟩ : ∃ V, V = w2.alloc (.cells #[.bool d.neg, .slice a (words d.m).length c, .int .i64 d.exp] 46) := ⟨_, rfl⟩
  obtain ⟨n5, hn5⟩ : ∃ n, n = w2.heap.size := ⟨_, rfl⟩
  obtain ⟨k3, b3, s3⟩ := new_cel e3 hn5.symm
  rw [hn5] at b3
  have hz : W.heap.size < n5 := by have := S1.out; have := hb.size; omega
  have K3 := Lib.hid (blk_below K2.out b3 (by omega))
  have K5 := Lib.hid k3
  have HB3 := Lib.hid (HB2.out.trans (b3.mono HB2.out.size))
  have HO3 := Lib.hid (ho.grow b3)
  have E3 := Lib.hid e3
  have N5 := Lib.hid hn5
  have S3 := Lib.hid s3
  clear ho hb e3 k3 b3 s3 hn5 q0
  have q1 : w3.cell? ⟨W.heap.size, 1, none⟩ = some (.pointer (some ⟨e.gr, 0, none⟩)) := by rw [cell_of_row w3 _ 1 _ _ _ K3.out]; rfl
  unfold DV
  go_upto_region 2 with fail
  rw [← E3.out, ← N5.out]
  clear E3 K2
  go_wp2_with fail
  refine (rbkeptx_any e.gr e.f e.a e.A w3 (HAt.out w3 HB3.out).f1 (HAt.out w3 HB3.out).f2 (HAt.out w3 HB3.out).rb HD.out.1).mono ?_; rintro en w4 ⟨a', c', rfl, ho, hb⟩
  have HB4 := Lib.hid (HB3.out.trans (hb.mono HB3.out.size))
  obtain ⟨w5, e5⟩ : ∃ V, V = w4.alloc (.cells #[.bool d.neg, .slice a' (words d.m).length c', .int .i64 d.exp] 46) := ⟨_, rfl⟩
  obtain ⟨n6, hn6⟩ : ∃ n, n = w4.heap.size := ⟨_, rfl⟩
  obtain ⟨k5, b5, s5⟩ := new_cel e5 hn6.symm
  rw [hn6] at b5
  have hz2 : n5 < n6 := by have := S3.out; have := hb.size; omega
  have hb35 := hb.trans (b5.mono hb.size)
  have K3 := Lib.hid (blk_below K3.out hb35 (by have := S3.out; omega))
  have K5 := Lib.hid (K5.out.below hb35 (by have := S3.out; omega))
  have K6 := Lib.hid k5
  have HB5 := Lib.hid (HB4.out.trans (b5.mono HB4.out.size))
  have HO3 := Lib.hid (HO3.out.grow hb35)
  have HO5 := Lib.hid (ho.grow b5)
  have HW13 : Hid (W.heap.size ≤ w1.heap.size ∧ W.heap.size ≤ w3.heap.size) := ⟨HB1.out.size, HB3.out.size⟩
  have E5 := Lib.hid e5
  have N6 := Lib.hid hn6
  have S5 : Hid (n6 < w5.heap.size) := by show _ < _; omega
  clear ho hb e5 k5 b5 s5 hn6 q1 hb35
  simp only [DV]
  go_upto_region 3 with fail
  rw [← E5.out, ← N6.out]
  clear E5 N6 N5 S3 S1 E1
  have HP5 := Lib.hid (HP.out w5 HB5.out)
  obtain ⟨_, z1, _, _, z3, _⟩ := HP5.out.cells
  obtain ⟨_, _, _, _, _, _⟩ := K5.out.facts
  obtain ⟨_, _, _, _, _, _⟩ := K6.out.facts
  obtain ⟨x, hx⟩ : ∃ x : Cm, x = ⟨d, a, c, a', c'⟩ := ⟨_, rfl⟩
  have HXe := Lib.hid hx
  clear hx
  obtain ⟨w6, e6⟩ : ∃ V, V = w5.alloc (.cells #[.bool d.neg, .slice a (words d.m).length c, .int .i64 d.exp] 46) := ⟨_, rfl⟩
  obtain ⟨k6, b6, s6⟩ := new_of e6 rfl
  have HB6 : Hid (Below w5.heap.size w5 w6.drew) := b6.drew
  have HPa : Hid (Ply q w w6.drew gp L aL cL C aC cC E aD cD) := (HP5.out.grow b6).drew
  have HVa : Hid (VRd w6.drew (some ⟨w5.heap.size, 0, none⟩) [.bool d.neg, .slice a (words d.m).length c, .int .i64 d.exp]) := VBlk.rd (g := w5.heap.size) (e := 46) k6
  obtain ⟨_, u1, _, _, u3, _⟩ := (HP5.out.grow b6).cells
  rw [e6] at u1 u3
  obtain ⟨_, _, _, _, _, _⟩ := (K5.out.alloc (.cells #[.bool d.neg, .slice a (words d.m).length c, .int .i64 d.exp] 46)).facts
  have HEa := Lib.hid e6
  clear e6 k6 b6 s6
  go_cut [0] (fun t wx => t = .pointer (some ⟨gp, 0, none⟩) ∧ ∃ aC' cC', Ply q w wx gp L aL cL (C ++ [x]) aC' cC' E aD cD ∧ UpFrom W.heap.size w5 wx)
  case first =>
    go_region_law (first | (rw [← HEa.out]; refine step_append_vals rfl (.tmp 17) (.tmp 19) 26 26 rfl 46 46 i0 (.agg #[.bool false, .slice none 0 0, .int .i64 0]) 3 Tryz.underlying26 Tryz.underlying26 HI.out.1 HI.out.2.1 HI.out.2.2.1 rfl (by decide) HI.out.2.2.2 w.heap.size aC (some ⟨w5.heap.size, 0, none⟩) C.length cC 1 1 (dyC C) [.bool d.neg, .slice a (words d.m).length c, .int .i64 d.exp] (by simp [Act.eval, Act.put]) (by simp [Act.eval, Act.put]) (dyC_len _) rfl (by simp [Value.oneCell']) HPa.out.oc HVa.out (by omega) (by have := HPa.out.bel.size; simp at this; simp; omega) ?_; intro a9 c9 w9 ho9 hg9 hn9; have hk9 := (Chg.of HPa.out.oc hg9).row HPa.out.row (by decide); have z9 : w9.cell? ⟨gp, 1, none⟩ = some (.slice aC C.length cC) := (by rw [cell_of_row w9 gp 1 _ _ _ hk9]; rfl); have y9 := frozen_of_row w9 gp 1 _ _ hk9))
    all_goals
      have HF : Hid (Ply q w (w9.setCell ⟨gp, 1, none⟩ (.slice a9 (C.length + 1) c9)) gp L aL cL (C ++ [x]) a9 c9 E aD cD ∧ UpFrom W.heap.size w5 (w9.setCell ⟨gp, 1, none⟩ (.slice a9 (C.length + 1) c9))) := by
        refine ⟨HP5.out.came (x := x) (by rw [HXe.out]; exact HO3.out.mono (by have := HW13.out.1; have := hwW.out; omega)) (by rw [HXe.out]; exact HD.out.2) (fun hq y hy u v hu hv => by
          rw [HXe.out] at hu
          have h1 := HO3.out.ge u hu
          have h2 := HLt.out hq y hy v hv
          have := HW13.out.1
          omega) HB6.out (by rw [HXe.out]; exact ho9) hg9 hn9, by simpa using Nat.le_trans HB6.out.size hg9.size, fun j hj1 hj2 => ?_⟩
        rw [heap_setCell_other _ _ _ _ (show j ≠ gp by have := HgpW.out; omega), hg9.block j (Nat.lt_of_lt_of_le hj2 HB6.out.size) (fun e9 => by
          obtain ⟨ad, had, hbk⟩ := Option.map_eq_some_iff.1 e9.symm
          have := HaC.out ad had
          omega)]
        exact HB6.out.block j hj2
      clear ho9 hg9 hn9 hk9
      go_wp2_with fail
      go_meet
      case rel => exact ⟨rfl, a9, c9, HF.out⟩
  obtain ⟨rfl, aC', cC', hP, hU⟩ := hcut
  obtain ⟨w7, rfl⟩ : ∃ V, V = wc := ⟨_, rfl⟩
  have HP7 := Lib.hid hP
  have HU7 := Lib.hid hU
  clear hP hU z1 z3 u1 u3 HEa HPa HVa HB6
  have K3 : Hid (w7.heap[W.heap.size]? = _) := (HU7.out.same W.heap.size (by omega) (by have := S5.out; omega)).trans K3.out
  have K5 : Hid (Cel w7 n5 _ _ _) := (HU7.out.same n5 (by omega) (by have := S5.out; omega)).trans K5.out
  have K6 : Hid (Cel w7 n6 _ _ _) := (HU7.out.same n6 (by omega) S5.out).trans K6.out
  have HOw : Hid (Own w7 118 w3.heap.size a' c' (words d.m)) := HO5.out.up HW13.out.2 HU7.out
  have HOv : Hid (Own w7 118 w1.heap.size a c (words d.m)) := HO3.out.up HW13.out.1 HU7.out
  have HS7 : Hid (W.heap.size ≤ w7.heap.size ∧ n6 < w7.heap.size) := ⟨Nat.le_trans HB5.out.size HU7.out.size, Nat.lt_of_lt_of_le S5.out HU7.out.size⟩
  obtain ⟨_, _, z1, _, _, z3⟩ := HP7.out.cells
  obtain ⟨_, _, _, _, _, _⟩ := K6.out.facts
  obtain ⟨w8, e8⟩ : ∃ V, V = w7.alloc (.cells #[.bool d.neg, .slice a' (words d.m).length c', .int .i64 d.exp] 46) := ⟨_, rfl⟩
  obtain ⟨k8, b8, s8⟩ := new_of e8 rfl
  have HB8 : Hid (Below w7.heap.size w7 w8.drew) := b8.drew
  have HPb : Hid (Ply q w w8.drew gp L aL cL (C ++ [x]) aC' cC' E aD cD) := (HP7.out.grow b8).drew
  have HVb : Hid (VRd w8.drew (some ⟨w7.heap.size, 0, none⟩) [.bool d.neg, .slice a' (words d.m).length c', .int .i64 d.exp]) := VBlk.rd (g := w7.heap.size) (e := 46) k8
  obtain ⟨_, _, u1, _, _, u3⟩ := (HP7.out.grow b8).cells
  rw [e8] at u1 u3
  obtain ⟨_, _, _, _, _, _⟩ := (K6.out.alloc (.cells #[.bool d.neg, .slice a' (words d.m).length c', .int .i64 d.exp] 46)).facts
  have HEb := Lib.hid e8
  clear e8 k8 b8 s8
  go_wp2_with fail
  go_cut [0] (fun t wx => t = .pointer (some ⟨gp, 0, none⟩) ∧ ∃ aD' cD', Ply q w wx gp L aL cL (C ++ [x]) aC' cC' (E ++ [x]) aD' cD' ∧ UpFrom W.heap.size w7 wx)
  case first =>
    go_region_law (first | (rw [← HEb.out]; refine step_append_vals rfl (.tmp 27) (.tmp 29) 26 26 rfl 46 46 i0 (.agg #[.bool false, .slice none 0 0, .int .i64 0]) 3 Tryz.underlying26 Tryz.underlying26 HI.out.1 HI.out.2.1 HI.out.2.2.1 rfl (by decide) HI.out.2.2.2 w.heap.size aD (some ⟨w7.heap.size, 0, none⟩) E.length cD 1 1 (dyW E) [.bool d.neg, .slice a' (words d.m).length c', .int .i64 d.exp] (by simp [Act.eval, Act.put]) (by simp [Act.eval, Act.put]) (dyW_len _) rfl (by simp [Value.oneCell']) HPb.out.od HVb.out (by omega) (by have := HPb.out.bel.size; simp at this; simp; omega) ?_; intro a9 c9 w9 ho9 hg9 hn9; have hk9 := (Chg.of HPb.out.od hg9).row HPb.out.row (by decide); have z9 : w9.cell? ⟨gp, 2, none⟩ = some (.slice aD E.length cD) := (by rw [cell_of_row w9 gp 2 _ _ _ hk9]; rfl); have y9 := frozen_of_row w9 gp 2 _ _ hk9))
    all_goals
      have HF : Hid (Ply q w (w9.setCell ⟨gp, 2, none⟩ (.slice a9 (E.length + 1) c9)) gp L aL cL (C ++ [x]) aC' cC' (E ++ [x]) a9 c9 ∧ UpFrom W.heap.size w7 (w9.setCell ⟨gp, 2, none⟩ (.slice a9 (E.length + 1) c9))) := by
        refine ⟨HP7.out.want (x := x) (by rw [HXe.out]; exact HOw.out.mono (by have := HW13.out.2; have := hwW.out; omega)) (by rw [HXe.out]; exact HD.out.2) HB8.out (by rw [HXe.out]; exact ho9) hg9 hn9, by simpa using Nat.le_trans HB8.out.size hg9.size, fun j hj1 hj2 => ?_⟩
        rw [heap_setCell_other _ _ _ _ (show j ≠ gp by have := HgpW.out; omega), hg9.block j (Nat.lt_of_lt_of_le hj2 HB8.out.size) (fun e9 => by
          obtain ⟨ad, had, hbk⟩ := Option.map_eq_some_iff.1 e9.symm
          have := HaD.out ad had
          omega)]
        exact HB8.out.block j hj2
      clear ho9 hg9 hn9 hk9
      go_wp2_with fail
      go_meet
      case rel => exact ⟨rfl, a9, c9, HF.out⟩
  obtain ⟨rfl, aD', cD', hP, hU⟩ := hcut
  obtain ⟨wB, rfl⟩ : ∃ V, V = wc := ⟨_, rfl⟩
  have HPB := Lib.hid hP
  have HOwB : Hid (Own wB 118 w3.heap.size a' c' (words d.m)) := HOw.out.up HW13.out.2 hU
  have HOvB : Hid (Own wB 118 w1.heap.size a c (words d.m)) := HOv.out.up HW13.out.1 hU
  have K3 : Hid (wB.heap[W.heap.size]? = _) := (hU.same W.heap.size (Nat.le_refl _) (by have := HS7.out; omega)).trans K3.out
  have K5 : Hid (Cel wB n5 _ _ _) := (hU.same n5 (by omega) (by have := HS7.out; omega)).trans K5.out
  have K6 : Hid (Cel wB n6 _ _ _) := (hU.same n6 (by omega) (by have := HS7.out; omega)).trans K6.out
  clear hP hU z1 z3 u1 u3 HEb HPb HVb HB8 HP7 HOw HS7
  have HX : Hid (∀ V, Below wB.heap.size wB V → Cel V n5 (.bool d.neg) (.slice a (words d.m).length c) (.int .i64 d.exp) ∧ Cel V n6 (.bool d.neg) (.slice a' (words d.m).length c') (.int .i64 d.exp) ∧ V.cell? ⟨W.heap.size, 0, none⟩ = some (.pointer (some ⟨e.gb, 0, none⟩)) ∧ V.cell? ⟨W.heap.size, 1, none⟩ = some (.pointer (some ⟨e.gr, 0, none⟩))) := by
    intro V hV
    have h3 := blk_below K3.out hV (Array.getElem?_eq_some_iff.1 K3.out).1
    exact ⟨K5.out.below hV K5.out.lt, K6.out.below hV K6.out.lt, by rw [cell_of_row V _ 0 _ _ _ h3]; rfl, by rw [cell_of_row V _ 1 _ _ _ h3]; rfl⟩
  have HPl : Hid (∀ V, Below wB.heap.size wB V → Ply q w V gp L aL cL (C ++ [x]) aC' cC' (E ++ [x]) aD' cD') := fun V hV => HPB.out.grow hV
  have HKo : Hid (∀ V, Below wB.heap.size wB V → (argOf d a c).Ok V ∧ (argOf d a' c').Ok V) := by
    intro V hV
    have h1 := HOvB.out.grow hV
    have h2 := HOwB.out.grow hV
    exact ⟨h1.arg HD.out.2, h2.arg HD.out.2⟩
  have HSm : Hid (∀ V (a a' : Option Addr) (c c' : Nat), (argOf d a c).Ok V → (argOf d a' c').Ok V → Calls Tryz.prog 18 #[.agg #[.bool d.neg, .slice a (words d.m).length c, .int .i64 d.exp], .agg #[.bool d.neg, .slice a' (words d.m).length c', .int .i64 d.exp]] V fun en w' => en = .returned (.bool true) ∧ Below V.heap.size V w') := fun V a a' c c' h1 h2 => same_any (argOf d a c) (argOf d a' c') V h1 h2 ⟨rfl, rfl, rfl⟩
  have HBt : Hid (∀ V, Below wB.heap.size wB V → BthAt V e) := fun V hV => ((HPl.out V hV).en e HMe.out).1
  have HB1 : Hid (∀ V, Below wB.heap.size wB V → Calls Tryz.prog 81 #[.pointer (some ⟨e.gb, 0, none⟩)] V (BBdQ e.A e.f V)) := fun V hV => bbound_any e.A e.gb e.f V (HBt.out V hV).rb.ok (HBt.out V hV).f2 (HBt.out V hV).bin (HTw.out V (HPl.out V hV).bel)
  have HB2 : Hid (∀ V, Below wB.heap.size wB V → Calls Tryz.prog 91 #[.pointer (some ⟨e.gr, 0, none⟩)] V (BBdQ e.A e.f V)) := fun V hV => rbbound_any e.A e.gr e.f e.a V (HBt.out V hV).f2 (HBt.out V hV).rb
  have HAl : Hid (∀ r V, Calls Tryz.prog 61 #[.float .f64 r, .float .f64 r] V fun en w' => en = .returned (.bool true) ∧ V = w') := by
    intro r V
    have h := alike_any r r V
    rw [decide_eq_true rfl] at h
    exact h
  have HF1 : Hid (∀ V, Below wB.heap.size wB V → Calls Tryz.prog 83 #[.pointer (some ⟨e.gb, 0, none⟩)] V fun en w' => en = .returned (.int .i64 e.f) ∧ V = w') := fun V hV => bfold_any e.A e.gb e.f V (HBt.out V hV).bin
  have HF2 : Hid (∀ V, Below wB.heap.size wB V → Calls Tryz.prog 92 #[.pointer (some ⟨e.gr, 0, none⟩)] V fun en w' => en = .returned (.int .i64 e.f) ∧ V = w') := fun V hV => rbfold_any e.gr e.f e.a e.A V (HBt.out V hV).rb
  have HC1 : Hid (∀ V, Below wB.heap.size wB V → Calls Tryz.prog 82 #[.pointer (some ⟨e.gb, 0, none⟩)] V fun en w' => en = .returned (.int .i64 e.A.n) ∧ V = w') := fun V hV => bcount_any e.A e.gb e.f V (HBt.out V hV).bin
  have HC2 : Hid (∀ V, Below wB.heap.size wB V → Calls Tryz.prog 93 #[.pointer (some ⟨e.gr, 0, none⟩)] V fun en w' => en = .returned (.int .i64 e.A.n) ∧ V = w') := fun V hV => rbcount_any e.gr e.f e.a e.A V (HBt.out V hV).rb
  have HV0 : Hid (Below wB.heap.size wB wB.drew) := (Below.refl _ _).drew
  obtain ⟨_, _, _, _, _, _⟩ := (HX.out wB (Below.refl _ _)).1.facts
  obtain ⟨_, _, _, _, _, _⟩ := (HX.out wB (Below.refl _ _)).2.1.facts
  obtain ⟨_, _⟩ := (HX.out wB (Below.refl _ _)).2.2
  clear K3 K5 K6 HB3 HB4 HB5 HO3 HO5 HP5 HP HAt HTb hz hz2
  go_wp2_with fail
  go_region_held3 (fun V => V.cell? ⟨n5, 0, none⟩ = some (.bool d.neg) ∧ V.cell? ⟨n5, 1, none⟩ = some (.slice a (words d.m).length c) ∧ V.cell? ⟨n5, 2, none⟩ = some (.int .i64 d.exp) ∧ V.cell? ⟨n6, 0, none⟩ = some (.bool d.neg) ∧ V.cell? ⟨n6, 1, none⟩ = some (.slice a' (words d.m).length c') ∧ V.cell? ⟨n6, 2, none⟩ = some (.int .i64 d.exp) ∧ V.cell? ⟨W.heap.size, 0, none⟩ = some (.pointer (some ⟨e.gb, 0, none⟩)) ∧ V.cell? ⟨W.heap.size, 1, none⟩ = some (.pointer (some ⟨e.gr, 0, none⟩))) (go_keep) (first
    | (go_at_call 18; (with_reducible refine (HSm.out _ _ _ _ _ (HKo.out _ HV0.out).1 (HKo.out _ HV0.out).2).mono ?_); rintro en v1 ⟨rfl, hb⟩; have HV1 := Lib.hid (HV0.out.trans (hb.mono HV0.out.size)); clear hb; obtain ⟨_, _, _, _, _, _⟩ := (HX.out _ HV1.out).1.facts; obtain ⟨_, _, _, _, _, _⟩ := (HX.out _ HV1.out).2.1.facts; obtain ⟨_, _⟩ := (HX.out _ HV1.out).2.2)
    | (go_at_call 81; (with_reducible refine (HB1.out _ HV1.out).mono ?_); rintro en v2 ⟨r1, rfl, hr1, hb⟩; have HV2 := Lib.hid (HV1.out.trans (hb.mono HV1.out.size)); have HR1 := Lib.hid hr1; clear hb hr1; obtain ⟨_, _, _, _, _, _⟩ := (HX.out _ HV2.out).1.facts; obtain ⟨_, _, _, _, _, _⟩ := (HX.out _ HV2.out).2.1.facts; obtain ⟨_, _⟩ := (HX.out _ HV2.out).2.2)
    | (go_at_call 91; (with_reducible refine (HB2.out _ HV2.out).mono ?_); rintro en v3 ⟨r2, rfl, hr2, hb⟩; obtain rfl := HR1.out.uniq hr2; have HV3 := Lib.hid (HV2.out.trans (hb.mono HV2.out.size)); clear hb hr2; obtain ⟨_, _, _, _, _, _⟩ := (HX.out _ HV3.out).1.facts; obtain ⟨_, _, _, _, _, _⟩ := (HX.out _ HV3.out).2.1.facts; obtain ⟨_, _⟩ := (HX.out _ HV3.out).2.2)
    | (go_at_call 61; (with_reducible refine (HAl.out r1 _).mono ?_); rintro en v4 ⟨rfl, rfl⟩)
    | (go_at_call 83; (with_reducible refine (HF1.out _ HV3.out).mono ?_); rintro en v5 ⟨rfl, rfl⟩)
    | (go_at_call 92; (with_reducible refine (HF2.out _ HV3.out).mono ?_); rintro en v6 ⟨rfl, rfl⟩)
    | (go_at_call 82; (with_reducible refine (HC1.out _ HV3.out).mono ?_); rintro en v7 ⟨rfl, rfl⟩)
    | (go_at_call 93; (with_reducible refine (HC2.out _ HV3.out).mono ?_); rintro en v8 ⟨rfl, rfl⟩))
  all_goals
    go_wp2_with fail
    go_ret
    exact ⟨by simp, x, aC', cC', aD', cD', HPl.out _ HV3.out⟩
end Go.Proofs.YteahdgbokjbgcaaGreatDoor
namespace Go.Proofs.YteahdgbokjbgcaaGreatDoor
open Go.RowKit
set_option maxRecDepth 10000
set_option linter.unusedVariables false
set_option linter.unusedSimpArgs false

def eAdd (A : Bn) (b : Nat) : Int := if 1099511627776 ≤ A.n then 2 else if 9218868437227405312 ≤ b % 9223372036854775808 then 30 else 0
def bAdd (A : Bn) (b : Nat) : Bn := if 1099511627776 ≤ A.n then A else if 9218868437227405312 ≤ b % 9223372036854775808 then A else A.sum (bn1 b)
def eMrg (A B : Bn) (f f' : Nat) : Int := if f = f' then (if 1099511627776 < A.n + B.n then 2 else 0) else 1
def bMrg (A B : Bn) (f f' : Nat) : Bn := if f = f' then (if 1099511627776 < A.n + B.n then A else A.sum B) else A
theorem badd9 (A : Bn) (g f b : Nat) (w : World) (hA : A.Ok) (hf : f ≤ 8) (hb : b < 18446744073709551616) (hB : BinAt w g f A) :
    Calls Tryz.prog 78 #[.pointer (some ⟨g, 0, none⟩), .float .f64 b] w fun en w' => en = .returned (.int .i64 (eAdd A b)) ∧ BinAt w' g f (bAdd A b) ∧ w.grownBy w' (some g) := by
  refine (badd_any A g f b w hA hf hb hB).mono ?_
  rintro en w' ⟨h1, h2⟩
  unfold eAdd bAdd
  rcases h1 with ⟨h3, rfl, h4⟩ | ⟨h0, h3, rfl, h4⟩ | ⟨h0, h3, rfl, h4⟩
  · rw [if_pos h3, if_pos h3]; exact ⟨rfl, h4, h2⟩
  · unfold badB at h3
    rw [if_neg (show ¬ 1099511627776 ≤ A.n by omega), if_neg (show ¬ 1099511627776 ≤ A.n by omega), if_pos h3, if_pos h3]; exact ⟨rfl, h4, h2⟩
  · unfold badB at h3
    rw [if_neg (show ¬ 1099511627776 ≤ A.n by omega), if_neg (show ¬ 1099511627776 ≤ A.n by omega), if_neg h3, if_neg h3]; exact ⟨rfl, h4, h2⟩
theorem rbadd9 (A : Bn) (g f b : Nat) (a : Option Addr) (w : World) (hb : b < 18446744073709551616) (h : RBx w g f a A) :
    Calls Tryz.prog 86 #[.pointer (some ⟨g, 0, none⟩), .float .f64 b] w fun en w' => en = .returned (.int .i64 (eAdd A b)) ∧ ∃ a', RBx w' g f a' (bAdd A b) ∧ Fr w w' g a ∧ Fresh w a a' := by
  refine (rbaddx_any A g f b a w hb h).mono ?_
  rintro en w' ⟨a', h1, h2, h5⟩
  unfold eAdd bAdd
  rcases h1 with ⟨h3, rfl, h4⟩ | ⟨h0, h3, rfl, h4⟩ | ⟨h0, h3, rfl, h4⟩
  · rw [if_pos h3, if_pos h3]; exact ⟨rfl, a', h4, h2, h5⟩
  · unfold badB at h3
    rw [if_neg (show ¬ 1099511627776 ≤ A.n by omega), if_neg (show ¬ 1099511627776 ≤ A.n by omega), if_pos h3, if_pos h3]; exact ⟨rfl, a', h4, h2, h5⟩
  · unfold badB at h3
    rw [if_neg (show ¬ 1099511627776 ≤ A.n by omega), if_neg (show ¬ 1099511627776 ≤ A.n by omega), if_neg h3, if_neg h3]; exact ⟨rfl, a', h4, h2, h5⟩
theorem bmrg9 (A B : Bn) (g h f f' : Nat) (w : World) (hA : A.Ok) (hB : B.Ok) (hf : f ≤ 8) (hg : BinAt w g f A) (hh : BinAt w h f' B) :
    Calls Tryz.prog 87 #[.pointer (some ⟨g, 0, none⟩), .pointer (some ⟨h, 0, none⟩)] w fun en w' => en = .returned (.int .i64 (eMrg A B f f')) ∧ BinAt w' g f (bMrg A B f f') ∧ w.grownBy w' (some g) := by
  refine (bmerge_any A B g h f f' w hA hB hf hg hh).mono ?_
  rintro en w' ⟨h1, h2⟩
  unfold eMrg bMrg
  rcases h1 with ⟨h3, rfl, h4⟩ | ⟨h0, h3, rfl, h4⟩ | ⟨h0, h3, rfl, h4⟩
  · rw [if_neg h3, if_neg h3]; exact ⟨rfl, h4, h2⟩
  · rw [if_pos h0, if_pos h0, if_pos h3, if_pos h3]; exact ⟨rfl, h4, h2⟩
  · rw [if_pos h0, if_pos h0, if_neg (show ¬ 1099511627776 < A.n + B.n by omega), if_neg (show ¬ 1099511627776 < A.n + B.n by omega)]; exact ⟨rfl, h4, h2⟩
theorem rbmrg9 (A B : Bn) (g h f f' : Nat) (a a2 : Option Addr) (w : World) (hA : RBx w g f a A) (hB : RBx w h f' a2 B) :
    Calls Tryz.prog 88 #[.pointer (some ⟨g, 0, none⟩), .pointer (some ⟨h, 0, none⟩)] w fun en w' => en = .returned (.int .i64 (eMrg A B f f')) ∧ ∃ a', RBx w' g f a' (bMrg A B f f') ∧ Fr w w' g a ∧ Fresh w a a' := by
  refine (rbmerge_any A B g h f f' a a2 w hA hB).mono ?_
  rintro en w' ⟨a', h1, h2, h5⟩
  unfold eMrg bMrg
  rcases h1 with ⟨h3, rfl, h4⟩ | ⟨h0, h3, rfl, h4⟩ | ⟨h0, h3, rfl, h4⟩
  · rw [if_neg h3, if_neg h3]; exact ⟨rfl, a', h4, h2, h5⟩
  · rw [if_pos h0, if_pos h0, if_pos h3, if_pos h3]; exact ⟨rfl, a', h4, h2, h5⟩
  · rw [if_pos h0, if_pos h0, if_neg (show ¬ 1099511627776 < A.n + B.n by omega), if_neg (show ¬ 1099511627776 < A.n + B.n by omega)]; exact ⟨rfl, a', h4, h2, h5⟩
theorem KT.drew' {W W' : World} (h : KT W W') : KT W W'.drew := ⟨h.os, h.tape, h.output, h.size, h.keep⟩
section
variable {q : Prop} {w W W1 W2 : World} {gp : Nat} {L : List Bth} {aL aC aD a' : Option Addr} {cL cC cD : Nat} {C E : List Cm} {i : Nat} {e : Bth} {A' : Bn}
/-- one of the bins has changed, both ways alike -/
theorem Ply.step (h : Ply q w W gp L aL cL C aC cC E aD cD) (hi : L[i]? = some e) (h1 : W.grownBy W1 (some e.gb)) (h2 : BinAt W1 e.gb e.f A') (h3 : RBx W2 e.gr e.f a' A') (h4 : Fr W1 W2 e.gr e.a) (h5 : Fresh W1 e.a a') :
    Ply q w W2 gp (L.set i ⟨e.gb, e.gr, e.f, a', A'⟩) aL cL C aC cC E aD cD ∧ KT W W2 := by
  obtain ⟨he, hb1, hb2⟩ := h.en e (List.mem_of_getElem? hi)
  have k1 := KT.bin he.bin h1
  have r1 := he.rb.byBin he.bin h1
  have k2 := KT.rb r1 h4
  have b1 : Below w.heap.size w W1 := bel_grown h.bel (Nat.le_refl _) h1 hb1
  have b2 : Below w.heap.size w W2 := ⟨h4.os.trans b1.os, h4.tape.trans b1.tape, h4.output.trans b1.output, Nat.le_trans b1.size h4.size, fun j hj => (h4.block j (Nat.lt_of_lt_of_le hj b1.size) (by omega) (fun ad had => by
    obtain ⟨c, l, q1, _⟩ := r1.ex
    have := q1.own.ge ad had
    omega)).trans (b1.block j hj)⟩
  refine ⟨h.turn (k1.trans k2) b2 hi rfl rfl ⟨h2.byRb r1 h4, h3, he.f1, he.f2⟩ fun j x hj hx => ?_, k1.trans k2⟩
  obtain ⟨d1, d2, d3⟩ := h.dj i j e x (fun q => hj q.symm) hi hx
  have hx1 := (h.en x (List.mem_of_getElem? hx)).1
  refine ⟨(hx1.byBin he.bin (fun q => d1 q.symm) h1).byRb r1 (fun q => d2 q.symm) (fun u v hu hv q => d3 v u hv hu q.symm) h4, d1, d2, fun u v hu hv => ?_⟩
  rcases h5 with h5 | ⟨k, h5, hk⟩
  · exact d3 u v (by rw [← h5]; exact hu) hv
  · have hu' : a' = some u := hu
    rw [h5] at hu'
    cases hu'
    obtain ⟨_, t2⟩ := hx1.rb.type
    obtain ⟨cs, t3⟩ := t2 v hv
    have := (Array.getElem?_eq_some_iff.1 t3).1
    have := h1.size
    show k ≠ v.block
    omega
/-- new bins -/
theorem Ply.push {c' : Nat} {W5 : World} (h : Ply q w W gp L aL cL C aC cC E aD cD) (hb : Below W.heap.size W W1) (he : BthAt W1 e) (hg1 : W.heap.size ≤ e.gb) (hg2 : W.heap.size ≤ e.gr) (hea : e.a = none) (hb2 : Below W1.heap.size W1 W2)
    (ho : VOwn W5 37 2 w.heap.size a' c' (bothV L ++ [.pointer (some ⟨e.gb, 0, none⟩), .pointer (some ⟨e.gr, 0, none⟩)])) (hg : W2.grownBy W5 (aL.map (·.block))) :
    Ply q w (W5.setCell ⟨gp, 0, none⟩ (.slice a' (L.length + 1) c')) gp (L ++ [e]) a' c' C aC cC E aD cD := by
  have h1 := h.grow (hb.trans (hb2.mono hb.size))
  have he1 := he.grow hb2
  have c1 := Chg.of h1.ol hg
  have r5 := c1.row h1.row (by decide)
  have c2 := Chg.set r5 0 (.slice a' (L.length + 1) c')
  have hw := h.bel.size
  refine ⟨by rw [row_set r5 0 (.slice a' (L.length + 1) c')]; rw [List.length_append]; rfl, h1.gp, c2.vown (by rw [bothV_app]; exact ho) (by decide), c2.vown (c1.vown h1.oc (by decide)) (by decide), c2.vown (c1.vown h1.od (by decide)) (by decide), h1.cd, ?_, ?_, fun k y hy => ⟨c2.own (c1.own (h1.cm k y hy).1 (by decide)) (by decide), (h1.cm k y hy).2⟩, fun k y hy => ⟨c2.own (c1.own (h1.cm' k y hy).1 (by decide)) (by decide), (h1.cm' k y hy).2⟩, h1.ap, ?_⟩
  · intro x hx
    rcases List.mem_append.1 hx with hx | hx
    · exact ⟨c2.bth (c1.bth (h1.en x hx).1 (by decide) (by decide) (by decide)) (by decide) (by decide) (by decide), (h1.en x hx).2⟩
    · obtain rfl : x = e := by simpa using hx
      exact ⟨c2.bth (c1.bth he1 (by decide) (by decide) (by decide)) (by decide) (by decide) (by decide), by omega, by omega⟩
  · intro i j x y hij hx hy
    have key : ∀ (i : Nat) (y : Bth), (L ++ [e])[i]? = some y → (L[i]? = some y) ∨ (i = L.length ∧ y = e) := by
      intro i y hy
      by_cases hi : i < L.length
      · rw [List.getElem?_append_left hi] at hy; exact .inl hy
      · rw [List.getElem?_append_right (by omega)] at hy
        have := (List.getElem?_eq_some_iff.1 hy).1
        simp at this
        obtain rfl : i = L.length := by omega
        simp at hy
        exact .inr ⟨rfl, hy.symm⟩
    have old : ∀ x ∈ L, x.gb < W.heap.size ∧ x.gr < W.heap.size := fun x hx => ⟨BinC.lt (h.en x hx).1.bin, (h.en x hx).1.rb.lt⟩
    rcases key i x hx with k1 | ⟨k1, rfl⟩ <;> rcases key j y hy with k2 | ⟨k2, rfl⟩
    · exact h1.dj i j x y hij k1 k2
    · have := old x (List.mem_of_getElem? k1)
      exact ⟨by omega, by omega, fun u v _ hv => by rw [hea] at hv; cases hv⟩
    · have := old y (List.mem_of_getElem? k2)
      exact ⟨by omega, by omega, fun u v hu _ => by rw [hea] at hu; cases hu⟩
    · omega
  · exact (Rgrown h1.bel (Nat.le_refl _) hg h1.ol.row).setCell (p := ⟨gp, 0, none⟩) h1.gp _
end
end Go.Proofs.YteahdgbokjbgcaaGreatDoor
namespace Go.Proofs.YteahdgbokjbgcaaGreatDoor
open Go.RowKit
set_option maxRecDepth 10000
set_option linter.unusedVariables false
set_option linter.unusedSimpArgs false

theorem info_bothW : (Tryz.prog.info? 37).map (fun i => (i.zero, i.size, i.bytes)) = some (some (.agg #[.pointer none, .pointer none]), 2, 16) := by kernel_rfl
theorem info_both : ∃ i, Tryz.prog.info? 37 = some i ∧ i.zero = some (.agg #[.pointer none, .pointer none]) ∧ i.size = 2 ∧ i.bytes ≤ 64 := by
  have h := info_bothW
  cases hi : Tryz.prog.info? 37 with
  | none => rw [hi] at h; cases h
  | some i =>
    rw [hi] at h
    simp only [Option.map_some, Option.some.injEq, Prod.mk.injEq] at h
    exact ⟨i, rfl, h.1, h.2.1, by omega⟩
/-- what a step leaves: it is the document's answer -/
def StpQ (q : Prop) (w : World) (gp : Nat) (L C : Nat) (b : Prop) (en : Ending) (w' : World) : Prop :=
  en = .returned (.bool true) ∧ ∃ L' aL cL C' aC cC aD cD, Ply q w w' gp L' aL cL C' aC cC C' aD cD ∧ L'.length ≤ 16 ∧ L ≤ L'.length ∧ C'.length ≤ C + 1 ∧ (b → 0 < L'.length)
def opV (kind on wth n : Int) (x : Nat) : Value := .agg #[.int .i64 kind, .int .i64 on, .int .i64 wth, .int .i64 n, .float .f64 x]
structure OpAt (W : World) (k : Nat) (kind on wth n : Int) (x : Nat) : Prop where
  row : W.heap[k]? = some (.cells #[.int .i64 kind, .int .i64 on, .int .i64 wth, .int .i64 n, .float .f64 x] 32 (0, 0))
theorem OpAt.cells {W : World} {k : Nat} {kind on wth n : Int} {x : Nat} (h : OpAt W k kind on wth n x) : W.cell? ⟨k, 0, none⟩ = some (.int .i64 kind) ∧ W.cell? ⟨k, 1, none⟩ = some (.int .i64 on) ∧ W.cell? ⟨k, 2, none⟩ = some (.int .i64 wth) ∧ W.cell? ⟨k, 3, none⟩ = some (.int .i64 n) ∧ W.cell? ⟨k, 4, none⟩ = some (.float .f64 x) :=
  ⟨by rw [cell_of_row W k 0 _ _ _ h.row]; rfl, by rw [cell_of_row W k 1 _ _ _ h.row]; rfl, by rw [cell_of_row W k 2 _ _ _ h.row]; rfl, by rw [cell_of_row W k 3 _ _ _ h.row]; rfl, by rw [cell_of_row W k 4 _ _ _ h.row]; rfl⟩
theorem OpAt.kt {W W' : World} {k : Nat} {kind on wth n : Int} {x : Nat} (h : OpAt W k kind on wth n x) (hk : KT W W') : OpAt W' k kind on wth n x := ⟨hk.keep _ _ _ _ h.row (by decide) (by decide) (by decide)⟩
structure BoAt (W : World) (k : Nat) (gb gr : Nat) : Prop where
  row : W.heap[k]? = some (.cells #[.pointer (some ⟨gb, 0, none⟩), .pointer (some ⟨gr, 0, none⟩)] 37 (0, 0))
theorem BoAt.cells {W : World} {k gb gr : Nat} (h : BoAt W k gb gr) : W.cell? ⟨k, 0, none⟩ = some (.pointer (some ⟨gb, 0, none⟩)) ∧ W.cell? ⟨k, 1, none⟩ = some (.pointer (some ⟨gr, 0, none⟩)) :=
  ⟨by rw [cell_of_row W k 0 _ _ _ h.row]; rfl, by rw [cell_of_row W k 1 _ _ _ h.row]; rfl⟩
theorem BoAt.kt {W W' : World} {k gb gr : Nat} (h : BoAt W k gb gr) (hk : KT W W') : BoAt W' k gb gr := ⟨hk.keep _ _ _ _ h.row (by decide) (by decide) (by decide)⟩
set_option maxHeartbeats 16000000 in
theorem stepnew_any {q : Prop} {w W : World} {gp : Nat} {L : List Bth} {aL aC aD : Option Addr} {cL cC cD : Nat} {C : List Cm} (on wth n : Int) (x : Nat) (hL : L.length ≤ 16) (h : Ply q w W gp L aL cL C aC cC C aD cD) :
    Calls Tryz.prog 16 #[.pointer (some ⟨gp, 0, none⟩), opV 1 on wth n x] W (StpQ q w gp L.length C.length (1 ≤ n ∧ n ≤ 8 ∧ L.length < 16)) := by
  obtain ⟨i0, hi0, hz0, hs0, hb0⟩ := info_both
  have HI := Lib.hid (And.intro hi0 (And.intro hz0 (And.intro hs0 hb0)))
  obtain ⟨w1, e1⟩ : ∃ V, V = W.alloc (.cells #[.int .i64 1, .int .i64 on, .int .i64 wth, .int .i64 n, .float .f64 x] 32) := ⟨_, rfl⟩
  obtain ⟨k1, b1, s1⟩ := new_of e1 rfl
  have HO : Hid (∀ V, Below w1.heap.size w1 V → OpAt V W.heap.size 1 on wth n x) := fun V hV => ⟨blk_below k1 hV (by omega)⟩
  obtain ⟨x0, _, _, x3, _⟩ := (HO.out w1 (Below.refl _ _)).cells
  have HP := Lib.hid (fun V (hV : Below w1.heap.size w1 V) => (h.grow b1).grow hV)
  have HW : Hid (w.heap.size ≤ w1.heap.size ∧ W.heap.size ≤ w1.heap.size) := ⟨(h.grow b1).bel.size, b1.size⟩
  have E1 := Lib.hid e1
  clear hi0 hz0 hs0 hb0 h e1 k1 b1 s1
  unfold opV
  by_cases m1 : n < 1 ∨ 8 < n
  · have H1 := Lib.hid (bnewN_any n w1 m1)
    have H2 := Lib.hid (rbnewN_any n w1 m1)
    have HM : Hid (¬ (1 ≤ n ∧ n ≤ 8 ∧ L.length < 16)) := by show ¬ _; omega
    clear m1
    go_enter Tryz.func16, Tryz.ntmps16
    go_wp2_with fail
    rw [← E1.out]
    refine H1.out.mono ?_; rintro en w2 ⟨rfl, rfl⟩
    go_wp2_with fail
    refine H2.out.mono ?_; rintro en w2 ⟨rfl, rfl⟩
    go_wp2_with fail
    go_ret
    exact ⟨rfl, L, aL, cL, C, aC, cC, aD, cD, HP.out w1 (Below.refl _ _), hL, Nat.le_refl _, by omega, fun h => absurd h HM.out⟩
  obtain ⟨f, rfl⟩ : ∃ f : Nat, n = (f : Int) := ⟨n.toNat, by omega⟩
  have f1 : 1 ≤ f := by omega
  have f2 : f ≤ 8 := by omega
  clear m1
  go_enter Tryz.func16, Tryz.ntmps16
  go_wp2_with fail
  rw [← E1.out]
  refine (bnew_any f w1 f1 f2).mono ?_; rintro en w2 ⟨rfl, hA, hb⟩
  obtain ⟨gb, hgb⟩ : ∃ g, g = w1.heap.size := ⟨_, rfl⟩
  rw [← hgb] at hA ⊢
  have HB2 := Lib.hid hb
  have HA2 := Lib.hid hA
  have HGb : Hid (gb = w1.heap.size) := hgb
  obtain ⟨_, _, _, x3, _⟩ := (HO.out w2 hb).cells
  clear hA hb hgb
  go_wp2_with fail
  refine (rbnew_any (f : Int) w2 (by omega) (by omega)).mono ?_; rintro en w3 ⟨rfl, hR, hb⟩
  obtain ⟨gr, hgr⟩ : ∃ g, g = w2.heap.size := ⟨_, rfl⟩
  rw [← hgr] at hR ⊢
  have HB3 := Lib.hid (HB2.out.trans (hb.mono HB2.out.size))
  have HE3 : Hid (BthAt w3 ⟨gb, gr, f, none, Bn.zero⟩) := ⟨BinC.grow HA2.out hb, ⟨Nat.zero_le _, 0, [], hR, rfl, fun p hp => by simp at hp, fun p hp => by simp at hp⟩, f1, f2⟩
  have HGr : Hid (w1.heap.size ≤ gr) := by rw [hgr]; exact HB2.out.size
  have HP3 := Lib.hid (HP.out w3 HB3.out)
  obtain ⟨y0, _, _, y3, _, _⟩ := HP3.out.cells
  clear hR hb hgr
  by_cases hq : L.length < 16
  · have HBk := Lib.hid (vblk_alloc w3 37 #[.pointer (some ⟨gb, 0, none⟩), .pointer (some ⟨gr, 0, none⟩)])
    have HBa : Hid (Below w3.heap.size w3 (w3.alloc (.cells #[.pointer (some ⟨gb, 0, none⟩), .pointer (some ⟨gr, 0, none⟩)] 37))) := (Below.refl _ _).alloc (Nat.le_refl _) _
    have HPa := Lib.hid (HP3.out.grow HBa.out)
    go_wp2_with (first | (at_builtin; refine wpList_append_vals rfl _ _ 25 25 rfl 37 37 i0 (.agg #[.pointer none, .pointer none]) 2 Tryz.underlying25 Tryz.underlying25 HI.out.1 HI.out.2.1 HI.out.2.2.1 rfl (by decide) HI.out.2.2.2 w.heap.size aL (some ⟨w3.heap.size, 0, none⟩) L.length cL 1 1 (bothV L) [.pointer (some ⟨gb, 0, none⟩), .pointer (some ⟨gr, 0, none⟩)] rfl rfl (bothV_len L) rfl (by simp [Value.oneCell']) HPa.out.ol HBk.out.rd (by omega) (by have := HPa.out.bel.size; omega) ?_; intro a5 c5 w5 ho5 hg5 hn5; have hk5 := (Chg.of HPa.out.ol hg5).row HPa.out.row (by decide); have z5 : w5.cell? ⟨gp, 0, none⟩ = some (.slice aL L.length cL) := (by rw [cell_of_row w5 gp 0 _ _ _ hk5]; rfl); have y5 := frozen_of_row w5 gp 0 _ _ hk5))
    have HU : Hid (Ply q w (w5.setCell ⟨gp, 0, none⟩ (.slice a5 (L.length + 1) c5)) gp (L ++ [⟨gb, gr, f, none, Bn.zero⟩]) a5 c5 C aC cC C aD cD) :=
      (HP.out w1 (Below.refl _ _)).push (e := ⟨gb, gr, f, none, Bn.zero⟩) HB3.out HE3.out (by rw [HGb.out]; exact Nat.le_refl _) HGr.out rfl HBa.out ho5 hg5
    clear ho5 hg5 hn5 hk5
    go_ret
    exact ⟨by simp, L ++ [⟨gb, gr, f, none, Bn.zero⟩], a5, c5, C, aC, cC, aD, cD, HU.out, by simp; omega, by simp, by omega, fun _ => by simp⟩
  · go_wp2_with fail
    go_ret
    exact ⟨by simp, L, aL, cL, C, aC, cC, aD, cD, HP3.out, hL, Nat.le_refl _, by omega, fun h => absurd h.2.2 hq⟩

/-- while one of the bins is worked on -/
structure Lp (q : Prop) (w W wr : World) (gp : Nat) (n i : Nat) (e e' : Bth) (L' : List Bth) (aL : Option Addr) (cL : Nat) (C : List Cm) (aC : Option Addr) (cC : Nat) (aD : Option Addr) (cD : Nat) : Prop where
  ply : Ply q w wr gp L' aL cL C aC cC C aD cD
  kt : KT W wr
  len : L'.length = n
  at' : L'[i]? = some e'
  gb : e'.gb = e.gb
  gr : e'.gr = e.gr
theorem Lp.next {q : Prop} {w W wr W1 W2 : World} {gp n i : Nat} {e e' : Bth} {L' : List Bth} {aL aC aD a' : Option Addr} {cL cC cD : Nat} {C : List Cm} {A' : Bn} (h : Lp q w W wr gp n i e e' L' aL cL C aC cC aD cD)
    (h1 : wr.drew.grownBy W1 (some e.gb)) (h2 : BinAt W1 e.gb e'.f A') (h3 : RBx W2 e.gr e'.f a' A') (h4 : Fr W1 W2 e.gr e'.a) (h5 : Fresh W1 e'.a a') : ∃ e'' L'', Lp q w W W2 gp n i e e'' L'' aL cL C aC cC aD cD := by
  rw [← h.gb] at h1 h2
  rw [← h.gr] at h3 h4
  obtain ⟨k1, k2⟩ := h.ply.drew.step h.at' h1 h2 h3 h4 h5
  refine ⟨_, _, k1, h.kt.trans (KT.trans (KT.drew' (KT.refl _)) k2), by rw [List.length_set]; exact h.len, List.getElem?_set_self (List.getElem?_eq_some_iff.1 h.at').1, h.gb, h.gr⟩
set_option maxHeartbeats 32000000 in
theorem stepon_any {q : Prop} {w W : World} {gp : Nat} {L : List Bth} {aL aC aD : Option Addr} {cL cC cD : Nat} {C : List Cm} (kind on wth n : Int) (x : Nat) (hk1 : kind ≠ 1) (hx : x < 18446744073709551616)
    (ho1 : -9223372036854775808 ≤ on) (ho2 : on ≤ 9223372036854775807) (hw1 : -9223372036854775808 ≤ wth) (hw2 : wth ≤ 9223372036854775807) (hL0 : 0 < L.length) (hL : L.length ≤ 16) (hC : C.length ≤ 5000) (hT : Tab w) (h : Ply q w W gp L aL cL C aC cC C aD cD) :
    Calls Tryz.prog 16 #[.pointer (some ⟨gp, 0, none⟩), opV kind on wth n x] W (StpQ q w gp L.length C.length (0 < L.length)) := by
  obtain ⟨k3, hk3⟩ : ∃ k, k = W.heap.size := ⟨_, rfl⟩
  obtain ⟨w1, e1⟩ : ∃ V, V = W.alloc (.cells #[.int .i64 kind, .int .i64 on, .int .i64 wth, .int .i64 n, .float .f64 x] 32) := ⟨_, rfl⟩
  obtain ⟨k1, b1, s1⟩ := new_of e1 hk3.symm
  have HO : Hid (OpAt w1 k3 kind on wth n x) := ⟨k1⟩
  obtain ⟨x0, x1, _, _, _⟩ := HO.out.cells
  have HP1 := Lib.hid (h.grow (by rw [← hk3]; exact b1))
  have HAt := Lib.hid (at_any on ho1 ho2 hL0 hL HP1.out)
  have HT := Lib.hid (fun V (hw : Below w.heap.size w V) => hT.grow hw)
  have HTw := Lib.hid hT
  have hkb : (kind == 1) = false := by rw [beq_eq_false_iff_ne]; exact hk1
  have E1 := Lib.hid e1
  have HK3 := Lib.hid hk3
  clear h k1 b1 s1 hT e1 hk3
  unfold opV
  go_enter Tryz.func16, Tryz.ntmps16
  go_wp2_with fail
  rw [← HK3.out, ← E1.out]
  refine HAt.out.mono ?_; rintro en w2 ⟨i, e, hi, rfl, hb⟩
  have HP2 := Lib.hid (HP1.out.grow hb)
  have HO2 := Lib.hid (HO.out.kt (KT.below hb))
  have HI := Lib.hid hi
  obtain ⟨n7, hn7⟩ : ∃ k, k = w2.heap.size := ⟨_, rfl⟩
  obtain ⟨w3, e3⟩ : ∃ V, V = w2.alloc (.cells #[.pointer (some ⟨e.gb, 0, none⟩), .pointer (some ⟨e.gr, 0, none⟩)] 37) := ⟨_, rfl⟩
  obtain ⟨k3', b3, s3⟩ := new_of e3 hn7.symm
  rw [hn7] at b3
  have HP3 := Lib.hid (HP2.out.grow b3)
  have HO3 := Lib.hid (HO2.out.kt (KT.below b3))
  have HB3 : Hid (BoAt w3 n7 e.gb e.gr) := ⟨k3'⟩
  have E3 := Lib.hid e3
  have N7 := Lib.hid hn7
  clear hb hi e3 k3' b3 s3 hn7 HP1 HO HAt HP2 HO2 x0 x1
  have HX : Hid (∀ V, KT w3 V → OpAt V k3 kind on wth n x ∧ BoAt V n7 e.gb e.gr) := fun V hV => ⟨HO3.out.kt hV, HB3.out.kt hV⟩
  go_upto_region 8 with fail
  rw [← E3.out, ← N7.out]
  clear E3 N7
  obtain ⟨x0, _, x2, x3, x4⟩ := HO3.out.cells
  obtain ⟨y0, y1⟩ := HB3.out.cells
  have HL0 : Hid (Lp q w w3 w3 gp L.length i e e L aL cL C aC cC aD cD) := ⟨HP3.out, KT.refl _, rfl, HI.out, rfl, rfl⟩
  have HAd : Hid (∀ V e' L', Lp q w w3 V gp L.length i e e' L' aL cL C aC cC aD cD → Calls Tryz.prog 78 #[.pointer (some ⟨e.gb, 0, none⟩), .float .f64 x] V.drew fun en w' => en = .returned (.int .i64 (eAdd e'.A x)) ∧ BinAt w' e.gb e'.f (bAdd e'.A x) ∧ V.drew.grownBy w' (some e.gb)) := by
    intro V e' L' hV
    have h1 := (hV.ply.drew.en e' (List.mem_of_getElem? hV.at')).1
    have := badd9 e'.A e'.gb e'.f x V.drew h1.rb.ok h1.f2 hx h1.bin
    rw [hV.gb] at this
    exact this
  have HRa : Hid (∀ V V' e' L' A', Lp q w w3 V gp L.length i e e' L' aL cL C aC cC aD cD → BinAt V' e.gb e'.f A' → V.drew.grownBy V' (some e.gb) → KT w3 V' ∧ Calls Tryz.prog 86 #[.pointer (some ⟨e.gr, 0, none⟩), .float .f64 x] V' fun en w' => en = .returned (.int .i64 (eAdd e'.A x)) ∧ ∃ a', RBx w' e.gr e'.f a' (bAdd e'.A x) ∧ Fr V' w' e.gr e'.a ∧ Fresh V' e'.a a') := by
    intro V V' e' L' A' hV hA hg
    have h1 := (hV.ply.drew.en e' (List.mem_of_getElem? hV.at')).1
    have hb := h1.bin
    rw [hV.gb] at hb
    refine ⟨hV.kt.trans (KT.trans (KT.drew' (KT.refl _)) (KT.bin hb hg)), ?_⟩
    have h2 := h1.rb.byBin hb hg
    rw [hV.gr] at h2
    exact rbadd9 e'.A e.gr e'.f x e'.a V' hx h2
  by_cases q2 : kind = 2
  · subst q2
    go_wp2_with fail
    go_region_held3 (fun V => V.cell? ⟨n7, 0, none⟩ = some (.pointer (some ⟨e.gb, 0, none⟩)) ∧ V.cell? ⟨n7, 1, none⟩ = some (.pointer (some ⟨e.gr, 0, none⟩)) ∧ V.cell? ⟨k3, 4, none⟩ = some (.float .f64 x)) (go_keep) (first
      | (go_at_call 78; (with_reducible refine (HAd.out _ _ _ HL0.out).mono ?_); rintro en w4 ⟨rfl, hA, hg⟩; have HA4 := Lib.hid hA; have HG4 := Lib.hid hg; have HR4 := Lib.hid (HRa.out _ _ _ _ _ HL0.out hA hg); obtain ⟨_, _, _, _, _⟩ := (HX.out _ HR4.out.1).1.cells; obtain ⟨_, _⟩ := (HX.out _ HR4.out.1).2.cells; clear hA hg)
      | (go_at_call 86; (with_reducible refine HR4.out.2.mono ?_); rintro en w5 ⟨rfl, a5, hR, hF, hFr⟩; have HN := Lib.hid (HL0.out.next HG4.out HA4.out hR hF hFr); obtain ⟨e5, L5, hL5⟩ := HN.out; have HL5 := Lib.hid hL5; obtain ⟨_, _, _, _, _⟩ := (HX.out _ hL5.kt).1.cells; obtain ⟨_, _⟩ := (HX.out _ hL5.kt).2.cells; clear hR hF hFr hL5 HN))
    all_goals
      go_wp2_with fail
      go_ret
      exact ⟨by simp, L5, aL, cL, C, aC, cC, aD, cD, HL5.out.ply, by rw [HL5.out.len]; exact hL, by rw [HL5.out.len]; exact Nat.le_refl _, by omega, fun _ => by rw [HL5.out.len]; exact hL0⟩
  have hb2 : (kind == 2) = false := by rw [beq_eq_false_iff_ne]; exact q2
  by_cases q6 : kind = 6
  · subst q6
    go_wp2_with fail
    go_loopw [8] (fun ii wr => ∃ (k : Nat) (e' : Bth) (L' : List Bth), k ≤ 100 ∧ ii = .int .i64 k ∧ Hid (Lp q w w3 wr gp L.length i e e' L' aL cL C aC cC aD cD)) (fun ii _ => 100 - (intOf ii).toNat)
    case atStart => exact ⟨0, e, L, Nat.zero_le _, rfl, HL0.out⟩
    case round =>
      obtain ⟨k, e', L', hk, rfl, hH⟩ := hrel
      have HH := Lib.hid hH.out
      obtain ⟨_, _, _, _, _⟩ := (HX.out _ HH.out.kt).1.cells
      obtain ⟨_, _⟩ := (HX.out _ HH.out.kt).2.cells
      clear hH x0 x2 x3 x4 y0 y1
      by_cases hq : (k : Int) < n ∧ k < 100
      · obtain ⟨hq1, hq2⟩ := hq
        go_wp2_with fail
        go_region_held3 (fun V => V.cell? ⟨n7, 0, none⟩ = some (.pointer (some ⟨e.gb, 0, none⟩)) ∧ V.cell? ⟨n7, 1, none⟩ = some (.pointer (some ⟨e.gr, 0, none⟩)) ∧ V.cell? ⟨k3, 4, none⟩ = some (.float .f64 x)) (go_keep) (first
      | (go_at_call 78; (with_reducible refine (HAd.out _ _ _ HH.out).mono ?_); rintro en w4 ⟨rfl, hA, hg⟩; have HA4 := Lib.hid hA; have HG4 := Lib.hid hg; have HR4 := Lib.hid (HRa.out _ _ _ _ _ HH.out hA hg); obtain ⟨_, _, _, _, _⟩ := (HX.out _ HR4.out.1).1.cells; obtain ⟨_, _⟩ := (HX.out _ HR4.out.1).2.cells; clear hA hg)
      | (go_at_call 86; (with_reducible refine HR4.out.2.mono ?_); rintro en w5 ⟨rfl, a5, hR, hF, hFr⟩; have HN := Lib.hid (HH.out.next HG4.out HA4.out hR hF hFr); obtain ⟨e5, L5, hL5⟩ := HN.out; have HL5 := Lib.hid hL5; obtain ⟨_, _, _, _, _⟩ := (HX.out _ hL5.kt).1.cells; obtain ⟨_, _⟩ := (HX.out _ hL5.kt).2.cells; clear hR hF hFr hL5 HN))
        all_goals
          go_wp2_with fail
          go_roundw
          case rel => exact ⟨k + 1, e5, L5, by omega, by go_num, HL5.out⟩
          case measure => simp [intOf]; omega
      · have hor : n ≤ (k : Int) ∨ ((k : Int) < n ∧ 100 ≤ k) := by omega
        clear hq
        rcases hor with hq | ⟨hq, hq2⟩
        all_goals
          go_wp2_with fail
          go_ret
          exact ⟨rfl, L', aL, cL, C, aC, cC, aD, cD, HH.out.ply, by rw [HH.out.len]; exact hL, by rw [HH.out.len]; exact Nat.le_refl _, by omega, fun _ => by rw [HH.out.len]; exact hL0⟩
  have hb6 : (kind == 6) = false := by rw [beq_eq_false_iff_ne]; exact q6
  clear HAd HRa
  by_cases q3 : kind = 3
  · subst q3
    have HA2 := Lib.hid (at_any wth hw1 hw2 hL0 hL HP3.out)
    go_wp2_with fail
    refine HA2.out.mono ?_; rintro en w4 ⟨j, e2, hj, rfl, hb⟩
    have HK4 := Lib.hid (KT.below hb)
    have HP4 := Lib.hid (HP3.out.grow hb)
    have HJ := Lib.hid hj
    obtain ⟨n9, hn9⟩ : ∃ k, k = w4.heap.size := ⟨_, rfl⟩
    obtain ⟨w5, e5⟩ : ∃ V, V = w4.alloc (.cells #[.pointer (some ⟨e2.gb, 0, none⟩), .pointer (some ⟨e2.gr, 0, none⟩)] 37) := ⟨_, rfl⟩
    obtain ⟨k5', b5, s5⟩ := new_of e5 hn9.symm
    rw [hn9] at b5
    have HP5 := Lib.hid (HP4.out.grow b5)
    have HK5 := Lib.hid (HK4.out.trans (KT.below b5))
    have HB5 : Hid (BoAt w5 n9 e2.gb e2.gr) := ⟨k5'⟩
    have E5 := Lib.hid e5
    have N9 := Lib.hid hn9
    clear hb hj e5 k5' b5 s5 hn9 HP4 HK4 x0 x2 x3 x4 y0 y1
    have HX5 : Hid (∀ V, KT w5 V → BoAt V n7 e.gb e.gr ∧ BoAt V n9 e2.gb e2.gr) := fun V hV => ⟨(HX.out V (HK5.out.trans hV)).2, HB5.out.kt hV⟩
    go_upto_region 20 with fail
    rw [← E5.out, ← N9.out]
    clear E5 N9
    have hE1 := (HP5.out.drew.en e (List.mem_of_getElem? HI.out)).1
    have hE2 := (HP5.out.drew.en e2 (List.mem_of_getElem? HJ.out)).1
    have HMg := Lib.hid (bmrg9 e.A e2.A e.gb e2.gb e.f e2.f w5.drew hE1.rb.ok hE2.rb.ok hE1.f2 hE1.bin hE2.bin)
    have HR0 := Lib.hid (And.intro hE1 hE2)
    clear hE1 hE2
    obtain ⟨_, _⟩ := (HX5.out _ (KT.refl _)).1.cells
    obtain ⟨_, _⟩ := (HX5.out _ (KT.refl _)).2.cells
    go_region_held3 (fun V => V.cell? ⟨n7, 0, none⟩ = some (.pointer (some ⟨e.gb, 0, none⟩)) ∧ V.cell? ⟨n7, 1, none⟩ = some (.pointer (some ⟨e.gr, 0, none⟩)) ∧ V.cell? ⟨n9, 0, none⟩ = some (.pointer (some ⟨e2.gb, 0, none⟩)) ∧ V.cell? ⟨n9, 1, none⟩ = some (.pointer (some ⟨e2.gr, 0, none⟩))) (go_keep) (first
      | (go_at_call 87; (with_reducible refine HMg.out.mono ?_); rintro en w6 ⟨rfl, hA, hg⟩; have HA6 := Lib.hid hA; have HG6 := Lib.hid hg; have HK6 := Lib.hid (KT.trans (KT.drew' (KT.refl w5)) (KT.bin HR0.out.1.bin hg)); have HR6 := Lib.hid (rbmrg9 e.A e2.A e.gr e2.gr e.f e2.f e.a e2.a w6 (HR0.out.1.rb.byBin HR0.out.1.bin hg) (HR0.out.2.rb.byBin HR0.out.1.bin hg)); obtain ⟨_, _⟩ := (HX5.out _ HK6.out).1.cells; obtain ⟨_, _⟩ := (HX5.out _ HK6.out).2.cells; clear hA hg)
      | (go_at_call 88; (with_reducible refine HR6.out.mono ?_); rintro en w7 ⟨rfl, a5, hR, hF, hFr⟩; have HN := Lib.hid (HP5.out.drew.step HI.out HG6.out HA6.out hR hF hFr); have HK7 := Lib.hid (KT.trans (KT.drew' (KT.refl w5)) HN.out.2); obtain ⟨_, _⟩ := (HX5.out _ HK7.out).1.cells; obtain ⟨_, _⟩ := (HX5.out _ HK7.out).2.cells; clear hR hF hFr))
    all_goals
      go_wp2_with fail
      go_ret
      exact ⟨by simp, _, aL, cL, C, aC, cC, aD, cD, HN.out.1, by rw [List.length_set]; exact hL, by rw [List.length_set]; exact Nat.le_refl _, by omega, fun _ => by rw [List.length_set]; exact hL0⟩
  have hb3 : (kind == 3) = false := by rw [beq_eq_false_iff_ne]; exact q3
  by_cases q4 : kind = 4
  · subst q4
    have HMg : Hid (∀ V e' L', Lp q w w3 V gp L.length i e e' L' aL cL C aC cC aD cD → Calls Tryz.prog 87 #[.pointer (some ⟨e.gb, 0, none⟩), .pointer (some ⟨e.gb, 0, none⟩)] V.drew fun en w' => en = .returned (.int .i64 (eMrg e'.A e'.A e'.f e'.f)) ∧ BinAt w' e.gb e'.f (bMrg e'.A e'.A e'.f e'.f) ∧ V.drew.grownBy w' (some e.gb)) := by
      intro V e' L' hV
      have h1 := (hV.ply.drew.en e' (List.mem_of_getElem? hV.at')).1
      have := bmrg9 e'.A e'.A e'.gb e'.gb e'.f e'.f V.drew h1.rb.ok h1.rb.ok h1.f2 h1.bin h1.bin
      rw [hV.gb] at this
      exact this
    have HRm : Hid (∀ V V' e' L' A', Lp q w w3 V gp L.length i e e' L' aL cL C aC cC aD cD → BinAt V' e.gb e'.f A' → V.drew.grownBy V' (some e.gb) → KT w3 V' ∧ Calls Tryz.prog 88 #[.pointer (some ⟨e.gr, 0, none⟩), .pointer (some ⟨e.gr, 0, none⟩)] V' fun en w' => en = .returned (.int .i64 (eMrg e'.A e'.A e'.f e'.f)) ∧ ∃ a', RBx w' e.gr e'.f a' (bMrg e'.A e'.A e'.f e'.f) ∧ Fr V' w' e.gr e'.a ∧ Fresh V' e'.a a') := by
      intro V V' e' L' A' hV hA hg
      have h1 := (hV.ply.drew.en e' (List.mem_of_getElem? hV.at')).1
      have hb := h1.bin
      rw [hV.gb] at hb
      refine ⟨hV.kt.trans (KT.trans (KT.drew' (KT.refl _)) (KT.bin hb hg)), ?_⟩
      have h2 := h1.rb.byBin hb hg
      rw [hV.gr] at h2
      exact rbmrg9 e'.A e'.A e.gr e.gr e'.f e'.f e'.a e'.a V' h2 h2
    go_wp2_with fail
    go_loopw [10] (fun ii wr => ∃ (k : Nat) (e' : Bth) (L' : List Bth), k ≤ 50 ∧ ii = .int .i64 k ∧ Hid (Lp q w w3 wr gp L.length i e e' L' aL cL C aC cC aD cD)) (fun ii _ => 50 - (intOf ii).toNat)
    case atStart => exact ⟨0, e, L, Nat.zero_le _, rfl, HL0.out⟩
    case round =>
      obtain ⟨k, e', L', hk, rfl, hH⟩ := hrel
      have HH := Lib.hid hH.out
      obtain ⟨_, _, _, _, _⟩ := (HX.out _ HH.out.kt).1.cells
      obtain ⟨_, _⟩ := (HX.out _ HH.out.kt).2.cells
      clear hH x0 x2 x3 x4 y0 y1
      by_cases hq : (k : Int) < n ∧ k < 50
      · obtain ⟨hq1, hq2⟩ := hq
        go_wp2_with fail
        go_region_held3 (fun V => V.cell? ⟨n7, 0, none⟩ = some (.pointer (some ⟨e.gb, 0, none⟩)) ∧ V.cell? ⟨n7, 1, none⟩ = some (.pointer (some ⟨e.gr, 0, none⟩))) (go_keep) (first
      | (go_at_call 87; (with_reducible refine (HMg.out _ _ _ HH.out).mono ?_); rintro en w4 ⟨rfl, hA, hg⟩; have HA4 := Lib.hid hA; have HG4 := Lib.hid hg; have HR4 := Lib.hid (HRm.out _ _ _ _ _ HH.out hA hg); obtain ⟨_, _, _, _, _⟩ := (HX.out _ HR4.out.1).1.cells; obtain ⟨_, _⟩ := (HX.out _ HR4.out.1).2.cells; clear hA hg)
      | (go_at_call 88; (with_reducible refine HR4.out.2.mono ?_); rintro en w5 ⟨rfl, a5, hR, hF, hFr⟩; have HN := Lib.hid (HH.out.next HG4.out HA4.out hR hF hFr); obtain ⟨e5, L5, hL5⟩ := HN.out; have HL5 := Lib.hid hL5; obtain ⟨_, _, _, _, _⟩ := (HX.out _ hL5.kt).1.cells; obtain ⟨_, _⟩ := (HX.out _ hL5.kt).2.cells; clear hR hF hFr hL5 HN))
        all_goals
          go_wp2_with fail
          go_roundw
          case rel => exact ⟨k + 1, e5, L5, by omega, by go_num, HL5.out⟩
          case measure => simp [intOf]; omega
      · have hor : n ≤ (k : Int) ∨ ((k : Int) < n ∧ 50 ≤ k) := by omega
        clear hq
        rcases hor with hq | ⟨hq, hq2⟩
        all_goals
          go_wp2_with fail
          go_ret
          exact ⟨rfl, L', aL, cL, C, aC, cC, aD, cD, HH.out.ply, by rw [HH.out.len]; exact hL, by rw [HH.out.len]; exact Nat.le_refl _, by omega, fun _ => by rw [HH.out.len]; exact hL0⟩
  have hb4 : (kind == 4) = false := by rw [beq_eq_false_iff_ne]; exact q4
  have hE := (HP3.out.en e (List.mem_of_getElem? HI.out)).1
  have HEn := Lib.hid hE
  clear hE
  by_cases q5 : kind = 5
  · subst q5
    have HR1 := Lib.hid (bround_any e.A e.gb e.f n w3 HEn.out.rb.ok HEn.out.f1 HEn.out.f2 HEn.out.bin (HT.out w3 HP3.out.bel))
    go_wp2_with fail
    refine HR1.out.mono ?_; rintro en w4 ⟨r, er, rfl, hr, hb⟩
    have HR := Lib.hid hr
    have HP4 := Lib.hid (HP3.out.grow hb)
    have HE4 := Lib.hid (HEn.out.grow hb)
    have HK4 := Lib.hid (KT.below hb)
    clear hr hb x0 x2 x3 x4 y0 y1
    obtain ⟨_, _, _, x3, _⟩ := (HX.out _ HK4.out).1.cells
    obtain ⟨_, y1⟩ := (HX.out _ HK4.out).2.cells
    have HR2 := Lib.hid (rbroundx_any e.gr e.f n e.a e.A w4 HE4.out.f1 HE4.out.f2 HE4.out.rb)
    go_wp2_with fail
    refine HR2.out.mono ?_; rintro en w5 ⟨r', er', rfl, hr, hb⟩
    obtain ⟨rfl, rfl⟩ := HR.out.uniq hr
    have HP5 := Lib.hid (HP4.out.grow hb)
    clear hr hb
    have HAl : Hid (∀ V, Calls Tryz.prog 61 #[.float .f64 r, .float .f64 r] V fun en w' => en = .returned (.bool true) ∧ V = w') := by
      intro V
      have h := alike_any r r V
      rw [decide_eq_true rfl] at h
      exact h
    go_wp2_with fail
    refine (HAl.out w5).mono ?_; rintro en w6 ⟨rfl, rfl⟩
    go_wp2_with fail
    go_ret
    exact ⟨rfl, L, aL, cL, C, aC, cC, aD, cD, HP5.out, hL, Nat.le_refl _, by omega, fun h => h⟩
  have hb5 : (kind == 5) = false := by rw [beq_eq_false_iff_ne]; exact q5
  have HAs : Hid (∀ V, V = w3 → Calls Tryz.prog 17 #[.pointer (some ⟨gp, 0, none⟩), .agg #[.pointer (some ⟨e.gb, 0, none⟩), .pointer (some ⟨e.gr, 0, none⟩)]] V (AskQ q w gp L aL cL C C)) := by
    rintro V rfl
    exact asked_any HTw.out HI.out (by omega) (by omega) HP3.out
  go_wp2_with fail
  refine (HAs.out w3 rfl).mono ?_; rintro en w4 ⟨rfl, x', aC', cC', aD', cD', hP⟩
  have HP4 := Lib.hid hP
  clear hP
  go_wp2_with fail
  go_ret
  exact ⟨rfl, L, aL, cL, C ++ [x'], aC', cC', aD', cD', HP4.out, hL, Nat.le_refl _, by simp, fun h => h⟩
end Go.Proofs.YteahdgbokjbgcaaGreatDoor
namespace Go.Proofs.YteahdgbokjbgcaaGreatDoor
open Go.RowKit
set_option maxRecDepth 10000
set_option linter.unusedVariables false
set_option linter.unusedSimpArgs false

/-- a step of a script, as an argument -/
structure Oq where
  kind : Int
  on : Int
  wth : Int
  n : Int
  x : Nat
def opsV : List Oq → List Value
  | [] => []
  | o :: l => .int .i64 o.kind :: .int .i64 o.on :: .int .i64 o.wth :: .int .i64 o.n :: .float .f64 o.x :: opsV l
theorem opsV_get : ∀ (l : List Oq) (i : Nat) (o : Oq), l[i]? = some o → (opsV l)[i * 5]? = some (.int .i64 o.kind) ∧ (opsV l)[i * 5 + 1]? = some (.int .i64 o.on) ∧ (opsV l)[i * 5 + 2]? = some (.int .i64 o.wth) ∧ (opsV l)[i * 5 + 3]? = some (.int .i64 o.n) ∧ (opsV l)[i * 5 + 4]? = some (.float .f64 o.x)
  | [], i, e, h => by simp at h
  | q :: l, 0, e, h => by
    simp at h; subst h
    exact ⟨rfl, rfl, rfl, rfl, rfl⟩
  | q :: l, i + 1, e, h => by
    have ih := opsV_get l i e (by simpa using h)
    have e1 : (i + 1) * 5 = i * 5 + 1 + 1 + 1 + 1 + 1 := by omega
    rw [e1]
    simp only [opsV, List.getElem?_cons_succ]
    exact ih
structure Oq.Ok (o : Oq) : Prop where
  x : o.x < 18446744073709551616
  o1 : -9223372036854775808 ≤ o.on
  o2 : o.on ≤ 9223372036854775807
  w1 : -9223372036854775808 ≤ o.wth
  w2 : o.wth ≤ 9223372036854775807
def PlyS (q : Prop) (w W : World) (gp n : Nat) : Prop := ∃ L aL cL C aC cC aD cD, Ply q w W gp L aL cL C aC cC C aD cD ∧ L.length ≤ 16 ∧ 0 < L.length ∧ C.length ≤ n
theorem Ply.new (q : Prop) {w W W1 : World} (hb : Below w.heap.size w W) (e : W1 = W.alloc (.cells #[.slice none 0 0, .slice none 0 0, .slice none 0 0] 28)) : Ply q w W1 W.heap.size [] none 0 [] none 0 [] none 0 := by
  obtain ⟨k, b, s⟩ := new_of e rfl
  exact ⟨k, hb.size, VOwn.none _ _ _ _, VOwn.none _ _ _ _, VOwn.none _ _ _ _, (fun _ _ h => nomatch h), (fun _ h => by simp at h), (fun i j e e' _ h => by simp at h), (fun _ _ h => by simp at h), (fun _ _ h => by simp at h), (fun _ i j x y u v _ h => by simp at h), hb.trans (b.mono hb.size)⟩
theorem steps_any {q : Prop} {w W : World} {gp m : Nat} (o : Oq) (ho : o.Ok) (hT : Tab w) (hm : m ≤ 5000) (h : PlyS q w W gp m) :
    Calls Tryz.prog 16 #[.pointer (some ⟨gp, 0, none⟩), .agg #[.int .i64 o.kind, .int .i64 o.on, .int .i64 o.wth, .int .i64 o.n, .float .f64 o.x]] W fun en w' => en = .returned (.bool true) ∧ PlyS q w w' gp (m + 1) := by
  obtain ⟨L, aL, cL, C, aC, cC, aD, cD, h1, h2, h3, h4⟩ := h
  by_cases hk : o.kind = 1
  · have := stepnew_any o.on o.wth o.n o.x h2 h1
    rw [← hk] at this
    refine this.mono ?_
    rintro en w' ⟨rfl, L', aL', cL', C', aC', cC', aD', cD', k1, k2, k3, k4, k5⟩
    exact ⟨rfl, L', aL', cL', C', aC', cC', aD', cD', k1, k2, by omega, by omega⟩
  · refine (stepon_any o.kind o.on o.wth o.n o.x hk ho.x ho.o1 ho.o2 ho.w1 ho.w2 h3 h2 (by omega) hT h1).mono ?_
    rintro en w' ⟨rfl, L', aL', cL', C', aC', cC', aD', cD', k1, k2, k3, k4, k5⟩
    exact ⟨rfl, L', aL', cL', C', aC', cC', aD', cD', k1, k2, by omega, by omega⟩
/-- the words that came are their owner's now -/
theorem Ply.lost {q : Prop} {w W W' : World} {gp : Nat} {L : List Bth} {aL aC aD : Option Addr} {cL cC cD : Nat} {C E : List Cm} (h : Ply q w W gp L aL cL C aC cC E aD cD) (hb : Below w.heap.size w W')
    (hk : ∀ (j : Nat) (cs : Array Value) (T : TypeId) (fr : Nat × Nat), W.heap[j]? = some (.cells cs T fr) → T ≠ 118 → W'.heap[j]? = some (.cells cs T fr)) : Ply False w W' gp L aL cL C aC cC E aD cD := by
  have vk : ∀ {T : TypeId} {sz base c : Nat} {a : Option Addr} {l : List Value}, VOwn W T sz base a c l → T ≠ 118 → VOwn W' T sz base a c l := by
    intro T sz base c a l k hT
    rcases k with k | ⟨b, p, t, j1, j2, j3, j4, j5⟩
    · exact .inl k
    · exact .inr ⟨b, p, t, j1, j2, j3, j4, hk _ _ _ _ j5 hT⟩
  refine ⟨hk _ _ _ _ h.row (by decide), h.gp, vk h.ol (by decide), vk h.oc (by decide), vk h.od (by decide), h.cd, fun e he => ⟨?_, (h.en e he).2⟩, h.dj, (fun k => k.elim), (fun k => k.elim), (fun k => k.elim), hb⟩
  obtain ⟨k1, _⟩ := h.en e he
  obtain ⟨⟨c1, h1⟩, h2⟩ := k1.rb.type
  refine ⟨hk _ _ _ _ k1.bin (by decide), k1.rb.kept ((hk _ _ _ _ h1 (by decide)).trans h1.symm) fun ad had => ?_, k1.f1, k1.f2⟩
  obtain ⟨c2, h3⟩ := h2 ad had
  exact (hk _ _ _ _ h3 (by decide)).trans h3.symm
theorem Own.type {W : World} {T : TypeId} {base c : Nat} {a : Option Addr} {l : List Nat} (h : Own W T base a c l) (ad : Addr) (had : a = some ad) : ∃ cs, W.heap[ad.block]? = some (.cells cs T (0, 0)) := by
  rcases h with ⟨h1, _⟩ | ⟨b, t, h1, _, _, _, h5⟩
  · rw [h1] at had; cases had
  · rw [h1] at had; cases had
    exact ⟨_, h5⟩
def svC (x : Cm) : Sv := (x.a, (words x.d.m).length, x.c)
set_option maxHeartbeats 32000000 in
theorem binsplays_any (fold : Int) (a : Option Addr) (c : Nat) (ops : List Oq) (w : World) (hT : Tab w) (hr : VRd w a (opsV ops)) (hok : ∀ o ∈ ops, o.Ok) :
    Calls Tryz.prog 3 #[.int .i64 fold, .slice a ops.length c] w fun en w' => en = .returned (.bool true) ∧ Below w.heap.size w w' := by
  have HAw := Lib.hid (awake09_any w hT)
  have HR := Lib.hid (fun W (hw : Below w.heap.size w W) => hr.grow hw)
  have HOk := Lib.hid hok
  have HT := Lib.hid hT
  clear hT hr hok
  go_enter Tryz.func3, Tryz.ntmps3
  go_wp2_with fail
  refine HAw.out.mono ?_; rintro en w1 ⟨rfl, hb⟩
  obtain ⟨w2, e2⟩ : ∃ V, V = w1.alloc (.cells #[.slice none 0 0, .slice none 0 0, .slice none 0 0] 28) := ⟨_, rfl⟩
  have hP := Ply.new True hb e2
  obtain ⟨gp, hgp⟩ : ∃ g, g = w1.heap.size := ⟨_, rfl⟩
  rw [← hgp] at hP
  have HP2 := Lib.hid hP
  have E2 := Lib.hid e2
  have Gp := Lib.hid hgp
  clear hb hP e2 hgp
  have HS1 := Lib.hid (stepnew_any 0 0 fold 0 (by decide) HP2.out)
  unfold opV at HS1
  go_upto_region 3 with fail
  rw [← E2.out, ← Gp.out]
  clear E2 Gp
  go_wp2_with fail
  refine HS1.out.mono ?_; rintro en w3 ⟨rfl, L, aL, cL, C, aC, cC, aD, cD, hP, k2, k3, k4, k5⟩
  have HP3 := Lib.hid hP
  obtain ⟨x0, _, _, _, _, _⟩ := hP.cells
  have hC1 : C.length ≤ 1 := by simpa using k4
  clear hP k3 k4 k5
  go_upto_if 35 with fail
  go_cut [6] (fun t wx => t = .pointer (some ⟨gp, 0, none⟩) ∧ PlyS True w wx gp 2)
  case first =>
    by_cases hz : L.length = 0
    · have HS2 := Lib.hid (stepnew_any 0 0 2 0 k2 HP3.out)
      unfold opV at HS2
      have HZ := Lib.hid hz
      have hzz : ((L.length : Int) == 0) = true := by rw [hz]; rfl
      clear hz
      go_wp2_with fail
      refine HS2.out.mono ?_; rintro en w4 ⟨rfl, L', aL', cL', C', aC', cC', aD', cD', hP, j2, j3, j4, j5⟩
      have HF : Hid (PlyS True w w4 gp 2) := ⟨L', aL', cL', C', aC', cC', aD', cD', hP, j2, j5 ⟨by decide, by decide, by rw [HZ.out]; decide⟩, by omega⟩
      clear hP j2 j3 j4 j5
      go_wp2_with fail
      go_meet
      case rel => exact ⟨rfl, HF.out⟩
    · have hzz : ((L.length : Int) == 0) = false := by rw [beq_eq_false_iff_ne]; omega
      have HF : Hid (PlyS True w w3 gp 2) := ⟨L, aL, cL, C, aC, cC, aD, cD, HP3.out, k2, by omega, by omega⟩
      clear hz
      go_wp2_with fail
      go_meet
      case rel => exact ⟨rfl, HF.out⟩
  obtain ⟨rfl, hS⟩ := hcut
  obtain ⟨w4, rfl⟩ : ∃ V, V = wc := ⟨_, rfl⟩
  have HS4 := Lib.hid hS
  clear hS HP3 x0 hC1 k2
  go_wp2_with fail
  go_loopw [8, 9] (fun ii ee wr => ∃ k : Nat, k ≤ 2000 ∧ k ≤ ops.length ∧ ii = .int .i64 k ∧ Hid (PlyS True w wr gp (k + 2))) (fun ii _ _ => 2000 - (intOf ii).toNat)
  case atStart => exact ⟨0, by decide, Nat.zero_le _, rfl, HS4.out⟩
  case round =>
    obtain ⟨k, hk, hk2, rfl, hH⟩ := hrel
    have HH := Lib.hid hH.out
    have hbw : Below w.heap.size w wr := by
      obtain ⟨L, aL, cL, C, aC, cC, aD, cD, h1, _⟩ := hH.out
      exact h1.bel
    by_cases hq : k < ops.length ∧ k < 2000
    · obtain ⟨hq1, hq2⟩ := hq
      obtain ⟨o, ho⟩ : ∃ o, ops[k]? = some o := ⟨ops[k], List.getElem?_eq_getElem hq1⟩
      obtain ⟨g0, g1, g2, g3, g4⟩ := opsV_get ops k o ho
      obtain ⟨b, off, rfl, z0⟩ := HR.out wr hbw _ _ g0
      obtain ⟨_, _, e', z1⟩ := HR.out wr hbw _ _ g1
      cases e'
      obtain ⟨_, _, e', z2⟩ := HR.out wr hbw _ _ g2
      cases e'
      obtain ⟨_, _, e', z3⟩ := HR.out wr hbw _ _ g3
      cases e'
      obtain ⟨_, _, e', z4⟩ := HR.out wr hbw _ _ g4
      cases e'
      rw [← Nat.add_assoc] at z1 z2 z3 z4
      have HS := Lib.hid (steps_any o (HOk.out o (List.mem_of_getElem? ho)) HT.out (by omega) hH.out)
      have n1 : (0 : Int) ≤ (k : Int) := by omega
      have n2 : (k : Int) < (ops.length : Int) := by omega
      clear ho g0 g1 g2 g3 g4 hH hbw
      go_wp2_with fail
      refine HS.out.mono ?_; rintro en w5 ⟨rfl, hS⟩
      have HS5 := Lib.hid hS
      clear hS
      go_wp2_with fail
      go_roundw
      case rel => exact ⟨k + 1, by omega, by omega, by go_num, by have := HS5.out; rwa [show k + 2 + 1 = k + 1 + 2 by omega] at this⟩
      case measure => simp [intOf]; omega
    · have hor : (k = ops.length) ∨ (k < ops.length ∧ k = 2000) := by omega
      have HF : Hid (PlyS True w wr gp 2002) := by
        obtain ⟨L, aL, cL, C, aC, cC, aD, cD, h1, h2, h3, h4⟩ := hH.out
        exact ⟨L, aL, cL, C, aC, cC, aD, cD, h1, h2, h3, by omega⟩
      clear hH hbw hq hk hk2
      rcases hor with rfl | ⟨hq, rfl⟩
      all_goals
        go_wp2_with fail
        go_loopw [10, 11] (fun ii ee wr => ∃ k : Nat, k ≤ 16 ∧ ii = .int .i64 k ∧ Hid (PlyS True w wr gp (2002 + k))) (fun ii _ _ => 16 - (intOf ii).toNat)
        case atStart => exact ⟨0, by decide, rfl, HF.out⟩
        case round =>
          obtain ⟨m, hm, rfl, hH⟩ := hrel
          obtain ⟨L, aL, cL, C, aC, cC, aD, cD, h1, h2, h3, h4⟩ := hH.out
          obtain ⟨x0, _, _, _, _, _⟩ := h1.cells
          by_cases hq : m < L.length
          · obtain ⟨e, he⟩ : ∃ e, L[m]? = some e := ⟨L[m], List.getElem?_eq_getElem hq⟩
            obtain ⟨g1, g2⟩ := bothV_get L m e he
            obtain ⟨b, o, rfl, z0⟩ := h1.ol.rd _ _ g1
            obtain ⟨b', o', e', z1⟩ := h1.ol.rd _ _ g2
            cases e'
            rw [← Nat.add_assoc] at z1
            have HA := Lib.hid (asked_any HT.out he (by omega) (by omega) h1)
            have n1 : (0 : Int) ≤ (m : Int) := by omega
            have n2 : (m : Int) < (L.length : Int) := by omega
            have HLL := Lib.hid (And.intro h2 (And.intro h3 h4))
            clear hH h1 h2 h3 h4 he g1 g2
            go_wp2_with fail
            refine HA.out.mono ?_; rintro en w5 ⟨rfl, x, aC', cC', aD', cD', hP⟩
            have HS5 : Hid (PlyS True w w5 gp (2002 + (m + 1))) := ⟨L, _, cL, C ++ [x], aC', cC', aD', cD', hP, HLL.out.1, HLL.out.2.1, by have := HLL.out.2.2; simp; omega⟩
            have hm16 : m + 1 ≤ 16 := by have := HLL.out.1; omega
            clear hP
            go_wp2_with fail
            go_roundw
            case rel => exact ⟨m + 1, hm16, by go_num, HS5.out⟩
            case measure => simp [intOf]; omega
          · have HP := Lib.hid (fun V (hV : Below wr.heap.size wr V) => h1.grow hV)
            have HL := Lib.hid (And.intro h2 h3)
            have hC : C.length ≤ 2018 := by omega
            obtain ⟨wK, rfl⟩ : ∃ V, V = wr := ⟨_, rfl⟩
            obtain ⟨bK, hbK⟩ : ∃ g, g = wK.heap.size := ⟨_, rfl⟩
            obtain ⟨w5, e5⟩ : ∃ V, V = wK.alloc (.cells #[.slice none 0 0] 41) := ⟨_, rfl⟩
            obtain ⟨k5, b5, s5⟩ := new_of e5 hbK.symm
            have HB5 : Hid (BookAt w5 bK bK (.slice none 0 0) 0 ((C.take 0).map fun x => Sv.val (svC x)) ∧ Below bK wK w5) := ⟨⟨k5, rfl, .inl ⟨rfl, rfl⟩⟩, b5⟩
            have E5 := Lib.hid e5
            have HbK := Lib.hid hbK
            clear hH h1 h2 h3 h4 e5 k5 b5 s5 hbK hm
            go_upto_region 21 with fail
            rw [← E5.out, ← HbK.out]
            clear E5 x0
            go_wp2_with fail
            go_loopw [13, 14] (fun ii ee wr => ∃ (n : Nat) (v : Value), n ≤ C.length ∧ ii = .int .i64 n ∧ Hid (BookAt wr bK bK v n ((C.take n).map fun x => Sv.val (svC x)) ∧ Below bK wK wr)) (fun ii _ _ => C.length - (intOf ii).toNat)
            case atStart => exact ⟨0, .slice none 0 0, Nat.zero_le _, rfl, HB5.out⟩
            case round =>
              obtain ⟨n, v, hn, rfl, hH⟩ := hrel
              have hPl := HP.out wr (by rw [← HbK.out]; exact hH.out.2)
              obtain ⟨x0, x1, x2, _, _, _⟩ := hPl.cells
              by_cases hq2 : n < C.length
              · obtain ⟨x, hx⟩ : ∃ x, C[n]? = some x := ⟨C[n], List.getElem?_eq_getElem hq2⟩
                obtain ⟨g0, g1, g2⟩ := dyC_get C n x hx
                obtain ⟨b, o, hab, z0⟩ := hPl.oc.rd _ _ g0
                obtain ⟨b', o', e', z1⟩ := hPl.oc.rd _ _ g1
                rw [hab] at e'; cases e'
                obtain ⟨b', o', e', z2⟩ := hPl.oc.rd _ _ g2
                rw [hab] at e'; cases e'
                obtain ⟨f0, f1, f2⟩ := dyW_get C n x hx
                obtain ⟨b2, o2, hab2, y0⟩ := hPl.od.rd _ _ f0
                obtain ⟨b', o', e', y1⟩ := hPl.od.rd _ _ f1
                rw [hab2] at e'; cases e'
                obtain ⟨b', o', e', y2⟩ := hPl.od.rd _ _ f2
                rw [hab2] at e'; cases e'
                rw [← Nat.add_assoc] at z1 z2 y1 y2
                rw [hab] at x1
                rw [hab2] at x2
                have HCl : Hid (∀ V, Below bK wK V → V.cell? ⟨gp, 1, none⟩ = some (.slice (some ⟨b, o, none⟩) C.length cC) ∧ V.cell? ⟨gp, 2, none⟩ = some (.slice (some ⟨b2, o2, none⟩) C.length cD) ∧ V.cell? ⟨b, o + n * 3, none⟩ = some (.bool x.d.neg) ∧ V.cell? ⟨b, o + n * 3 + 1, none⟩ = some (.slice x.a (words x.d.m).length x.c) ∧ V.cell? ⟨b, o + n * 3 + 2, none⟩ = some (.int .i64 x.d.exp) ∧ V.cell? ⟨b2, o2 + n * 3, none⟩ = some (.bool x.d.neg) ∧ V.cell? ⟨b2, o2 + n * 3 + 1, none⟩ = some (.slice x.a' (words x.d.m).length x.c') ∧ V.cell? ⟨b2, o2 + n * 3 + 2, none⟩ = some (.int .i64 x.d.exp)) := by
                  intro V hV
                  have hPv := HP.out V (by rw [← HbK.out]; exact hV)
                  obtain ⟨_, u1, u2, _, _, _⟩ := hPv.cells
                  rw [hab] at u1
                  rw [hab2] at u2
                  obtain ⟨_, _, e0, v0⟩ := hPv.oc.rd _ _ g0
                  rw [hab] at e0; cases e0
                  obtain ⟨_, _, e0, v1⟩ := hPv.oc.rd _ _ g1
                  rw [hab] at e0; cases e0
                  obtain ⟨_, _, e0, v2⟩ := hPv.oc.rd _ _ g2
                  rw [hab] at e0; cases e0
                  obtain ⟨_, _, e0, v3⟩ := hPv.od.rd _ _ f0
                  rw [hab2] at e0; cases e0
                  obtain ⟨_, _, e0, v4⟩ := hPv.od.rd _ _ f1
                  rw [hab2] at e0; cases e0
                  obtain ⟨_, _, e0, v5⟩ := hPv.od.rd _ _ f2
                  rw [hab2] at e0; cases e0
                  rw [← Nat.add_assoc] at v1 v2 v4 v5
                  exact ⟨u1, u2, v0, v1, v2, v3, v4, v5⟩
                have hmx := List.mem_of_getElem? hx
                have HSm : Hid (Calls Tryz.prog 18 #[.agg #[.bool x.d.neg, .slice x.a (words x.d.m).length x.c, .int .i64 x.d.exp], .agg #[.bool x.d.neg, .slice x.a' (words x.d.m).length x.c', .int .i64 x.d.exp]] wr.drew fun en w' => en = .returned (.bool true) ∧ Below wr.heap.size wr.drew w') :=
                  same_any (argOf x.d x.a x.c) (argOf x.d x.a' x.c') wr.drew ((hPl.drew.cm trivial x hmx).1.arg (hPl.drew.cm trivial x hmx).2) ((hPl.drew.cm' trivial x hmx).1.arg (hPl.drew.cm' trivial x hmx).2) ⟨rfl, rfl, rfl⟩
                have HH := Lib.hid hH.out
                have n1 : (0 : Int) ≤ (n : Int) := by omega
                have n2 : (n : Int) < (C.length : Int) := by omega
                have HXn := Lib.hid hx
                clear hPl x0 hx g0 g1 g2 f0 f1 f2 hab hab2 hH hmx
                go_wp2_with fail
                go_region_held3 (fun V => V.cell? ⟨gp, 1, none⟩ = some (.slice (some ⟨b, o, none⟩) C.length cC) ∧ V.cell? ⟨gp, 2, none⟩ = some (.slice (some ⟨b2, o2, none⟩) C.length cD) ∧ V.cell? ⟨b, o + n * 3, none⟩ = some (.bool x.d.neg) ∧ V.cell? ⟨b, o + n * 3 + 1, none⟩ = some (.slice x.a (words x.d.m).length x.c) ∧ V.cell? ⟨b, o + n * 3 + 2, none⟩ = some (.int .i64 x.d.exp) ∧ V.cell? ⟨b2, o2 + n * 3, none⟩ = some (.bool x.d.neg) ∧ V.cell? ⟨b2, o2 + n * 3 + 1, none⟩ = some (.slice x.a' (words x.d.m).length x.c') ∧ V.cell? ⟨b2, o2 + n * 3 + 2, none⟩ = some (.int .i64 x.d.exp)) (go_keep) (first
                  | (go_at_call 18; (with_reducible refine HSm.out.mono ?_); rintro en w6 ⟨rfl, hb⟩; have HB6 : Hid (Below wr.heap.size wr w6) := (Below.refl wr.heap.size wr).drew.trans hb; have HK6 : Hid (Below bK wK w6) := HH.out.2.trans (HB6.out.mono (by have := HH.out.2.size; have := HbK.out; omega)); obtain ⟨_, _, _, _, _, _, _, _⟩ := HCl.out w6 HK6.out; clear hb))
                all_goals
                  have HTk := Lib.hid (take_any bK bK v n _ x.a (words x.d.m).length x.c w6 (by omega) (by have := HK6.out.size; have := HbK.out; omega) (HH.out.1.grow HB6.out))
                  have HVB : Hid (∀ j, j < bK → j ≠ bK ∧ some j ≠ v.ownBlock) := by
                    intro j hj
                    refine ⟨by omega, ?_⟩
                    rcases HH.out.1.2.2 with ⟨rfl, _⟩ | ⟨g', cap, cur, rfl, h3, _⟩
                    · simp [Value.ownBlock]
                    · simp [Value.ownBlock]; omega
                  go_wp2_with fail
                  refine HTk.out.mono ?_; rintro en w7 ⟨rfl, v', hbk3, hkeep, h3os, h3tape, h3out, h3size⟩
                  have HK7 : Hid (Below bK wK w7) := ⟨h3os.trans HK6.out.os, h3tape.trans HK6.out.tape, h3out.trans HK6.out.output, Nat.le_trans HK6.out.size h3size, fun j hj => (hkeep j (Nat.lt_of_lt_of_le hj (by have := HK6.out.size; have := HbK.out; omega)) (HVB.out j hj).1 (HVB.out j hj).2).trans (HK6.out.block j hj)⟩
                  have HB7 : Hid (BookAt w7 bK bK v' (n + 1) ((C.take (n + 1)).map fun x => Sv.val (svC x))) := by
                    show BookAt _ _ _ _ _ _
                    rw [take_succ_get HXn.out, List.map_append]; exact hbk3
                  clear hbk3 hkeep h3os h3tape h3out h3size
                  go_wp2_with fail
                  go_roundw
                  case rel => exact ⟨n + 1, v', by omega, by go_num, HB7.out, HK7.out⟩
                  case measure => simp [intOf]; omega
              · obtain rfl : n = C.length := by omega
                have hbk := hH.out.1
                rw [List.take_length] at hbk
                have hsz : bK ≤ wr.heap.size := by have := hH.out.2.size; have := HbK.out; omega
                have hwb : w.heap.size ≤ bK := by
                  have := (HP.out wK (Below.refl _ _)).bel.size
                  rw [HbK.out]; exact this
                have hOw := owned_any (fun j => j < wr.heap.size ∧ ∀ x ∈ C, ∀ ad, x.a = some ad → ad.block ≠ j) w.heap.size bK v (C.map svC) wr (fun j hj => hj.1) (by
                  intro e he g hg hK
                  obtain ⟨x, hx, rfl⟩ := List.mem_map.1 he
                  exact hK.2 x hx g hg rfl) (by rw [List.length_map]; omega) (by omega) (by
                  rw [List.length_map, List.map_map]
                  exact hbk.mono hwb) (by
                  intro i j e f g h hij he hf hg hh
                  rw [List.getElem?_map] at he hf
                  obtain ⟨x, hx, rfl⟩ := Option.map_eq_some_iff.1 he
                  obtain ⟨y, hy, rfl⟩ := Option.map_eq_some_iff.1 hf
                  exact hPl.ap trivial i j x y g h hij hx hy hg hh) (by
                  intro j e he
                  rw [List.getElem?_map] at he
                  obtain ⟨x, hx, rfl⟩ := Option.map_eq_some_iff.1 he
                  have h9 := Ent.start (1000 + j) (hPl.cm trivial x (List.mem_of_getElem? hx)).1
                  have h8 : doneTo 0 0 j (svC x).2.1 = 0 := by unfold doneTo; rw [if_neg (by omega)]; split <;> rfl
                  rw [h8]
                  exact h9) (by
                  intro j e he
                  rw [List.getElem?_map] at he
                  obtain ⟨x, hx, rfl⟩ := Option.map_eq_some_iff.1 he
                  have h9 := (hPl.cm trivial x (List.mem_of_getElem? hx)).2.len
                  show (words x.d.m).length ≤ 1000000
                  omega)
                have HOw := Lib.hid hOw
                have HPw := Lib.hid hPl
                obtain ⟨e, he⟩ : ∃ e, L[0]? = some e := ⟨L[0]'HL.out.2, List.getElem?_eq_getElem HL.out.2⟩
                have HEn := Lib.hid he
                clear hOw hPl hbk hsz hwb hH x0 x2 he
                go_wp2_with fail
                refine HOw.out.mono ?_; rintro en w8 ⟨rfl, hbk⟩
                have HP8 := Lib.hid (HPw.out.lost (HPw.out.bel.trans hbk.b) (fun j cs T fr k hT => (hbk.k j ⟨(Array.getElem?_eq_some_iff.1 k).1, fun x hx ad had => by
                  obtain ⟨cs', h9⟩ := (HPw.out.cm trivial x hx).1.type ad had
                  exact fun e9 => row_apart k h9 hT e9.symm⟩).trans k))
                obtain ⟨x0, _, _, _, _, _⟩ := HP8.out.cells
                obtain ⟨g1, g2⟩ := bothV_get L 0 e HEn.out
                obtain ⟨b, o, hab, z0⟩ := HP8.out.ol.rd _ _ g1
                obtain ⟨b', o', e', z1⟩ := HP8.out.ol.rd _ _ g2
                rw [hab] at e'; cases e'
                rw [hab] at x0
                simp only [Nat.zero_mul, Nat.zero_add, Nat.add_zero] at z0 z1
                have HAs := Lib.hid (asked_any HT.out HEn.out (by omega) (by omega) HP8.out)
                have n2 : (0 : Int) < (L.length : Int) := by have := HL.out.2; omega
                have n3 : 0 < L.length := HL.out.2
                clear hbk g1 g2 hab
                go_wp2_with fail
                refine HAs.out.mono ?_; rintro en w9 ⟨rfl, x', aC', cC', aD', cD', hP⟩
                have HBe := Lib.hid hP.bel
                clear hP
                go_wp2_with fail
                go_ret
                exact ⟨rfl, HBe.out⟩
end Go.Proofs.YteahdgbokjbgcaaGreatDoor

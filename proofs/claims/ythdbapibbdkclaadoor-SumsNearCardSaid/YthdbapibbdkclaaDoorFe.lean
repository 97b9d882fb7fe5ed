/- Contracts: policy.May of whatever policy, sums.Exact, sums.Halving. No statement of the seat is proved here. -/
import Derived.Test.YthdbapibbdkclaaDoorProg
import Derived.Test.YthdbapibbdkclaaDoorFd
import Derived.Test.YthdbapibbdkclaaDoorVa
namespace Go.Proofs.YthdbapibbdkclaaDoor
open Go.RowKit
set_option linter.unusedVariables false
set_option linter.unusedSimpArgs false

def okB (n : Int) : Bool := decide (0 ≤ n) && decide (n ≤ 2)
set_option maxRecDepth 10000 in
set_option maxHeartbeats 1000000 in
theorem choice_all (n : Int) (w : World) : Calls Tryd.prog 137 #[.int .i64 n] w fun en w' => en = .returned (.bool (okB n)) ∧ w = w' := by
  unfold okB
  by_cases h1 : 0 ≤ n
  · by_cases h2 : n ≤ 2
    · rw [decide_eq_true h1, decide_eq_true h2]
      go_enter Tryd.func137, Tryd.ntmps137
      go_wp2_with fail
      go_ret
      exact ⟨rfl, rfl⟩
    · rw [decide_eq_true h1, decide_eq_false h2]
      go_enter Tryd.func137, Tryd.ntmps137
      go_wp2_with fail
      go_ret
      exact ⟨rfl, rfl⟩
  · rw [decide_eq_false h1]
    go_enter Tryd.func137, Tryd.ntmps137
    go_wp2_with fail
    go_ret
    exact ⟨rfl, rfl⟩
def okP (pn pi : Int) : Bool := okB pn && okB pi
set_option maxRecDepth 10000 in
set_option maxHeartbeats 2000000 in
theorem may_all (pn pi : Int) (w : World) : Calls Tryd.prog 91 #[pol pn pi] w fun en w' => en = .returned (.bool (okP pn pi)) ∧ Below w.heap.size w w' := by
  have HB : Hid (Below w.heap.size w (w.alloc (.cells #[.int .i64 pn, .int .i64 pi] 59))) := (Below.refl _ _).alloc (Nat.le_refl _) _
  have h1 := fun W => choice_all pn W
  have h2 := fun W => choice_all pi W
  unfold pol okP
  have H1 := Lib.hid h1; have H2 := Lib.hid h2
  clear h1 h2
  cases hp : okB pn with
  | true =>
    rw [hp] at H1
    clear hp
    generalize okB pi = b at *
    go_enter Tryd.func91, Tryd.ntmps91
    go_wp2_with (first
      | (go_at_call 137; refine (H1.out _).mono ?_; rintro e w' ⟨rfl, rfl⟩)
      | (go_at_call 137; refine (H2.out _).mono ?_; rintro e w' ⟨rfl, rfl⟩))
    go_ret
    exact ⟨by simp, HB.out⟩
  | false =>
    rw [hp] at H1
    clear hp
    go_enter Tryd.func91, Tryd.ntmps91
    go_wp2_with (go_at_call 137; refine (H1.out _).mono ?_; rintro e w' ⟨rfl, rfl⟩)
    go_ret
    exact ⟨rfl, HB.out⟩
theorem okP_iff (pn pi : Int) : okP pn pi = true ↔ (0 ≤ pn ∧ pn ≤ 2) ∧ 0 ≤ pi ∧ pi ≤ 2 := by unfold okP okB; simp

/-- all that a list adds -/
def sumL (l : List Nat) : Ac := l.foldl (fun A b => A.sum (numT b)) Ac.zero
theorem sumL_snoc (l : List Nat) {k : Nat} (hk : k < l.length) : sumL (l.take (k + 1)) = (sumL (l.take k)).sum (numT (l.getD k 0)) := by
  unfold sumL
  rw [take_succ_get (x := l.getD k 0) (by rw [List.getD_eq_getElem?_getD, List.getElem?_eq_getElem hk]; rfl), List.foldl_append]; rfl
def badM (mode pn pi : Int) : Prop := mode < 0 ∨ 4 < mode ∨ okP pn pi = false
def ExR (l : List Nat) (mode pn pi : Int) (r : Nat) (er : Int) : Prop :=
  (badM mode pn pi ∧ r = 0 ∧ er = 1) ∨ (¬ badM mode pn pi ∧ 65536 < l.length ∧ r = 0 ∧ er = 2) ∨ (¬ badM mode pn pi ∧ l.length ≤ 65536 ∧ RoundR (sumL l) mode pn pi r er)
def ExQ (l : List Nat) (mode pn pi : Int) (w : World) (en : Ending) (w' : World) : Prop := ∃ (r : Nat) (er : Int), en = .returned (.tuple #[.float .f64 r, .int .i64 er]) ∧ ExR l mode pn pi r er ∧ Below w.heap.size w w'

set_option maxRecDepth 10000 in
set_option maxHeartbeats 4000000 in
theorem sexact_any (a : Option Addr) (c : Nat) (l : List Nat) (mode pn pi : Int) (w : World) (hl : FSl w a c l) (hT : Tab w) :
    Calls Tryd.prog 41 #[.slice a l.length c, .int .i64 mode, pol pn pi] w (ExQ l mode pn pi w) := by
  have HWf := Lib.hid (w64_getD hl.wf)
  obtain ⟨w1, e1⟩ : ∃ W, W = w.alloc (.cells #[.int .i64 pn, .int .i64 pi] 59) := ⟨_, rfl⟩
  obtain ⟨k1, b1, s1⟩ := new_of e1 rfl
  have HL := Lib.hid (fun W (hw : Below w1.heap.size w1 W) => hl.rd.grow (b1.trans (hw.mono b1.size)))
  have HT := Lib.hid (fun W (hw : Below w1.heap.size w1 W) => hT.grow (b1.trans (hw.mono b1.size)))
  have HK := Lib.hid (fun W (hw : Below w1.heap.size w1 W) => pol_cells (blk_below k1 hw (by omega)))
  obtain ⟨p0, p1⟩ := pol_cells k1
  have HM := Lib.hid (fun W => may_all pn pi W)
  have HBad : Hid (badM mode pn pi → ∀ W, Below w1.heap.size w1 W → ExQ l mode pn pi w (.returned (.tuple #[.float .f64 0, .int .i64 1])) W) := fun h W hW => ⟨0, 1, rfl, .inl ⟨h, rfl, rfl⟩, b1.trans (hW.mono b1.size)⟩
  have HB1 := Lib.hid b1
  have E1 := Lib.hid e1
  have HS1 := Lib.hid s1
  unfold pol at HM ⊢
  clear hl hT k1 b1 e1 s1
  go_enter Tryd.func41, Tryd.ntmps41
  go_upto_region 1 with fail
  rw [← E1.out]
  by_cases m1 : mode < 0
  · go_wp2_with fail
    go_ret2
    exact HBad.out (.inl m1) w1 (Below.refl _ _)
  by_cases m2 : 4 < mode
  · go_wp2_with fail
    go_ret2
    exact HBad.out (.inr (.inl m2)) w1 (Below.refl _ _)
  cases hp : okP pn pi with
  | false =>
    rw [hp] at HM
    have HPP := Lib.hid hp
    clear hp
    go_wp2_with fail
    refine (HM.out w1).mono ?_; rintro en w2 ⟨rfl, hb⟩
    have HB2 := Lib.hid hb
    clear hb
    go_wp2_with fail
    go_ret2
    exact HBad.out (.inr (.inr HPP.out)) w2 HB2.out
  | true =>
    rw [hp] at HM
    have HPP := Lib.hid ((okP_iff pn pi).1 hp)
    have HNb : Hid (¬ badM mode pn pi) := by
      rintro (h | h | h)
      · exact m1 h
      · exact m2 h
      · rw [hp] at h; cases h
    clear hp
    go_wp2_with fail
    refine (HM.out w1).mono ?_; rintro en w2 ⟨rfl, hb⟩
    have HB2 := Lib.hid hb
    clear hb p0 p1
    by_cases hlen : 65536 < l.length
    · go_wp2_with fail
      go_ret2
      exact ⟨0, 2, rfl, .inr (.inl ⟨HNb.out, hlen, rfl, rfl⟩), HB1.out.trans (HB2.out.mono HB1.out.size)⟩
    go_wp2_with fail
    refine (new_any w2).mono ?_; rintro en w3 ⟨rfl, hA, hb⟩
    obtain ⟨g, hg⟩ : ∃ g, g = w2.heap.size := ⟨_, rfl⟩
    rw [← hg] at hA ⊢
    have HU : Hid (Un w1 w3 g Ac.zero) := ⟨hA, HB2.out.trans (hb.mono HB2.out.size)⟩
    have HG : Hid (w1.heap.size ≤ g) := by rw [hg]; exact HB2.out.size
    clear hA hb hg HB2
    go_wp2_with fail
    go_loopw [10, 28] (fun xx i wr => ∃ k : Nat, k ≤ l.length ∧ i = .int .i64 k ∧ Hid (Fit k (sumL (l.take k)) ∧ Un w1 wr g (sumL (l.take k)))) (fun _ i _ => l.length - (intOf i).toNat)
    case atStart => exact ⟨0, Nat.zero_le _, rfl, fit_zero, HU.out⟩
    case round =>
      obtain ⟨k, hk, rfl, hH⟩ := hrel
      by_cases hq : k < l.length
      · obtain ⟨bx, ox, rfl, hcx⟩ := (HL.out wr hH.out.2.bel).at hq
        have hbx := HWf.out k
        have hs := sumL_snoc l hq
        obtain ⟨x, hx⟩ : ∃ x, x = l.getD k 0 := ⟨_, rfl⟩
        rw [← hx] at hcx hbx hs
        have hF2 := fit_add hH.out.1 (numT_thing x) (by omega)
        have hF := add_few x g wr hH.out.1 (by omega) hbx hH.out.2.acc
        rw [← hs] at hF hF2
        have HF := Lib.hid hF; have HF2 := Lib.hid hF2; have HUn := Lib.hid hH.out.2
        clear hx hs hF hF2 hH hbx
        go_wp2_with fail
        refine HF.out.mono ?_; rintro en w4 ⟨rfl, hA, hG⟩
        have HU4 := Lib.hid (un_next HUn.out HG.out hA hG)
        clear hA hG HF HUn
        go_wp2_with fail
        go_roundw
        case rel => exact ⟨k + 1, by omega, by go_num, HF2.out, HU4.out⟩
        case measure => simp [intOf]; omega
      · obtain rfl : l.length = k := by omega
        have hh := hH.out
        rw [List.take_length] at hh
        obtain ⟨hF, hU⟩ := hh
        obtain ⟨p1, p2⟩ := HPP.out
        have HR := Lib.hid (accround_any (sumL l) mode pn pi g wr hF.ok hU.acc (HT.out wr hU.bel) (by omega) (by omega) p1.1 p1.2 p2.1 p2.2)
        unfold pol at HR
        have HU' := Lib.hid hU
        obtain ⟨c0, c1⟩ := HK.out wr hU.bel
        clear hH hF hU p1 p2 hk hq
        go_wp2_with fail
        refine HR.out.mono ?_; rintro en w4 ⟨r, er, rfl, hRR, hb⟩
        have HX := Lib.hid hRR
        have HB4 := Lib.hid (HB1.out.trans ((HU'.out.bel.trans (hb.mono HU'.out.bel.size)).mono HB1.out.size))
        clear hRR hb c0 c1
        go_wp2_with fail
        go_ret2
        exact ⟨r, er, rfl, .inr (.inr ⟨HNb.out, by omega, HX.out⟩), HB4.out⟩
end Go.Proofs.YthdbapibbdkclaaDoor

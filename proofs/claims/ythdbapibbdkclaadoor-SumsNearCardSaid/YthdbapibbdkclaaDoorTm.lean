/- The walk of steelyardlaw10.SumsNear: true of all lists and sizes, in every world whose table of math/bits is laid. -/
import Derived.Test.YthdbapibbdkclaaDoorProg
import Derived.Test.YthdbapibbdkclaaDoorFm
import Derived.Test.YthdbapibbdkclaaDoorTk
namespace Go.Proofs.YthdbapibbdkclaaDoor
open Go.RowKit
set_option linter.unusedVariables false
set_option linter.unusedSimpArgs false

theorem aF_bd {l : List Nat} (h : FinL l) {j : Nat} (hj : j = 66) : aF l ≤ l.length * 2 ^ (32 * j) := by
  induction l with
  | nil => simp [aF, absI]
  | cons x l ih =>
    have h1 := ih (fun y hy => h y (List.mem_cons_of_mem _ hy))
    have h2 := fV_abs (h x (List.mem_cons_self ..)).2 hj
    rw [List.length_cons, Nat.succ_mul]
    show (fV x).natAbs + aF l ≤ _
    omega
theorem aF_lt {l : List Nat} (h : FinL l) (hl : l.length ≤ 1000) {j : Nat} (hj : j = 67) : aF l < 2 ^ (32 * j) := by
  obtain ⟨k, hk⟩ : ∃ k, k = 66 := ⟨_, rfl⟩
  have h1 := aF_bd h hk
  have h2 : l.length * 2 ^ (32 * k) ≤ 1000 * 2 ^ (32 * k) := Nat.mul_le_mul_right _ hl
  have h3 : 2 ^ (32 * j) = 4294967296 * 2 ^ (32 * k) := by rw [show 32 * j = 32 + 32 * k by omega, Nat.pow_add]
  have := Nat.two_pow_pos (32 * k)
  omega
theorem sF_abs (l : List Nat) : (sF l).natAbs ≤ aF l := sumI_abs _
theorem sF_snoc (l : List Nat) {k : Nat} (hk : k < l.length) : sF (l.take (k + 1)) = sF (l.take k) + fV (l.getD k 0) ∧ aF (l.take (k + 1)) = aF (l.take k) + (fV (l.getD k 0)).natAbs := by
  rw [take_succ_get (x := l.getD k 0) (by rw [List.getD_eq_getElem?_getD, List.getElem?_eq_getElem hk]; rfl), sF_append, aF_append, sF_one, aF_one]
  exact ⟨rfl, rfl⟩
/-- the two Dyads of the law, and their words -/
structure Nr (w W : World) (B g6 g7 : Nat) (dS dA : D) (a : Option Addr) (c : Nat) (a' : Option Addr) (c' : Nat) : Prop where
  k6 : Cel W g6 (.bool dS.neg) (.slice a (words dS.m).length c) (.int .i64 dS.exp)
  k7 : Cel W g7 (.bool dA.neg) (.slice a' (words dA.m).length c') (.int .i64 dA.exp)
  o6 : Own W 82 B a c (words dS.m)
  o7 : Own W 82 B a' c' (words dA.m)
  bel : Below w.heap.size w W
  siz : B ≤ W.heap.size
theorem Nr.below {w W W' : World} {B g6 g7 : Nat} {dS dA : D} {a a' : Option Addr} {c c' : Nat} (h : Nr w W B g6 g7 dS dA a c a' c') (hb : Below W.heap.size W W') : Nr w W' B g6 g7 dS dA a c a' c' :=
  ⟨h.k6.below hb h.k6.lt, h.k7.below hb h.k7.lt, h.o6.grow hb, h.o7.grow hb, h.bel.trans (hb.mono h.bel.size), Nat.le_trans h.siz hb.size⟩
theorem Nr.drew {w W : World} {B g6 g7 : Nat} {dS dA : D} {a a' : Option Addr} {c c' : Nat} (h : Nr w W B g6 g7 dS dA a c a' c') : Nr w W.drew B g6 g7 dS dA a c a' c' := h.below (Below.refl _ _).drew
theorem Nr.put6 {w W : World} {B g6 g7 : Nat} {dS dA d : D} {a a' a2 : Option Addr} {c c' c2 : Nat} (h : Nr w W B g6 g7 dS dA a c a' c') (h1 : w.heap.size ≤ g6) (h2 : g6 ≠ g7) (h3 : g6 < B) (ho : Own W 82 B a2 c2 (words d.m)) : Nr w (wr3 W g6 (.bool d.neg) (.slice a2 (words d.m).length c2) (.int .i64 d.exp)) B g6 g7 d dA a2 c2 a' c' :=
  ⟨h.k6.wr _ _ _, h.k7.wrOther h2 _ _ _, own_wr3 ho h3, own_wr3 h.o7 h3, below_wr3 h.bel h1, by unfold wr3; simpa using h.siz⟩
theorem Nr.put7 {w W : World} {B g6 g7 : Nat} {dS dA d : D} {a a' a2 : Option Addr} {c c' c2 : Nat} (h : Nr w W B g6 g7 dS dA a c a' c') (h1 : w.heap.size ≤ g7) (h2 : g7 ≠ g6) (h3 : g7 < B) (ho : Own W 82 B a2 c2 (words d.m)) : Nr w (wr3 W g7 (.bool d.neg) (.slice a2 (words d.m).length c2) (.int .i64 d.exp)) B g6 g7 dS d a c a2 c2 :=
  ⟨h.k6.wrOther h2 _ _ _, h.k7.wr _ _ _, own_wr3 h.o6 h3, own_wr3 ho h3, below_wr3 h.bel h1, by unfold wr3; simpa using h.siz⟩
theorem grown_wr3 (W : World) (g : Nat) (v0 v1 v2 : Value) : W.grownBy (wr3 W g v0 v1 v2) (some g) :=
  grown_set' (grown_set' (grown_set' (grown_refl W (some g)) 0 v0) 1 v1) 2 v2
theorem Nr.put {w W : World} {B g6 g7 g : Nat} {dS dA : D} {a a' : Option Addr} {c c' : Nat} (h : Nr w W B g6 g7 dS dA a c a' c') (h1 : w.heap.size ≤ g) (h2 : g ≠ g6) (h3 : g ≠ g7) (h4 : ∀ ad, a = some ad → ad.block ≠ g) (h5 : ∀ ad, a' = some ad → ad.block ≠ g) (v0 v1 v2 : Value) : Nr w (wr3 W g v0 v1 v2) B g6 g7 dS dA a c a' c' :=
  ⟨h.k6.wrOther h2 _ _ _, h.k7.wrOther h3 _ _ _, own_grown h.o6 (grown_wr3 W g v0 v1 v2) h4, own_grown h.o7 (grown_wr3 W g v0 v1 v2) h5, below_wr3 h.bel h1, by unfold wr3; simpa using h.siz⟩

set_option maxRecDepth 10000 in
set_option maxHeartbeats 8000000 in
theorem sumsnear_any (a1 : Option Addr) (c1 : Nat) (l0 : List Nat) (size : Int) (w : World) (hT : Tab w) (hl0 : FSl w a1 c1 l0) :
    Calls Tryd.prog 12 #[.slice a1 l0.length c1, .int .i64 size] w fun en w' => en = .returned (.bool true) ∧ Below w.heap.size w w' := by
  have H1 := Lib.hid (live10_any w hT)
  obtain ⟨l, hll⟩ : ∃ l, l = l0.take 300 := ⟨_, rfl⟩
  have hl : FSl w a1 c1 l := by rw [hll]; exact hl0.take 300
  have hlen : l.length ≤ 300 := by rw [hll, List.length_take]; omega
  have hl1 : 300 < l0.length → l.length = 300 := by intro h; rw [hll, List.length_take]; omega
  have hl2 : ¬ 300 < l0.length → l.length = l0.length := by intro h; rw [hll, List.length_take]; omega
  have HLL := Lib.hid (And.intro hl1 hl2)
  have hcap0 : 300 < l0.length → 300 ≤ c1 := by have := hl0.cap; omega
  have HC0 := Lib.hid hcap0
  have HWf := Lib.hid (w64_getD hl.wf)
  have HL := Lib.hid (fun W (hw : Below w.heap.size w W) => hl.grow hw)
  have HT := Lib.hid (fun W (hw : Below w.heap.size w W) => hT.grow hw)
  clear hl hll hl1 hl2 hcap0 hT hl0
  go_enter Tryd.func12, Tryd.ntmps12
  go_wp2_with fail
  refine H1.out.mono ?_; rintro en w1 ⟨rfl, hb⟩
  have HB1 := Lib.hid hb
  clear hb
  go_upto_if 19 with fail
  go_cut [0] (fun s wx => s = .slice a1 l.length c1 ∧ wx = w1)
  case first =>
    by_cases q : 300 < l0.length
    · have e1 := HLL.out.1 q
      have e2 := HC0.out q
      have E1 := Lib.hid e1
      clear e1
      go_wp2_with fail
      go_meet
      case rel => exact ⟨by rw [E1.out], rfl⟩
    · have e1 := HLL.out.2 q
      have E1 := Lib.hid e1
      clear e1
      go_wp2_with fail
      go_meet
      case rel => exact ⟨by rw [E1.out], rfl⟩
  obtain ⟨rfl, rfl⟩ := hcut
  obtain ⟨g6, hg6⟩ : ∃ g, g = wc.heap.size := ⟨_, rfl⟩
  obtain ⟨w2, e2⟩ : ∃ W, W = (wc.alloc (.cells #[.bool false, .slice none 0 0, .int .i64 0] 28)).alloc (.cells #[.bool false, .slice none 0 0, .int .i64 0] 28) := ⟨_, rfl⟩
  have HN2 : Hid (Nr w w2 (g6 + 2) g6 (g6 + 1) D.zero D.zero none 0 none 0) := by
    obtain ⟨wm, em⟩ : ∃ W, W = wc.alloc (.cells #[.bool false, .slice none 0 0, .int .i64 0] 28) := ⟨_, rfl⟩
    rw [← em] at e2
    obtain ⟨m1, m2, m3⟩ := new_cel em hg6.symm
    obtain ⟨n1, n2, n3⟩ := new_cel e2 m3
    have hz : (words D.zero.m) = [] := words_zero
    refine ⟨?_, ?_, ?_, ?_, ?_, by omega⟩
    · have := m1.below n2 (by omega)
      unfold D.zero; rw [show (words (⟨false, 0, 0⟩ : D).m).length = 0 by rw [show (⟨false, 0, 0⟩ : D).m = 0 from rfl, words_zero]; rfl]; exact this
    · unfold D.zero; rw [show (words (⟨false, 0, 0⟩ : D).m).length = 0 by rw [show (⟨false, 0, 0⟩ : D).m = 0 from rfl, words_zero]; rfl]; exact n1
    · rw [hz]; exact Own.none _ _ _
    · rw [hz]; exact Own.none _ _ _
    · exact HB1.out.trans ((m2.trans (n2.mono (by omega))).mono (by rw [hg6]; exact HB1.out.size))
  have z6 : w.heap.size ≤ g6 := by rw [hg6]; exact HB1.out.size
  have E2 := Lib.hid e2; have HG6 := Lib.hid hg6
  clear e2 hg6
  go_upto_region 6 with fail
  rw [← E2.out, ← HG6.out]
  clear E2 HG6
  go_wp2_with fail
  go_loopw [8, 9, 10] (fun i dd ee wr => ∃ (k : Nat) (dS dA : D) (a : Option Addr) (c : Nat) (a' : Option Addr) (c' : Nat), k ≤ l.length ∧ i = .int .i64 k ∧ Hid (Dz dS (sF (l.take k)) ∧ Dz dA ((aF (l.take k) : Nat) : Int) ∧ FinL (l.take k) ∧ Nr w wr (g6 + 2) g6 (g6 + 1) dS dA a c a' c')) (fun i _ _ _ => l.length - (intOf i).toNat)
  case atStart => exact ⟨0, D.zero, D.zero, none, 0, none, 0, Nat.zero_le _, rfl, Dz.zero, Dz.zero, fun x hx => by simp at hx, HN2.out⟩
  case round =>
    obtain ⟨k, dS, dA, a, c, a', c', hk, rfl, hH⟩ := hrel
    obtain ⟨hS, hA, hFn, hNr⟩ := hH.out
    have HNr := Lib.hid hNr
    by_cases hq : k < l.length
    · have hbx := HWf.out k
      have hsn := sF_snoc l hq
      obtain ⟨b0, off, rfl, hcx⟩ := (HL.out wr hNr.bel).rd.at hq
      have hFn2 : l.getD k 0 % 9223372036854775808 < 9218868437227405312 → FinL (l.take (k + 1)) := by
        intro h y hy
        rw [take_succ_get (x := l.getD k 0) (by rw [List.getD_eq_getElem?_getD, List.getElem?_eq_getElem hq]; rfl)] at hy
        rcases List.mem_append.1 hy with hy | hy
        · exact hFn y hy
        · simp at hy; rw [hy]; exact ⟨by simpa using hbx, by simpa using h⟩
      obtain ⟨x, hx⟩ : ∃ x, x = l.getD k 0 := ⟨_, rfl⟩
      rw [← hx] at hcx hbx hsn hFn2
      by_cases hf : x % 9223372036854775808 < 9218868437227405312
      case neg =>
        have hN : ofF x = none := by unfold ofF bitsF; rw [if_pos (by omega)]
        have HOf := Lib.hid (cOfN hbx hN wr (HT.out wr hNr.bel))
        have HBr := Lib.hid hNr.bel
        clear hx hf hN hFn2 hsn hbx hNr hH hS hA hFn
        unfold DV at *
        go_wp2_with fail
        refine HOf.out.mono ?_; rintro en w3 ⟨a1', c1', rfl, hb⟩
        have HB3 : Hid (Below w.heap.size w w3) := HBr.out.trans (hb.mono HBr.out.size)
        clear hb
        obtain ⟨w4, e4⟩ : ∃ W, W = w3.alloc (.cells #[.bool D.zero.neg, .slice a1' (words D.zero.m).length c1', .int .i64 D.zero.exp] 28) := ⟨_, rfl⟩
        have HB4 : Hid (Below w.heap.size w w4) := by rw [e4]; exact HB3.out.alloc HB3.out.size _
        have E4 := Lib.hid e4
        clear e4
        go_wp2_with fail
        go_ret
        refine ⟨rfl, ?_⟩
        rw [← E4.out]; exact HB4.out
      obtain ⟨p, hp, dp⟩ := Dz.of hf
      obtain ⟨j, hj⟩ : ∃ j, j = 67 := ⟨_, rfl⟩
      obtain ⟨j6, hj6⟩ : ∃ j, j = 66 := ⟨_, rfl⟩
      have bF := aF_lt hFn (by rw [List.length_take]; omega) hj
      have bx : (fV x).natAbs < 2 ^ (32 * j) := Nat.lt_of_lt_of_le (fV_abs hf hj6) (Nat.pow_le_pow_right (by decide) (by omega))
      have bS : (sF (l.take k)).natAbs < 2 ^ (32 * j) := Nat.lt_of_le_of_lt (sF_abs _) bF
      obtain ⟨dS', hS', dzS'⟩ := hS.add (j := j) dp bS bx (by omega)
      obtain ⟨q, hqq, dq⟩ : ∃ q, (fV x < 0 → formF (!p.neg) p.m p.exp = some q) ∧ (¬ fV x < 0 → q = p) ∧ Dz q (((fV x).natAbs : Nat) : Int) := by
        by_cases h0 : fV x < 0
        · obtain ⟨q, h3, h4⟩ := dp.neg
          exact ⟨q, fun _ => h3, fun h => absurd h0 h, by rw [show (((fV x).natAbs : Nat) : Int) = - fV x by omega]; exact h4⟩
        · exact ⟨p, fun h => absurd h h0, fun _ => rfl, by rw [show (((fV x).natAbs : Nat) : Int) = fV x by omega]; exact dp⟩
      obtain ⟨dqp, dq⟩ := dq
      obtain ⟨dA', hA', dzA'⟩ := hA.add (j := j) dq (by simpa using bF) (by simpa using bx) (by omega)
      rw [← hsn.1] at dzS'
      have eA : ((aF (l.take k) : Nat) : Int) + (((fV x).natAbs : Nat) : Int) = ((aF (l.take (k + 1)) : Nat) : Int) := by rw [hsn.2]; simp
      rw [eA] at dzA'
      have HOf := Lib.hid (cOf hbx hp dp.ok wr (HT.out wr hNr.bel))
      have HAd1 := Lib.hid (fun W a b c d (hw : Below w.heap.size w W) (h3 : (argOf dS a c).Ok W) (h4 : (argOf p b d).Ok W) => cAdd hS dp hS' dzS' a b c d W h3 h4 (HT.out W hw))
      have HSg := Lib.hid (fun W a c (h3 : (argOf p a c).Ok W) => cSign dp a c W h3)
      have HNg := Lib.hid (fun W a c (h0 : fV x < 0) (hw : Below w.heap.size w W) (h3 : (argOf p a c).Ok W) => cNeg dp (hqq h0) a c W h3 (HT.out W hw))
      have HAd2 := Lib.hid (fun W a b c d (hw : Below w.heap.size w W) (h3 : (argOf dA a c).Ok W) (h4 : (argOf q b d).Ok W) => cAdd hA dq hA' dzA' a b c d W h3 h4 (HT.out W hw))
      have HOk : Hid (dS.Ok ∧ dA.Ok ∧ p.Ok ∧ q.Ok) := ⟨hS.ok, hA.ok, dp.ok, dq.ok⟩
      have HR := Lib.hid (And.intro dzS' (And.intro dzA' (hFn2 hf)))
      have HQP := Lib.hid dqp
      have hsg : (fV x < 0 → sgnZ (fV x) = -1) ∧ (¬ fV x < 0 → 0 ≤ sgnZ (fV x)) := by
        unfold sgnZ
        constructor
        · intro h; rw [if_pos h]
        · intro h; rw [if_neg h]; split <;> decide
      obtain ⟨fx, hfx⟩ : ∃ z, z = fV x := ⟨_, rfl⟩
      rw [← hfx] at HSg HNg HQP hsg
      obtain ⟨sg, hsg2⟩ : ∃ z, z = sgnZ fx := ⟨_, rfl⟩
      rw [← hsg2] at hsg HSg
      clear hx hf hFn2 hsn hbx hNr hH hS hA hFn hp dp hj hj6 bF bx bS hS' dzS' hqq dq dqp hA' dzA' eA hfx hsg2
      unfold DV at *
      go_wp2_with fail
      refine HOf.out.mono ?_; rintro en w3 ⟨a1', c1', rfl, ho1, hb⟩
      have HN3 := Lib.hid (HNr.out.below hb)
      have HO3 := Lib.hid (ho1.mono (b := g6 + 2) HNr.out.siz)
      clear ho1 hb HNr
      simp only [DV]
      obtain ⟨nb, hnb⟩ : ∃ n, n = w3.heap.size := ⟨_, rfl⟩
      obtain ⟨w4, e4⟩ : ∃ W, W = w3.alloc (.cells #[.bool p.neg, .slice a1' (words p.m).length c1', .int .i64 p.exp] 28) := ⟨_, rfl⟩
      obtain ⟨k4, b4, s4⟩ := new_cel e4 hnb.symm
      have HN4 := Lib.hid (HN3.out.below (b4.mono (by omega)))
      have HO4 := Lib.hid (HO3.out.grow (b4.mono (by omega)))
      have l4 : g6 + 2 ≤ nb := by rw [hnb]; exact HN3.out.siz
      obtain ⟨_, _, _, _, _, _⟩ := (HN3.out.k6.alloc (.cells #[.bool p.neg, .slice a1' (words p.m).length c1', .int .i64 p.exp] 28)).facts
      have E4 := Lib.hid e4; have HNB := Lib.hid hnb
      clear e4 b4 s4 hnb
      go_wp2_with fail
      rw [← E4.out, ← HNB.out]
      refine (HAd1.out w4 a a1' c c1' HN4.out.bel (HN4.out.o6.arg HOk.out.1) (HO4.out.arg HOk.out.2.2.1)).mono ?_; rintro en w5 ⟨a2, c2, rfl, ho2, hb⟩
      have HN5 := Lib.hid (HN4.out.below hb)
      have HO5 := Lib.hid (HO4.out.grow hb)
      have HP5 := Lib.hid (ho2.mono (b := g6 + 2) HN4.out.siz)
      have k5 := k4.below hb k4.lt
      clear ho2 hb k4 E4 HNB HN3 HO3
      simp only [DV]
      have HN6 := Lib.hid (HN5.out.put6 (d := dS') z6 (by omega) (by omega) HP5.out)
      have k6 := k5.wrOther (g' := g6) (by omega) (.bool dS'.neg) (.slice a2 (words dS'.m).length c2) (.int .i64 dS'.exp)
      have HO6 := Lib.hid (own_wr3 (g := g6) (v0 := .bool dS'.neg) (v1 := .slice a2 (words dS'.m).length c2) (v2 := .int .i64 dS'.exp) HO5.out (by omega))
      unfold wr3 at HN6 k6 HO6
      obtain ⟨w6, e6⟩ : ∃ W, W = ((w5.setCell ⟨g6, 0, none⟩ (.bool dS'.neg)).setCell ⟨g6, 1, none⟩ (.slice a2 (words dS'.m).length c2)).setCell ⟨g6, 2, none⟩ (.int .i64 dS'.exp) := ⟨_, rfl⟩
      obtain ⟨_, _, _, _, _, _⟩ := HN5.out.k6.facts
      obtain ⟨_, _, _, _, _, _⟩ := k6.facts
      rw [← e6] at HN6 HO6 k6
      have E6 := Lib.hid e6
      clear e6
      go_wp2_with fail
      rw [← E6.out]
      refine (HSg.out w6 a1' c1' (HO6.out.arg HOk.out.2.2.1)).mono ?_; rintro en w7 ⟨rfl, hb⟩
      have HN7 := Lib.hid (HN6.out.below hb)
      have HO7 := Lib.hid (HO6.out.grow hb)
      have k7 := k6.below hb k6.lt
      clear hb k6 E6 HN6 HO6 k5 HN5 HO5 HP5
      by_cases h0 : fx < 0
      · have hs1 := hsg.1 h0
        subst hs1
        have H0 := Lib.hid h0
        clear hsg h0
        obtain ⟨_, _, _, _, _, _⟩ := k7.facts
        go_wp2_with fail
        refine (HNg.out w7 a1' c1' H0.out HN7.out.bel (HO7.out.arg HOk.out.2.2.1)).mono ?_; rintro en w8 ⟨a3, c3, rfl, ho3, hb⟩
        have HN8 := Lib.hid (HN7.out.below hb)
        have k8 := k7.below hb k7.lt
        have l8 := k7.lt
        clear hb k7 HN7 HO7
        simp only [DV]
        have hq9 := own_wr3 (g := nb) (v0 := .bool q.neg) (v1 := .slice a3 (words q.m).length c3) (v2 := .int .i64 q.exp) ho3 l8
        have hn9 := HN8.out.put (g := nb) (by omega) (by omega) (by omega) (cel_apart k8 HN8.out.o6) (cel_apart k8 HN8.out.o7) (.bool q.neg) (.slice a3 (words q.m).length c3) (.int .i64 q.exp)
        have kq := k8.wr (.bool q.neg) (.slice a3 (words q.m).length c3) (.int .i64 q.exp)
        have HQa := Lib.hid (hq9.mono (b := g6 + 2) (by omega)); have HNa := Lib.hid hn9
        unfold wr3 at HQa HNa kq
        obtain ⟨wa, ea⟩ : ∃ W, W = ((w8.setCell ⟨nb, 0, none⟩ (.bool q.neg)).setCell ⟨nb, 1, none⟩ (.slice a3 (words q.m).length c3)).setCell ⟨nb, 2, none⟩ (.int .i64 q.exp) := ⟨_, rfl⟩
        obtain ⟨_, _, _, _, _, _⟩ := k8.facts
        obtain ⟨_, _, _, _, _, _⟩ := HNa.out.k7.facts
        obtain ⟨_, _, _, _, _, _⟩ := kq.facts
        rw [← ea] at HQa HNa kq
        have EA := Lib.hid ea
        clear ea ho3 hq9 hn9 k8 HN8
        go_wp2_with fail
        rw [← EA.out]
        refine (HAd2.out wa a' a3 c' c3 HNa.out.bel (HNa.out.o7.arg HOk.out.2.1) (HQa.out.arg HOk.out.2.2.2)).mono ?_; rintro en wb ⟨a5, c5, rfl, ho5, hb⟩
        have HNb := Lib.hid (HNa.out.below hb)
        have HP5 := Lib.hid (ho5.mono (b := g6 + 2) HNa.out.siz)
        clear ho5 hb
        simp only [DV]
        have HNc := Lib.hid (HNb.out.put7 (d := dA') (by omega) (by omega) (by omega) HP5.out)
        unfold wr3 at HNc
        obtain ⟨_, _, _, _, _, _⟩ := HNb.out.k7.facts
        go_wp2_with fail
        go_roundw
        case rel => exact ⟨k + 1, dS', dA', a2, c2, a5, c5, by omega, by go_num, HR.out.1, HR.out.2.1, HR.out.2.2, HNc.out⟩
        case measure => simp [intOf]; omega
      · have hs1 := hsg.2 (by omega)
        obtain rfl := HQP.out (by omega)
        clear hsg h0
        have HNa := HN7
        have HQa := HO7
        obtain ⟨a3, ha3⟩ : ∃ a, a = a1' := ⟨_, rfl⟩
        obtain ⟨c3, hc3⟩ : ∃ c, c = c1' := ⟨_, rfl⟩
        subst ha3 hc3
        obtain ⟨wa, ea⟩ : ∃ W, W = w7 := ⟨_, rfl⟩
        subst ea
        obtain ⟨_, _, _, _, _, _⟩ := HNa.out.k7.facts
        obtain ⟨_, _, _, _, _, _⟩ := k7.facts
        go_wp2_with fail
        refine (HAd2.out wa a' a3 c' c3 HNa.out.bel (HNa.out.o7.arg HOk.out.2.1) (HQa.out.arg HOk.out.2.2.2)).mono ?_; rintro en wb ⟨a5, c5, rfl, ho5, hb⟩
        have HNb := Lib.hid (HNa.out.below hb)
        have HP5 := Lib.hid (ho5.mono (b := g6 + 2) HNa.out.siz)
        clear ho5 hb
        simp only [DV]
        have HNc := Lib.hid (HNb.out.put7 (d := dA') (by omega) (by omega) (by omega) HP5.out)
        unfold wr3 at HNc
        obtain ⟨_, _, _, _, _, _⟩ := HNb.out.k7.facts
        go_wp2_with fail
        go_roundw
        case rel => exact ⟨k + 1, dS', dA', a2, c2, a5, c5, by omega, by go_num, HR.out.1, HR.out.2.1, HR.out.2.2, HNc.out⟩
        case measure => simp [intOf]; omega
    · obtain rfl : l.length = k := by omega
      rw [List.take_length] at hS hA hFn
      by_cases hz : l.length = 0
      · have HBr := Lib.hid hNr.bel
        have e0 : ((l.length : Int) == 0) = true := by rw [hz]; rfl
        clear hz hS hA hFn hNr hH
        go_wp2_with fail
        go_ret
        exact ⟨rfl, HBr.out⟩
      have e0 : ((l.length : Int) == 0) = false := by rw [beq_eq_false_iff_ne]; omega
      have hne : l ≠ [] := by intro h; rw [h] at hz; exact hz rfl
      obtain ⟨n, hn⟩ : ∃ n, n = l.length - 1 := ⟨_, rfl⟩
      have hn2 : (l.length : Int) - 1 = (n : Int) := by omega
      have hnb : n ≤ 300 := by omega
      have hnw : IntKind.i64.wrap (n : Int) = (n : Int) := by rw [IntKind.wrap_i64]; omega
      obtain ⟨j, hj⟩ : ∃ j, j = 67 := ⟨_, rfl⟩
      have bF := aF_lt hFn (by omega) hj
      have bS : (sF l).natAbs < 2 ^ (32 * j) := Nat.lt_of_le_of_lt (sF_abs _) bF
      have hOff := fun v W (hv : v < 18446744073709551616) (h1 : (argOf dS a c).Ok W) (h2 : (argOf dA a' c').Ok W) (hw : Below w.heap.size w W) => off_any (n := n) hv (by omega) hS hA bS bF (by omega) (by omega) a a' c c' W h1 h2 (HT.out W hw)
      have hP1 := (bd_run hne hFn).err
      have hP2 : ∀ v, Hal l v → v % 9223372036854775808 < 9218868437227405312 → 9007199254740992 * (fV v - sF l).natAbs ≤ (l.length - 1) * aF l := fun v h => (bd_hal h hne hFn).err
      have hP3 : ∀ r er, BlR l size r er → r < 18446744073709551616 ∧ (er = 0 → r % 9223372036854775808 < 9218868437227405312 → 9007199254740992 * (fV r - sF l).natAbs ≤ (l.length - 1) * aF l) := by
        intro r er h
        rcases h with ⟨_, rfl, rfl⟩ | ⟨_, h1, _⟩ | ⟨h1, _, rfl, rfl⟩
        · exact ⟨by decide, fun h => by cases h⟩
        · omega
        · have := bd_blk hne hFn (s := size.toNat) (by omega)
          exact ⟨this.lt, fun _ => this.err⟩
      have hlt1 := (bd_run hne hFn).lt
      have hlt2 : ∀ v, Hal l v → v < 18446744073709551616 := fun v h => (bd_hal h hne hFn).lt
      rw [← hn] at hP1 hP2 hP3
      have HBl := Lib.hid (fun W (hw : Below w.heap.size w W) => blocked_any a1 c1 l size W (HL.out W hw))
      have HRn := Lib.hid (fun W (hw : Below w.heap.size w W) => running_any a1 c1 l W (HL.out W hw) (by omega))
      have HHv := Lib.hid (fun W (hw : Below w.heap.size w W) => halving_any a1 c1 l W (HL.out W hw) (by omega))
      have HOff := Lib.hid hOff; have HP1 := Lib.hid hP1; have HP2 := Lib.hid hP2; have HP3 := Lib.hid hP3; have HLt := Lib.hid (And.intro hlt1 hlt2)
      have HOk : Hid (dS.Ok ∧ dA.Ok) := ⟨hS.ok, hA.ok⟩
      clear hS hA hFn hNr hH hz hne hj bF bS hOff hP1 hP2 hP3 hlt1 hlt2 hn hk hq
      obtain ⟨v1, hv1⟩ : ∃ v, v = runC l := ⟨_, rfl⟩
      rw [← hv1] at HRn HP1 HLt
      clear hv1
      unfold DV at *
      go_wp2_with fail
      refine (HBl.out wr HNr.out.bel).mono ?_; rintro en w3 ⟨rb, eb, rfl, hRb, hb⟩
      obtain ⟨p31, p32⟩ := HP3.out rb eb hRb
      have HN3 := Lib.hid (HNr.out.below hb)
      have HP31 := Lib.hid p31; have HP32 := Lib.hid p32
      clear hb hRb p31 p32
      go_upto_region 19 with fail
      obtain ⟨q0, q1, q2, _, _, _⟩ := HN3.out.k6.facts
      obtain ⟨q3, q4, q5, _, _, _⟩ := HN3.out.k7.facts
      go_region_held3 (fun W => W.cell? ⟨g6, 0, none⟩ = some (.bool dS.neg) ∧ W.cell? ⟨g6, 1, none⟩ = some (.slice a (words dS.m).length c) ∧ W.cell? ⟨g6, 2, none⟩ = some (.int .i64 dS.exp) ∧ W.cell? ⟨g6 + 1, 0, none⟩ = some (.bool dA.neg) ∧ W.cell? ⟨g6 + 1, 1, none⟩ = some (.slice a' (words dA.m).length c') ∧ W.cell? ⟨g6 + 1, 2, none⟩ = some (.int .i64 dA.exp)) (go_keep) (first
        | (go_at_call 43; refine (HRn.out w3.drew HN3.out.drew.bel).mono ?_; rintro en w4 ⟨rfl, hb⟩; have HN4 := Lib.hid (HN3.out.drew.below hb); clear hb; obtain ⟨q0, q1, q2, _, _, _⟩ := HN4.out.k6.facts; obtain ⟨q3, q4, q5, _, _, _⟩ := HN4.out.k7.facts)
        | (go_at_call 56; refine (HOff.out v1 w4 HLt.out.1 (HN4.out.o6.arg HOk.out.1) (HN4.out.o7.arg HOk.out.2) HN4.out.bel).mono ?_; rintro en w5 ⟨b, rfl, hbt, hb⟩; obtain rfl := hbt HP1.out; have HN5 := Lib.hid (HN4.out.below hb); clear hb hbt; obtain ⟨q0, q1, q2, _, _, _⟩ := HN5.out.k6.facts; obtain ⟨q3, q4, q5, _, _, _⟩ := HN5.out.k7.facts))
      go_upto_region 20 with fail
      go_region_held3 (fun W => W.cell? ⟨g6, 0, none⟩ = some (.bool dS.neg) ∧ W.cell? ⟨g6, 1, none⟩ = some (.slice a (words dS.m).length c) ∧ W.cell? ⟨g6, 2, none⟩ = some (.int .i64 dS.exp) ∧ W.cell? ⟨g6 + 1, 0, none⟩ = some (.bool dA.neg) ∧ W.cell? ⟨g6 + 1, 1, none⟩ = some (.slice a' (words dA.m).length c') ∧ W.cell? ⟨g6 + 1, 2, none⟩ = some (.int .i64 dA.exp)) (go_keep) (first
        | (go_at_call 44; refine (HHv.out w5.drew HN5.out.drew.bel).mono ?_; rintro en w6 ⟨v2, rfl, hv2, hb⟩; have HN6 := Lib.hid (HN5.out.drew.below hb); have HV2 := Lib.hid hv2; clear hb hv2; obtain ⟨q0, q1, q2, _, _, _⟩ := HN6.out.k6.facts; obtain ⟨q3, q4, q5, _, _, _⟩ := HN6.out.k7.facts)
        | (go_at_call 56; refine (HOff.out v2 w6 (HLt.out.2 v2 HV2.out) (HN6.out.o6.arg HOk.out.1) (HN6.out.o7.arg HOk.out.2) HN6.out.bel).mono ?_; rintro en w7 ⟨b, rfl, hbt, hb⟩; obtain rfl := hbt (HP2.out v2 HV2.out); have HN7 := Lib.hid (HN6.out.below hb); clear hb hbt; obtain ⟨q0, q1, q2, _, _, _⟩ := HN7.out.k6.facts; obtain ⟨q3, q4, q5, _, _, _⟩ := HN7.out.k7.facts))
      go_wp2_with fail
      refine (HOff.out rb w7 HP31.out (HN7.out.o6.arg HOk.out.1) (HN7.out.o7.arg HOk.out.2) HN7.out.bel).mono ?_; rintro en w8 ⟨b, rfl, hbt, hb⟩
      have HB8 : Hid (Below w.heap.size w w8) := (HN7.out.below hb).bel
      by_cases h0 : eb = 0
      · obtain rfl := hbt (HP32.out h0)
        have e9 : (eb == 0) = true := by rw [h0]; rfl
        clear h0 hb hbt
        go_wp2_with fail
        go_ret
        exact ⟨rfl, HB8.out⟩
      · have e9 : (eb == 0) = false := by simpa using h0
        have HE9 := Lib.hid e9
        clear h0 hb hbt
        cases b <;>
          (go_wp2_with fail
           go_ret
           first
             | exact ⟨rfl, HB8.out⟩
             | exact ⟨by show Ending.returned (Value.bool (eb != 0)) = _; rw [bne, HE9.out]; rfl, HB8.out⟩)
end Go.Proofs.YthdbapibbdkclaaDoor

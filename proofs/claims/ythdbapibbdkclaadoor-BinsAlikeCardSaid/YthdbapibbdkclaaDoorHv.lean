/- Contract of bins.Bins.Bound. No statement of the seat is proved here. -/
import Derived.Test.YthdbapibbdkclaaDoorProg
import Derived.Test.YthdbapibbdkclaaDoorHr
import Derived.Test.YthdbapibbdkclaaDoorHf
namespace Go.Proofs.YthdbapibbdkclaaDoor
open Go.RowKit
set_option maxRecDepth 10000
set_option linter.unusedVariables false
set_option linter.unusedSimpArgs false

/-- the Dyads of a bound -/
theorem bd_dy {A : Bn} (hA : A.Ok) {f : Nat} (hf : f ≤ 8) (e : Int) (he : e = 32 * ((A.len : Int) - 34 - f)) :
    ∃ p q d, intF (A.n : Int) = some p ∧ p.Is ∧ p.Ok ∧ formF false 1 e = some q ∧ mulD p q = some d ∧ Dy (-1408) 100 d ((A.n * 4294967296 ^ (A.len + 10 - f) : Nat) : Int) := by
  have hn := hA.n
  have hl := hA.len
  obtain ⟨j2, hj2⟩ : ∃ j, j = 2 := ⟨_, rfl⟩
  obtain ⟨j7, hj7⟩ : ∃ j, j = 77 := ⟨_, rfl⟩
  obtain ⟨j1, hj1⟩ : ∃ j, j = 1 := ⟨_, rfl⟩
  obtain ⟨p, h1, h2⟩ := Dy.int (n := (A.n : Int)) (J := j2) (by rw [hj2, show (2 : Nat) ^ (32 * 2) = 18446744073709551616 from rfl]; omega) (by omega)
  have hx : (e - -1408).toNat = 32 * (A.len + 10 - f) := by omega
  obtain ⟨q, h3, h4⟩ := Dy.form (s := false) (n := 1) (e := e) (B := -1408) (j := j1) (J := j7) (by rw [hj1]; decide) (by omega) (by omega) ⟨by decide, by decide, by omega⟩ (by omega) (by
    rw [hx, Nat.one_mul]
    exact Nat.pow_lt_pow_right (by decide) (by omega))
  obtain ⟨d, h5, h6⟩ := h2.mul h4 ⟨by decide, by decide, by omega⟩
  refine ⟨p, q, d, h1, h2.is, h2.ok, h3, h5, ?_⟩
  have h7 := h6.up (K := 100) (by omega)
  rw [Int.zero_add, hx, ← w32_pow] at h7
  have e1 : (A.n : Int) * (sgn false 1 * ((4294967296 ^ (A.len + 10 - f) : Nat) : Int)) = ((A.n * 4294967296 ^ (A.len + 10 - f) : Nat) : Int) := by
    unfold sgn
    rw [if_neg (by decide), Int.natCast_mul]
    simp
  rw [e1] at h7
  exact h7
/-- while the product is made: the other factor's words, the place of the outcome -/
structure BdS (w W : World) (s d : Option Nat) : Prop where
  bel : Below w.heap.size w W
  s : ∀ k, s = some k → Blk W 82 k [1]
  d : ∀ k, d = some k → Cel W k (.bool false) (.slice none 0 0) (.int .i64 0) ∧ w.heap.size ≤ k
theorem BdS.refl (w : World) : BdS w w none none := ⟨Below.refl _ _, (fun _ h => nomatch h), (fun _ h => nomatch h)⟩
theorem BdS.drew {w W : World} {s d : Option Nat} (h : BdS w W s d) : BdS w W.drew s d := ⟨h.bel.drew, h.s, h.d⟩
theorem BdS.below {w W W' : World} {s d : Option Nat} (h : BdS w W s d) (hb : Below W.heap.size W W') : BdS w W' s d :=
  ⟨h.bel.trans (hb.mono h.bel.size), fun k hk => (h.s k hk).grow hb, fun k hk => ⟨(h.d k hk).1.below hb (h.d k hk).1.lt, (h.d k hk).2⟩⟩
theorem BdS.allocS {w W : World} {d : Option Nat} (h : BdS w W none d) : BdS w (W.alloc (.cells #[.int .u32 1] 82)) (some W.heap.size) d := by
  have h1 := h.below ((Below.refl W.heap.size W).alloc (Nat.le_refl _) (.cells #[.int .u32 1] 82))
  refine ⟨h1.bel, fun k hk => ?_, h1.d⟩
  cases hk
  exact blk_alloc W 82 #[.int .u32 1] [1] rfl
theorem BdS.allocD {w W : World} {s : Option Nat} (h : BdS w W s none) : BdS w (W.alloc (.cells #[.bool false, .slice none 0 0, .int .i64 0] 28)) s (some W.heap.size) := by
  have h1 := h.below ((Below.refl W.heap.size W).alloc (Nat.le_refl _) (.cells #[.bool false, .slice none 0 0, .int .i64 0] 28))
  refine ⟨h1.bel, h1.s, fun k hk => ?_⟩
  cases hk
  exact ⟨Cel.new _ _ _ _, h.bel.size⟩
theorem BdS.fin {w W : World} {s : Option Nat} {k b : Nat} {d : D} {a : Option Addr} {c : Nat} (h : BdS w W s (some k)) (ok : d.Ok) (ho : Own W 82 b a c (words d.m)) (hb : k < b) :
    Below w.heap.size w (wr3 W k (.bool d.neg) (.slice a (words d.m).length c) (.int .i64 d.exp)) ∧ Cel (wr3 W k (.bool d.neg) (.slice a (words d.m).length c) (.int .i64 d.exp)) k (.bool d.neg) (.slice a (words d.m).length c) (.int .i64 d.exp) ∧ (argOf d a c).Ok (wr3 W k (.bool d.neg) (.slice a (words d.m).length c) (.int .i64 d.exp)) :=
  ⟨below_wr3 h.bel (h.d k rfl).2, (h.d k rfl).1.wr _ _ _, (own_wr3 ho hb).arg ok⟩
theorem BdS.finA {w W : World} {s : Option Nat} {b : Nat} {d : D} {a : Option Addr} {c : Nat} (h : BdS w W s none) (ok : d.Ok) (ho : Own W 82 b a c (words d.m)) :
    Below w.heap.size w (W.alloc (.cells #[.bool d.neg, .slice a (words d.m).length c, .int .i64 d.exp] 28)) ∧ Cel (W.alloc (.cells #[.bool d.neg, .slice a (words d.m).length c, .int .i64 d.exp] 28)) W.heap.size (.bool d.neg) (.slice a (words d.m).length c) (.int .i64 d.exp) ∧ (argOf d a c).Ok (W.alloc (.cells #[.bool d.neg, .slice a (words d.m).length c, .int .i64 d.exp] 28)) := by
  have hb : Below W.heap.size W (W.alloc (.cells #[.bool d.neg, .slice a (words d.m).length c, .int .i64 d.exp] 28)) := (Below.refl _ _).alloc (Nat.le_refl _) _
  exact ⟨h.bel.trans (hb.mono h.bel.size), Cel.new _ _ _ _, (ho.grow hb).arg ok⟩
def BBdQ (A : Bn) (f : Nat) (w : World) (en : Ending) (w' : World) : Prop := ∃ r, en = .returned (.float .f64 r) ∧ BdR A f r ∧ Below w.heap.size w w'
set_option maxHeartbeats 16000000 in
theorem bbound_any (A : Bn) (g f : Nat) (w : World) (hA : A.Ok) (hf : f ≤ 8) (hB : BinAt w g f A) (hT : Tab w) :
    Calls Tryd.prog 64 #[.pointer (some ⟨g, 0, none⟩)] w (BBdQ A f w) := by
  obtain ⟨x0, x1, x2, x3⟩ := BinC.head hB
  by_cases h0 : A.len = 0
  · rw [decide_eq_false (show ¬ 0 < A.len by omega)] at x2
    have H0 := Lib.hid h0
    clear h0 hB
    go_enter Tryd.func64, Tryd.ntmps64
    go_wp2_with fail
    go_ret
    exact ⟨0, rfl, .inl ⟨H0.out, rfl⟩, Below.refl _ _⟩
  have hpos : 0 < A.len := by omega
  rw [decide_eq_true hpos] at x2
  rw [if_pos hpos] at x3
  obtain ⟨tp, htp⟩ : ∃ tp, tp = (A.len : Int) - 35 := ⟨_, rfl⟩
  rw [← htp] at x3
  have hln := hA.len
  have hn := hA.n
  obtain ⟨e, he⟩ : ∃ e, e = 32 * (tp - f + 1) := ⟨_, rfl⟩
  have e1 : IntKind.i64.wrap (tp - (f : Int)) = tp - f := by rw [IntKind.wrap_i64]; omega
  have e2 : IntKind.i64.wrap (tp - (f : Int) + 1) = tp - f + 1 := by rw [IntKind.wrap_i64]; omega
  have e3 : IntKind.i64.wrap (32 * (tp - (f : Int) + 1)) = e := by rw [IntKind.wrap_i64]; omega
  obtain ⟨p, q, d, hp, hpi, hpo, hq, hm, hd⟩ := bd_dy hA hf e (by omega)
  have HC : Hid (∀ W, Below w.heap.size w W → W.cell? ⟨g, 1, none⟩ = some (.int .i64 A.n) ∧ W.cell? ⟨g, 3, none⟩ = some (.int .i64 tp) ∧ W.cell? ⟨g, 0, none⟩ = some (.int .i64 f)) := fun W hW => by
    obtain ⟨a, b, c, d⟩ := BinC.head (BinC.grow hB hW)
    rw [if_pos hpos, ← htp] at d
    exact ⟨b, d, a⟩
  have HI : Hid (∀ W, Below w.heap.size w W → Calls Tryd.prog 120 #[.int .i64 A.n] W (OutD p W)) := fun W hW => yInt (by omega) (by omega) hp W (hT.grow hW)
  have HM : Hid (∀ W a c k, Below w.heap.size w W → (argOf p a c).Ok W → Blk W 82 k [1] → Calls Tryd.prog 113 #[.agg #[.bool p.neg, .slice a (words p.m).length c, .int .i64 p.exp], .agg #[.bool false, .slice (some ⟨k, 0, none⟩) 1 1, .int .i64 e]] W (OutDE d W)) := by
    intro W a c k hW hp1 hk
    refine (dmul_any (argOf p a c) ⟨false, some ⟨k, 0, none⟩, [1], 1, e⟩ W hp1 ⟨Sl.blk hk (W32.cons (by decide) W32.nil), by show (1 : Nat) ≤ _; decide, by show _ ≤ e; omega, by show e ≤ _; omega⟩ (hT.grow hW)).mono fun en w' h => came_out h ?_ hd.ok
    rw [argF hpi hpo]
    have : Arg.F ⟨false, some ⟨k, 0, none⟩, [1], 1, e⟩ = some q := by
      show formF false (num [1]) e = some q
      rw [show num [1] = 1 by simp [num]]; exact hq
    rw [this]
    exact hm
  have HRd : Hid (∀ W a c, Below w.heap.size w W → (argOf d a c).Ok W → Calls Tryd.prog 87 #[.agg #[.bool d.neg, .slice a (words d.m).length c, .int .i64 d.exp], .int .i64 2] W fun en w' => (∃ (r : Nat) (er : Int), en = .returned (.tuple #[.float .f64 r, .int .i64 er]) ∧ RoundsTo 52 (-1074) 9218868437227405312 9223372036854775808 2 (some d) r er) ∧ Below W.heap.size W w') := by
    intro W a c hW ho
    have := dround_any (argOf d a c) 2 W ho (hT.grow hW)
    rw [argF hd.is hd.ok] at this
    exact this
  have HQ : Hid (∀ r er, RoundsTo 52 (-1074) 9218868437227405312 9223372036854775808 2 (some d) r er → BdR A f r) := fun r er h => .inr ⟨hpos, d, er, hd, h⟩
  have HO : Hid (p.Ok ∧ d.Ok) := ⟨hpo, hd.ok⟩
  have hgl := BinC.lt hB
  have m1 : w.heap.size ≠ g := by omega
  have m2 : w.heap.size + 1 ≠ g := by omega
  clear hA hB hT hp hpi hpo hq hm hd hn hln he htp hpos h0
  go_enter Tryd.func64, Tryd.ntmps64
  go_upto_region 3 with fail
  have HS0 : Hid (BdS w w.drew none none) := (BdS.refl w).drew
  have HS1 : Hid (BdS w (w.alloc (.cells #[.int .u32 1] 82)).drew (some w.heap.size) none) := (BdS.refl w).allocS.drew
  have HS2 : Hid (BdS w (w.alloc (.cells #[.bool false, .slice none 0 0, .int .i64 0] 28)).drew none (some w.heap.size)) := (BdS.refl w).allocD.drew
  have HS3 : Hid (BdS w ((w.alloc (.cells #[.int .u32 1] 82)).alloc (.cells #[.bool false, .slice none 0 0, .int .i64 0] 28)).drew (some w.heap.size) (some (w.heap.size + 1))) := by have h := (BdS.refl w).allocS.allocD.drew; rwa [World.size_alloc] at h
  have HS4 : Hid (BdS w ((w.alloc (.cells #[.bool false, .slice none 0 0, .int .i64 0] 28)).alloc (.cells #[.int .u32 1] 82)).drew (some (w.heap.size + 1)) (some w.heap.size)) := by have h := (BdS.refl w).allocD.allocS.drew; rwa [World.size_alloc] at h
  have hg0 : g < w.heap.size := hgl
  go_region_held3 (fun W => W.cell? ⟨g, 1, none⟩ = some (.int .i64 A.n) ∧ W.cell? ⟨g, 3, none⟩ = some (.int .i64 tp) ∧ W.cell? ⟨g, 0, none⟩ = some (.int .i64 f)) (go_keep) (first
    | (go_at_call 120; (with_reducible refine (HI.out w.drew HS0.out.bel).mono ?_); rintro en w2 ⟨a2, c2, rfl, ho2, hb2⟩; simp only [DV]; have HT2 := Lib.hid (HS0.out.below hb2); have HO2 := Lib.hid (ho2.mono (Nat.zero_le _)); have n5 : w2.heap.size ≠ g := (by have := HT2.out.bel.size; omega); have n6 : w2.heap.size + 1 ≠ g := (by have := HT2.out.bel.size; omega); obtain ⟨y1, y3, y0⟩ := HC.out w2 HT2.out.bel; clear ho2 hb2)
    | (go_at_call 120; (with_reducible refine (HI.out (w.alloc (.cells #[.int .u32 1] 82)).drew HS1.out.bel).mono ?_); rintro en w2 ⟨a2, c2, rfl, ho2, hb2⟩; simp only [DV]; have HT2 := Lib.hid (HS1.out.below hb2); have HO2 := Lib.hid (ho2.mono (Nat.zero_le _)); have n5 : w2.heap.size ≠ g := (by have := HT2.out.bel.size; omega); have n6 : w2.heap.size + 1 ≠ g := (by have := HT2.out.bel.size; omega); obtain ⟨y1, y3, y0⟩ := HC.out w2 HT2.out.bel; clear ho2 hb2)
    | (go_at_call 120; (with_reducible refine (HI.out (w.alloc (.cells #[.bool false, .slice none 0 0, .int .i64 0] 28)).drew HS2.out.bel).mono ?_); rintro en w2 ⟨a2, c2, rfl, ho2, hb2⟩; simp only [DV]; have HT2 := Lib.hid (HS2.out.below hb2); have HO2 := Lib.hid (ho2.mono (Nat.zero_le _)); have n5 : w2.heap.size ≠ g := (by have := HT2.out.bel.size; omega); have n6 : w2.heap.size + 1 ≠ g := (by have := HT2.out.bel.size; omega); obtain ⟨y1, y3, y0⟩ := HC.out w2 HT2.out.bel; clear ho2 hb2)
    | (go_at_call 120; (with_reducible refine (HI.out ((w.alloc (.cells #[.int .u32 1] 82)).alloc (.cells #[.bool false, .slice none 0 0, .int .i64 0] 28)).drew HS3.out.bel).mono ?_); rintro en w2 ⟨a2, c2, rfl, ho2, hb2⟩; simp only [DV]; have HT2 := Lib.hid (HS3.out.below hb2); have HO2 := Lib.hid (ho2.mono (Nat.zero_le _)); have n5 : w2.heap.size ≠ g := (by have := HT2.out.bel.size; omega); have n6 : w2.heap.size + 1 ≠ g := (by have := HT2.out.bel.size; omega); obtain ⟨y1, y3, y0⟩ := HC.out w2 HT2.out.bel; clear ho2 hb2)
    | (go_at_call 120; (with_reducible refine (HI.out ((w.alloc (.cells #[.bool false, .slice none 0 0, .int .i64 0] 28)).alloc (.cells #[.int .u32 1] 82)).drew HS4.out.bel).mono ?_); rintro en w2 ⟨a2, c2, rfl, ho2, hb2⟩; simp only [DV]; have HT2 := Lib.hid (HS4.out.below hb2); have HO2 := Lib.hid (ho2.mono (Nat.zero_le _)); have n5 : w2.heap.size ≠ g := (by have := HT2.out.bel.size; omega); have n6 : w2.heap.size + 1 ≠ g := (by have := HT2.out.bel.size; omega); obtain ⟨y1, y3, y0⟩ := HC.out w2 HT2.out.bel; clear ho2 hb2)
    | (go_at_call 113; have hS := HT2.out; (with_reducible refine (HM.out _ a2 c2 _ hS.bel ((HO2.out).arg HO.out.1) (hS.s _ rfl)).mono ?_); rintro en w3 ⟨a3, c3, rfl, ho3, hb3⟩; simp only [DV]; have HT3 := Lib.hid (hS.below hb3); obtain ⟨_, _, _, _, _, _⟩ := (HT3.out.d _ rfl).1.facts; have HO3 := Lib.hid ho3; have n7 : w3.heap.size ≠ g := (by have := HT3.out.bel.size; omega); obtain ⟨z1, z3, z0⟩ := HC.out w3 HT3.out.bel; clear ho3 hb3 hS)
    | (go_at_call 113; have hS := HT2.out; (with_reducible refine (HM.out _ a2 c2 _ hS.bel ((HO2.out).arg HO.out.1) (hS.s _ rfl)).mono ?_); rintro en w3 ⟨a3, c3, rfl, ho3, hb3⟩; simp only [DV]; have HT3 := Lib.hid (hS.below hb3); have HO3 := Lib.hid ho3; have n7 : w3.heap.size ≠ g := (by have := HT3.out.bel.size; omega); obtain ⟨z1, z3, z0⟩ := HC.out w3 HT3.out.bel; clear ho3 hb3 hS)
    | (go_at_call 113; have hS := HT2.out.allocS; (with_reducible refine (HM.out _ a2 c2 _ hS.bel ((HO2.out.grow ((Below.refl _ _).alloc (Nat.le_refl _) _)).arg HO.out.1) (hS.s _ rfl)).mono ?_); rintro en w3 ⟨a3, c3, rfl, ho3, hb3⟩; simp only [DV]; have HT3 := Lib.hid (hS.below hb3); obtain ⟨_, _, _, _, _, _⟩ := (HT3.out.d _ rfl).1.facts; have HO3 := Lib.hid ho3; have n7 : w3.heap.size ≠ g := (by have := HT3.out.bel.size; omega); obtain ⟨z1, z3, z0⟩ := HC.out w3 HT3.out.bel; clear ho3 hb3 hS)
    | (go_at_call 113; have hS := HT2.out.allocS; (with_reducible refine (HM.out _ a2 c2 _ hS.bel ((HO2.out.grow ((Below.refl _ _).alloc (Nat.le_refl _) _)).arg HO.out.1) (hS.s _ rfl)).mono ?_); rintro en w3 ⟨a3, c3, rfl, ho3, hb3⟩; simp only [DV]; have HT3 := Lib.hid (hS.below hb3); have HO3 := Lib.hid ho3; have n7 : w3.heap.size ≠ g := (by have := HT3.out.bel.size; omega); obtain ⟨z1, z3, z0⟩ := HC.out w3 HT3.out.bel; clear ho3 hb3 hS)
    | (go_at_call 113; have hS := HT2.out.allocD; (with_reducible refine (HM.out _ a2 c2 _ hS.bel ((HO2.out.grow ((Below.refl _ _).alloc (Nat.le_refl _) _)).arg HO.out.1) (hS.s _ rfl)).mono ?_); rintro en w3 ⟨a3, c3, rfl, ho3, hb3⟩; simp only [DV]; have HT3 := Lib.hid (hS.below hb3); obtain ⟨_, _, _, _, _, _⟩ := (HT3.out.d _ rfl).1.facts; have HO3 := Lib.hid ho3; have n7 : w3.heap.size ≠ g := (by have := HT3.out.bel.size; omega); obtain ⟨z1, z3, z0⟩ := HC.out w3 HT3.out.bel; clear ho3 hb3 hS)
    | (go_at_call 113; have hS := HT2.out.allocD; (with_reducible refine (HM.out _ a2 c2 _ hS.bel ((HO2.out.grow ((Below.refl _ _).alloc (Nat.le_refl _) _)).arg HO.out.1) (hS.s _ rfl)).mono ?_); rintro en w3 ⟨a3, c3, rfl, ho3, hb3⟩; simp only [DV]; have HT3 := Lib.hid (hS.below hb3); have HO3 := Lib.hid ho3; have n7 : w3.heap.size ≠ g := (by have := HT3.out.bel.size; omega); obtain ⟨z1, z3, z0⟩ := HC.out w3 HT3.out.bel; clear ho3 hb3 hS)
    | (go_at_call 113; have hS := HT2.out.allocS.allocD; simp only [World.size_alloc] at hS; (with_reducible refine (HM.out _ a2 c2 _ hS.bel (((HO2.out.grow ((Below.refl _ _).alloc (Nat.le_refl _) _)).grow ((Below.refl _ _).alloc (Nat.le_refl _) _)).arg HO.out.1) (hS.s _ rfl)).mono ?_); rintro en w3 ⟨a3, c3, rfl, ho3, hb3⟩; simp only [DV]; have HT3 := Lib.hid (hS.below hb3); obtain ⟨_, _, _, _, _, _⟩ := (HT3.out.d _ rfl).1.facts; have HO3 := Lib.hid ho3; have n7 : w3.heap.size ≠ g := (by have := HT3.out.bel.size; omega); obtain ⟨z1, z3, z0⟩ := HC.out w3 HT3.out.bel; clear ho3 hb3 hS)
    | (go_at_call 113; have hS := HT2.out.allocS.allocD; simp only [World.size_alloc] at hS; (with_reducible refine (HM.out _ a2 c2 _ hS.bel (((HO2.out.grow ((Below.refl _ _).alloc (Nat.le_refl _) _)).grow ((Below.refl _ _).alloc (Nat.le_refl _) _)).arg HO.out.1) (hS.s _ rfl)).mono ?_); rintro en w3 ⟨a3, c3, rfl, ho3, hb3⟩; simp only [DV]; have HT3 := Lib.hid (hS.below hb3); have HO3 := Lib.hid ho3; have n7 : w3.heap.size ≠ g := (by have := HT3.out.bel.size; omega); obtain ⟨z1, z3, z0⟩ := HC.out w3 HT3.out.bel; clear ho3 hb3 hS)
    | (go_at_call 113; have hS := HT2.out.allocD.allocS; simp only [World.size_alloc] at hS; (with_reducible refine (HM.out _ a2 c2 _ hS.bel (((HO2.out.grow ((Below.refl _ _).alloc (Nat.le_refl _) _)).grow ((Below.refl _ _).alloc (Nat.le_refl _) _)).arg HO.out.1) (hS.s _ rfl)).mono ?_); rintro en w3 ⟨a3, c3, rfl, ho3, hb3⟩; simp only [DV]; have HT3 := Lib.hid (hS.below hb3); obtain ⟨_, _, _, _, _, _⟩ := (HT3.out.d _ rfl).1.facts; have HO3 := Lib.hid ho3; have n7 : w3.heap.size ≠ g := (by have := HT3.out.bel.size; omega); obtain ⟨z1, z3, z0⟩ := HC.out w3 HT3.out.bel; clear ho3 hb3 hS)
    | (go_at_call 113; have hS := HT2.out.allocD.allocS; simp only [World.size_alloc] at hS; (with_reducible refine (HM.out _ a2 c2 _ hS.bel (((HO2.out.grow ((Below.refl _ _).alloc (Nat.le_refl _) _)).grow ((Below.refl _ _).alloc (Nat.le_refl _) _)).arg HO.out.1) (hS.s _ rfl)).mono ?_); rintro en w3 ⟨a3, c3, rfl, ho3, hb3⟩; simp only [DV]; have HT3 := Lib.hid (hS.below hb3); have HO3 := Lib.hid ho3; have n7 : w3.heap.size ≠ g := (by have := HT3.out.bel.size; omega); obtain ⟨z1, z3, z0⟩ := HC.out w3 HT3.out.bel; clear ho3 hb3 hS))
  all_goals
    (first
      | (have HF := Lib.hid (HT3.out.fin HO.out.2 HO3.out (by first | (have h := (HT2.out.d _ rfl).1.lt; simp only [World.size_alloc]; omega) | (have h := (HT2.out.d _ rfl).1.lt; omega) | (simp only [World.size_alloc]; omega))))
      | (have HF := Lib.hid (HT3.out.finA HO.out.2 HO3.out)))
    try unfold wr3 at HF
    obtain ⟨_, _, _, _, _, _⟩ := HF.out.2.1.facts
    go_wp2_with fail
    refine (HRd.out _ a3 c3 HF.out.1 HF.out.2.2).mono ?_; rintro en w8 ⟨⟨r, er, rfl, hr⟩, hb⟩
    have HX := Lib.hid (HQ.out r er hr)
    have HB8 := Lib.hid (HF.out.1.trans (hb.mono HF.out.1.size))
    clear hr hb
    go_wp2_with fail
    go_ret
    exact ⟨r, rfl, HX.out, HB8.out⟩
end Go.Proofs.YthdbapibbdkclaaDoor

/- Contract of steelyardlaw07.Side.step. No statement of the seat is proved here. -/
import Derived.Test.YteahdgbokjbgcaaGreatDoorProg
import Derived.Test.YteahdgbokjbgcaaGreatDoorYF
namespace Go.Proofs.YteahdgbokjbgcaaGreatDoor
open Go.RowKit
set_option maxRecDepth 10000
set_option linter.unusedVariables false
set_option linter.unusedSimpArgs false

theorem mergeR_ok {A B : Ac} (hA : A.Ok) (hB : B.Ok) : (mergeR A B).2.Ok := by
  obtain ⟨a1, a2, a3, a4, a5, a6, a7, a8⟩ := hA
  obtain ⟨t1, t2, t3, t4, t5, t6, t7, t8⟩ := hB
  unfold mergeR
  split
  · exact ⟨a1, a2, a3, a4, a5, a6, a7, a8⟩
  · rename_i h1
    have h2 : ¬ Gt (A.T + B.T) := fun h => h1 (.inr h)
    have h3 : ¬ 1099511627776 < A.all + B.all := fun h => h1 (.inl h)
    exact ⟨h2, by show 0 ≤ A.nan + B.nan; omega, by show 0 ≤ A.up + B.up; omega, by show 0 ≤ A.down + B.down; omega, by show 0 ≤ A.minus + B.minus; omega, by show 0 ≤ A.plus + B.plus; omega, by show A.nan + B.nan + (A.up + B.up) + (A.down + B.down) + (A.minus + B.minus) + (A.plus + B.plus) ≤ A.all + B.all; omega, by show A.all + B.all ≤ _; omega⟩
theorem sd_step {W3 W4 W5 W6 : World} {g h : Nat} {A R2 : Ac} (h3 : SdAt W3 ⟨g, h, A⟩) (hA4 : AccAt W4 g R2) (hG4 : W3.grownBy W4 (some g)) (hb : Below W4.heap.size W4 W5) (hR6 : RAc W6 h R2) (hG6 : W5.grownBy W6 (some h)) (ok : R2.Ok) : SdAt W6 ⟨g, h, R2⟩ ∧ G2 W3 W6 g h := by
  have hr4 : RAc W4 h A := RAc.byAcc h3.b h3.a hG4
  have hr5 := hr4.grow hb
  have ha5 := acc_below hA4 hb (Tot.lt hA4)
  exact ⟨⟨AccAt.byRac ha5 hr5 hG6, hR6, ok⟩, ((G2.ofG hG4).trans (G2.below hb)).trans (G2.ofH hG6)⟩
def stV (kind on wth n : Int) (x y : Nat) (mode pn pi : Int) : Value := .agg #[.int .i64 kind, .int .i64 on, .int .i64 wth, .int .i64 n, .float .f64 x, .float .f64 y, .int .i64 mode, .int .i64 pn, .int .i64 pi]
/-- a step's frame: the side, the step, the other side as blocks -/
structure St7 (W : World) (k k2 k3 : Nat) (e f : Sd) (kind on wth n : Int) (x y : Nat) (mode pn pi : Int) : Prop where
  s : SdB W k e.g e.h
  o : W.heap[k2]? = some (.cells #[.int .i64 kind, .int .i64 on, .int .i64 wth, .int .i64 n, .float .f64 x, .float .f64 y, .int .i64 mode, .int .i64 pn, .int .i64 pi] 63 (0, 0))
  t : SdB W k3 f.g f.h
section
variable {W W' : World} {k k2 k3 : Nat} {e f : Sd} {kind on wth n : Int} {x y : Nat} {mode pn pi : Int}
theorem St7.cells (h : St7 W k k2 k3 e f kind on wth n x y mode pn pi) : W.cell? ⟨k, 0, none⟩ = some (.pointer (some ⟨e.g, 0, none⟩)) ∧ W.cell? ⟨k, 1, none⟩ = some (.pointer (some ⟨e.h, 0, none⟩)) ∧ W.cell? ⟨k3, 0, none⟩ = some (.pointer (some ⟨f.g, 0, none⟩)) ∧ W.cell? ⟨k3, 1, none⟩ = some (.pointer (some ⟨f.h, 0, none⟩)) ∧
    W.cell? ⟨k2, 0, none⟩ = some (.int .i64 kind) ∧ W.cell? ⟨k2, 3, none⟩ = some (.int .i64 n) ∧ W.cell? ⟨k2, 4, none⟩ = some (.float .f64 x) ∧ W.cell? ⟨k2, 5, none⟩ = some (.float .f64 y) ∧ W.cell? ⟨k2, 6, none⟩ = some (.int .i64 mode) ∧ W.cell? ⟨k2, 7, none⟩ = some (.int .i64 pn) ∧ W.cell? ⟨k2, 8, none⟩ = some (.int .i64 pi) := by
  obtain ⟨_, _, _, c3, c4, c5, c6, c7, c8⟩ := cells9 h.o
  exact ⟨h.s.cells.1, h.s.cells.2, h.t.cells.1, h.t.cells.2, (cells9 h.o).1, c3, c4, c5, c6, c7, c8⟩
theorem St7.keep (h : St7 W k k2 k3 e f kind on wth n x y mode pn pi) (hk : ∀ (j : Nat) (cs : Array Value) (T : TypeId) (fr : Nat × Nat), W.heap[j]? = some (.cells cs T fr) → T ≠ 124 → T ≠ 59 → W'.heap[j]? = some (.cells cs T fr)) : St7 W' k k2 k3 e f kind on wth n x y mode pn pi :=
  ⟨⟨hk _ _ _ _ h.s.row (by decide) (by decide)⟩, hk _ _ _ _ h.o (by decide) (by decide), ⟨hk _ _ _ _ h.t.row (by decide) (by decide)⟩⟩
theorem St7.g2 (h : St7 W k k2 k3 e f kind on wth n x y mode pn pi) {g hh : Nat} {A B : Ac} (ka : AccAt W g A) (kb : RAc W hh B) (hk : G2 W W' g hh) : St7 W' k k2 k3 e f kind on wth n x y mode pn pi :=
  h.keep fun j cs T fr hj h1 h2 => hk.row ka kb hj h1 h2
theorem St7.grow (h : St7 W k k2 k3 e f kind on wth n x y mode pn pi) (hb : Below W.heap.size W W') : St7 W' k k2 k3 e f kind on wth n x y mode pn pi :=
  h.keep fun j cs T fr hj _ _ => blk_below hj hb (Array.getElem?_eq_some_iff.1 hj).1
end
def StQ (e : Sd) (w : World) (en : Ending) (w' : World) : Prop := en = .returned (.bool true) ∧ ∃ A, SdAt w' ⟨e.g, e.h, A⟩ ∧ G2 w w' e.g e.h
theorem StQ.of {g h : Nat} {A B : Ac} {w W W' : World} (hb : Below w.heap.size w W) (hs : SdAt W' ⟨g, h, A⟩) (hg : G2 W W' g h) : StQ ⟨g, h, B⟩ w (.returned (.bool true)) W' := ⟨rfl, A, hs, (G2.below hb).trans hg⟩
set_option maxHeartbeats 16000000 in
theorem step7_add (e f : Sd) (kind on wth n : Int) (x y : Nat) (mode pn pi : Int) (w : World) (hkd : kind = 0) (hx : x < 18446744073709551616) (hy : y < 18446744073709551616) (hn1 : -9223372036854775808 ≤ n) (hn2 : n ≤ 9223372036854775807) (hT : Tab w) (he : SdAt w e) (hf : SdAt w f) (hef : f = e ∨ f.g ≠ e.g ∧ f.h ≠ e.h) :
    Calls Tryz.prog 25 #[sdV e, stV kind on wth n x y mode pn pi, sdV f] w (StQ e w) := by
  obtain ⟨g, hh, A⟩ := e
  obtain ⟨g', h', B⟩ := f
  obtain ⟨w1, e1⟩ : ∃ W, W = w.alloc (.cells #[.pointer (some ⟨g, 0, none⟩), .pointer (some ⟨hh, 0, none⟩)] 53) := ⟨_, rfl⟩
  obtain ⟨k1, b1, s1⟩ := new_of e1 rfl
  obtain ⟨w2, e2⟩ : ∃ W, W = w1.alloc (.cells #[.int .i64 kind, .int .i64 on, .int .i64 wth, .int .i64 n, .float .f64 x, .float .f64 y, .int .i64 mode, .int .i64 pn, .int .i64 pi] 63) := ⟨_, rfl⟩
  obtain ⟨k2, b2, s2⟩ := new_of e2 s1
  obtain ⟨w3, e3⟩ : ∃ W, W = w2.alloc (.cells #[.pointer (some ⟨g', 0, none⟩), .pointer (some ⟨h', 0, none⟩)] 53) := ⟨_, rfl⟩
  obtain ⟨k3, b3, s3⟩ := new_of e3 s2
  have hB3 := (b1.trans (b2.mono (by omega))).trans (b3.mono (by omega))
  obtain ⟨p1, hp1⟩ : ∃ p, p = w.heap.size := ⟨_, rfl⟩
  obtain ⟨p2, hp2⟩ : ∃ p, p = w.heap.size + 1 := ⟨_, rfl⟩
  obtain ⟨p3, hp3⟩ : ∃ p, p = w.heap.size + 2 := ⟨_, rfl⟩
  have hst : St7 w3 p1 p2 p3 ⟨g, hh, A⟩ ⟨g', h', B⟩ kind on wth n x y mode pn pi := by
    rw [hp1, hp2, hp3]
    exact ⟨⟨blk_below (blk_below k1 b2 (by omega)) b3 (by omega)⟩, blk_below k2 b3 (by omega), ⟨k3⟩⟩
  have HSt := Lib.hid hst
  have HE := Lib.hid (he.grow hB3)
  have HF := Lib.hid (hf.grow hB3)
  have HT := Lib.hid (fun W (hW : Below w.heap.size w W) => hT.grow hW)
  have HB3 := Lib.hid hB3
  have E1 := Lib.hid e1; have E2 := Lib.hid e2; have E3 := Lib.hid e3
  have P1 := Lib.hid hp1; have P2 : Hid (p2 = p1 + 1) := (by show p2 = p1 + 1; omega); have P3 : Hid (p3 = p2 + 1) := (by show p3 = p2 + 1; omega)
  have HEF := Lib.hid hef
  have HOk : Hid (A.Ok) := he.ok
  clear he hf hT hef e1 e2 e3 k1 k2 k3 b1 b2 b3 s1 s2 s3 hB3 hst hp1 hp2 hp3
  subst hkd
  obtain ⟨R, hR⟩ : ∃ R, R = addR A (numT x) := ⟨_, rfl⟩
  have hok : R.2.Ok := by rw [hR]; exact addR_ok HOk.out (numT_one x)
  have HPr : Hid (∀ W, AccAt W g A → Calls Tryz.prog 94 #[.pointer (some ⟨g, 0, none⟩), .float .f64 x] W (AccR R W g)) := by rw [hR]; exact fun W hW => accadd_any A x g W HOk.out hx hW
  have HOf := Lib.hid (fun W => of7_any x W hx)
  have HRf : Hid (∀ W d a c b, ThOk (numT x) (kindN x) d → Own W 118 b a c (words d.m) → RAc W hh A → Calls Tryz.prog 97 #[.pointer (some ⟨hh, 0, none⟩), thV (kindN x) d a c] W (RAccR R W hh)) := by rw [hR]; exact fun W d a c b h1 h2 h3 => radd7_any A (numT x) (kindN x) d a c hh b W HOk.out h1 (numT_bd x).1 (numT_bd x).2 h2 h3
  have HR2 := Lib.hid hok
  obtain ⟨KK, hKK⟩ : ∃ K, K = kindN x := ⟨_, rfl⟩
  rw [← hKK] at HOf HRf
  clear hR hok hKK hn1 hn2 HOk
  unfold sdV stV
  go_enter Tryz.func25, Tryz.ntmps25
  go_upto_region 1 with fail
  rw [← E1.out, ← E2.out, ← E3.out]
  rw [← P1.out, ← P2.out, ← P3.out]
  obtain ⟨c0, c1, c2, c3, c4, c5, c6, c7, c8, c9, c10⟩ := HSt.out.cells
  go_wp2_with fail
  refine (HPr.out w3 HE.out.a).mono ?_; rintro en w4 ⟨rfl, hA4, hG4⟩
  have HA4 := Lib.hid hA4; have HG4 := Lib.hid hG4
  have HSt4 := Lib.hid (HSt.out.g2 HE.out.a HE.out.b (G2.ofG hG4))
  have HRb4 := Lib.hid (RAc.byAcc HE.out.b HE.out.a hG4)
  clear hA4 hG4 c0 c1 c2 c3 c4 c5 c6 c7 c8 c9 c10
  obtain ⟨c0, c1, c2, c3, c4, c5, c6, c7, c8, c9, c10⟩ := HSt4.out.cells
  obtain ⟨R1, R2⟩ := R
  dsimp only at HRf HR2 HA4 HG4
  have HOf4 := Lib.hid (HOf.out w4.drew)
  clear c0 c2 c3 c4 c5 c8 c9 c10
  go_wp2_with fail
  go_region_held3 (fun V => V.cell? ⟨p1, 1, none⟩ = some (.pointer (some ⟨hh, 0, none⟩)) ∧ V.cell? ⟨p2, 4, none⟩ = some (.float .f64 x) ∧ V.cell? ⟨p2, 5, none⟩ = some (.float .f64 y)) (go_keep) (first
    | (go_at_call 98; (with_reducible refine HOf4.out.mono ?_); rintro en w5 ⟨d, a, c, rfl, ho, ht, hb⟩; have hb5 : Below w4.heap.size w4 w5 := below_drewN (n := 1) hb; have HB5 := Lib.hid hb5; have HSt5 := Lib.hid (HSt4.out.grow hb5); have HCall := Lib.hid (HRf.out w5 d a c _ ht ho (HRb4.out.grow hb5)); obtain ⟨_, c1, _, _, _, _, c6, c7, _, _, _⟩ := HSt5.out.cells; clear hb hb5 ho ht)
    | (go_at_call 97; (with_reducible refine HCall.out.mono ?_); rintro en w6 ⟨rfl, hR6, hG6⟩; have HFin := Lib.hid (sd_step HE.out HA4.out HG4.out HB5.out hR6 hG6 HR2.out); have HSt6 := Lib.hid (HSt.out.g2 HE.out.a HE.out.b HFin.out.2); obtain ⟨_, c1, _, _, _, _, c6, c7, _, _, _⟩ := HSt6.out.cells; clear hR6 hG6))
  all_goals
    go_wp2_with fail
    go_ret
    simp only [beq_self_eq_true]
    exact StQ.of HB3.out HFin.out.1 HFin.out.2
set_option maxHeartbeats 16000000 in
theorem step7_take (e f : Sd) (kind on wth n : Int) (x y : Nat) (mode pn pi : Int) (w : World) (hkd : kind = 1) (hx : x < 18446744073709551616) (hy : y < 18446744073709551616) (hn1 : -9223372036854775808 ≤ n) (hn2 : n ≤ 9223372036854775807) (hT : Tab w) (he : SdAt w e) (hf : SdAt w f) (hef : f = e ∨ f.g ≠ e.g ∧ f.h ≠ e.h) :
    Calls Tryz.prog 25 #[sdV e, stV kind on wth n x y mode pn pi, sdV f] w (StQ e w) := by
  obtain ⟨g, hh, A⟩ := e
  obtain ⟨g', h', B⟩ := f
  obtain ⟨w1, e1⟩ : ∃ W, W = w.alloc (.cells #[.pointer (some ⟨g, 0, none⟩), .pointer (some ⟨hh, 0, none⟩)] 53) := ⟨_, rfl⟩
  obtain ⟨k1, b1, s1⟩ := new_of e1 rfl
  obtain ⟨w2, e2⟩ : ∃ W, W = w1.alloc (.cells #[.int .i64 kind, .int .i64 on, .int .i64 wth, .int .i64 n, .float .f64 x, .float .f64 y, .int .i64 mode, .int .i64 pn, .int .i64 pi] 63) := ⟨_, rfl⟩
  obtain ⟨k2, b2, s2⟩ := new_of e2 s1
  obtain ⟨w3, e3⟩ : ∃ W, W = w2.alloc (.cells #[.pointer (some ⟨g', 0, none⟩), .pointer (some ⟨h', 0, none⟩)] 53) := ⟨_, rfl⟩
  obtain ⟨k3, b3, s3⟩ := new_of e3 s2
  have hB3 := (b1.trans (b2.mono (by omega))).trans (b3.mono (by omega))
  obtain ⟨p1, hp1⟩ : ∃ p, p = w.heap.size := ⟨_, rfl⟩
  obtain ⟨p2, hp2⟩ : ∃ p, p = w.heap.size + 1 := ⟨_, rfl⟩
  obtain ⟨p3, hp3⟩ : ∃ p, p = w.heap.size + 2 := ⟨_, rfl⟩
  have hst : St7 w3 p1 p2 p3 ⟨g, hh, A⟩ ⟨g', h', B⟩ kind on wth n x y mode pn pi := by
    rw [hp1, hp2, hp3]
    exact ⟨⟨blk_below (blk_below k1 b2 (by omega)) b3 (by omega)⟩, blk_below k2 b3 (by omega), ⟨k3⟩⟩
  have HSt := Lib.hid hst
  have HE := Lib.hid (he.grow hB3)
  have HF := Lib.hid (hf.grow hB3)
  have HT := Lib.hid (fun W (hW : Below w.heap.size w W) => hT.grow hW)
  have HB3 := Lib.hid hB3
  have E1 := Lib.hid e1; have E2 := Lib.hid e2; have E3 := Lib.hid e3
  have P1 := Lib.hid hp1; have P2 : Hid (p2 = p1 + 1) := (by show p2 = p1 + 1; omega); have P3 : Hid (p3 = p2 + 1) := (by show p3 = p2 + 1; omega)
  have HEF := Lib.hid hef
  have HOk : Hid (A.Ok) := he.ok
  clear he hf hT hef e1 e2 e3 k1 k2 k3 b1 b2 b3 s1 s2 s3 hB3 hst hp1 hp2 hp3
  subst hkd
  obtain ⟨R, hR⟩ : ∃ R, R = takeR A (numT x) := ⟨_, rfl⟩
  have hok : R.2.Ok := by rw [hR]; exact takeR_ok HOk.out (numT_one x)
  have HPr : Hid (∀ W, AccAt W g A → Calls Tryz.prog 99 #[.pointer (some ⟨g, 0, none⟩), .float .f64 x] W (AccR R W g)) := by rw [hR]; exact fun W hW => acctake_any A x g W HOk.out hx hW
  have HOf := Lib.hid (fun W => of7_any x W hx)
  have HRf : Hid (∀ W d a c b, ThOk (numT x) (kindN x) d → Own W 118 b a c (words d.m) → RAc W hh A → Calls Tryz.prog 100 #[.pointer (some ⟨hh, 0, none⟩), thV (kindN x) d a c] W (RAccR R W hh)) := by rw [hR]; exact fun W d a c b h1 h2 h3 => rtake7_any A (numT x) (kindN x) d a c hh b W HOk.out (kindN_bd x).1 (kindN_bd x).2 h1 (numT_bd x).1 (numT_bd x).2 h2 h3
  have HR2 := Lib.hid hok
  obtain ⟨KK, hKK⟩ : ∃ K, K = kindN x := ⟨_, rfl⟩
  rw [← hKK] at HOf HRf
  clear hR hok hKK hn1 hn2 HOk
  unfold sdV stV
  go_enter Tryz.func25, Tryz.ntmps25
  go_upto_region 1 with fail
  rw [← E1.out, ← E2.out, ← E3.out]
  rw [← P1.out, ← P2.out, ← P3.out]
  obtain ⟨c0, c1, c2, c3, c4, c5, c6, c7, c8, c9, c10⟩ := HSt.out.cells
  go_wp2_with fail
  refine (HPr.out w3 HE.out.a).mono ?_; rintro en w4 ⟨rfl, hA4, hG4⟩
  have HA4 := Lib.hid hA4; have HG4 := Lib.hid hG4
  have HSt4 := Lib.hid (HSt.out.g2 HE.out.a HE.out.b (G2.ofG hG4))
  have HRb4 := Lib.hid (RAc.byAcc HE.out.b HE.out.a hG4)
  clear hA4 hG4 c0 c1 c2 c3 c4 c5 c6 c7 c8 c9 c10
  obtain ⟨c0, c1, c2, c3, c4, c5, c6, c7, c8, c9, c10⟩ := HSt4.out.cells
  obtain ⟨R1, R2⟩ := R
  dsimp only at HRf HR2 HA4 HG4
  have HOf4 := Lib.hid (HOf.out w4.drew)
  clear c0 c2 c3 c4 c5 c8 c9 c10
  go_wp2_with fail
  go_region_held3 (fun V => V.cell? ⟨p1, 1, none⟩ = some (.pointer (some ⟨hh, 0, none⟩)) ∧ V.cell? ⟨p2, 4, none⟩ = some (.float .f64 x) ∧ V.cell? ⟨p2, 5, none⟩ = some (.float .f64 y)) (go_keep) (first
    | (go_at_call 98; (with_reducible refine HOf4.out.mono ?_); rintro en w5 ⟨d, a, c, rfl, ho, ht, hb⟩; have hb5 : Below w4.heap.size w4 w5 := below_drewN (n := 1) hb; have HB5 := Lib.hid hb5; have HSt5 := Lib.hid (HSt4.out.grow hb5); have HCall := Lib.hid (HRf.out w5 d a c _ ht ho (HRb4.out.grow hb5)); obtain ⟨_, c1, _, _, _, _, c6, c7, _, _, _⟩ := HSt5.out.cells; clear hb hb5 ho ht)
    | (go_at_call 100; (with_reducible refine HCall.out.mono ?_); rintro en w6 ⟨rfl, hR6, hG6⟩; have HFin := Lib.hid (sd_step HE.out HA4.out HG4.out HB5.out hR6 hG6 HR2.out); have HSt6 := Lib.hid (HSt.out.g2 HE.out.a HE.out.b HFin.out.2); obtain ⟨_, c1, _, _, _, _, c6, c7, _, _, _⟩ := HSt6.out.cells; clear hR6 hG6))
  all_goals
    go_wp2_with fail
    go_ret
    simp only [beq_self_eq_true]
    exact StQ.of HB3.out HFin.out.1 HFin.out.2
set_option maxHeartbeats 16000000 in
theorem step7_addp (e f : Sd) (kind on wth n : Int) (x y : Nat) (mode pn pi : Int) (w : World) (hkd : kind = 2) (hx : x < 18446744073709551616) (hy : y < 18446744073709551616) (hn1 : -9223372036854775808 ≤ n) (hn2 : n ≤ 9223372036854775807) (hT : Tab w) (he : SdAt w e) (hf : SdAt w f) (hef : f = e ∨ f.g ≠ e.g ∧ f.h ≠ e.h) :
    Calls Tryz.prog 25 #[sdV e, stV kind on wth n x y mode pn pi, sdV f] w (StQ e w) := by
  obtain ⟨g, hh, A⟩ := e
  obtain ⟨g', h', B⟩ := f
  obtain ⟨w1, e1⟩ : ∃ W, W = w.alloc (.cells #[.pointer (some ⟨g, 0, none⟩), .pointer (some ⟨hh, 0, none⟩)] 53) := ⟨_, rfl⟩
  obtain ⟨k1, b1, s1⟩ := new_of e1 rfl
  obtain ⟨w2, e2⟩ : ∃ W, W = w1.alloc (.cells #[.int .i64 kind, .int .i64 on, .int .i64 wth, .int .i64 n, .float .f64 x, .float .f64 y, .int .i64 mode, .int .i64 pn, .int .i64 pi] 63) := ⟨_, rfl⟩
  obtain ⟨k2, b2, s2⟩ := new_of e2 s1
  obtain ⟨w3, e3⟩ : ∃ W, W = w2.alloc (.cells #[.pointer (some ⟨g', 0, none⟩), .pointer (some ⟨h', 0, none⟩)] 53) := ⟨_, rfl⟩
  obtain ⟨k3, b3, s3⟩ := new_of e3 s2
  have hB3 := (b1.trans (b2.mono (by omega))).trans (b3.mono (by omega))
  obtain ⟨p1, hp1⟩ : ∃ p, p = w.heap.size := ⟨_, rfl⟩
  obtain ⟨p2, hp2⟩ : ∃ p, p = w.heap.size + 1 := ⟨_, rfl⟩
  obtain ⟨p3, hp3⟩ : ∃ p, p = w.heap.size + 2 := ⟨_, rfl⟩
  have hst : St7 w3 p1 p2 p3 ⟨g, hh, A⟩ ⟨g', h', B⟩ kind on wth n x y mode pn pi := by
    rw [hp1, hp2, hp3]
    exact ⟨⟨blk_below (blk_below k1 b2 (by omega)) b3 (by omega)⟩, blk_below k2 b3 (by omega), ⟨k3⟩⟩
  have HSt := Lib.hid hst
  have HE := Lib.hid (he.grow hB3)
  have HF := Lib.hid (hf.grow hB3)
  have HT := Lib.hid (fun W (hW : Below w.heap.size w W) => hT.grow hW)
  have HB3 := Lib.hid hB3
  have E1 := Lib.hid e1; have E2 := Lib.hid e2; have E3 := Lib.hid e3
  have P1 := Lib.hid hp1; have P2 : Hid (p2 = p1 + 1) := (by show p2 = p1 + 1; omega); have P3 : Hid (p3 = p2 + 1) := (by show p3 = p2 + 1; omega)
  have HEF := Lib.hid hef
  have HOk : Hid (A.Ok) := he.ok
  clear he hf hT hef e1 e2 e3 k1 k2 k3 b1 b2 b3 s1 s2 s3 hB3 hst hp1 hp2 hp3
  subst hkd
  obtain ⟨R, hR⟩ : ∃ R, R = addR A (prT x y) := ⟨_, rfl⟩
  have hok : R.2.Ok := by rw [hR]; exact addR_ok HOk.out (prT_one x y)
  have HPr : Hid (∀ W, AccAt W g A → Calls Tryz.prog 101 #[.pointer (some ⟨g, 0, none⟩), .float .f64 x, .float .f64 y] W (AccR R W g)) := by rw [hR]; exact fun W hW => accaddp_any A x y g W HOk.out hx hy hW
  have HOf := Lib.hid (fun W => of7p_any x y W hx hy)
  have HRf : Hid (∀ W d a c b, ThOk (prT x y) (kindP x y) d → Own W 118 b a c (words d.m) → RAc W hh A → Calls Tryz.prog 97 #[.pointer (some ⟨hh, 0, none⟩), thV (kindP x y) d a c] W (RAccR R W hh)) := by rw [hR]; exact fun W d a c b h1 h2 h3 => radd7_any A (prT x y) (kindP x y) d a c hh b W HOk.out h1 (prT_bd x y).1 (prT_bd x y).2 h2 h3
  have HR2 := Lib.hid hok
  obtain ⟨KK, hKK⟩ : ∃ K, K = kindP x y := ⟨_, rfl⟩
  unfold PrQ at HOf
  rw [← hKK] at HOf HRf
  clear hR hok hKK hn1 hn2 HOk
  unfold sdV stV
  go_enter Tryz.func25, Tryz.ntmps25
  go_upto_region 1 with fail
  rw [← E1.out, ← E2.out, ← E3.out]
  rw [← P1.out, ← P2.out, ← P3.out]
  obtain ⟨c0, c1, c2, c3, c4, c5, c6, c7, c8, c9, c10⟩ := HSt.out.cells
  go_wp2_with fail
  refine (HPr.out w3 HE.out.a).mono ?_; rintro en w4 ⟨rfl, hA4, hG4⟩
  have HA4 := Lib.hid hA4; have HG4 := Lib.hid hG4
  have HSt4 := Lib.hid (HSt.out.g2 HE.out.a HE.out.b (G2.ofG hG4))
  have HRb4 := Lib.hid (RAc.byAcc HE.out.b HE.out.a hG4)
  clear hA4 hG4 c0 c1 c2 c3 c4 c5 c6 c7 c8 c9 c10
  obtain ⟨c0, c1, c2, c3, c4, c5, c6, c7, c8, c9, c10⟩ := HSt4.out.cells
  obtain ⟨R1, R2⟩ := R
  dsimp only at HRf HR2 HA4 HG4
  have HOf4 := Lib.hid (HOf.out w4.drew)
  clear c0 c2 c3 c4 c5 c8 c9 c10
  go_wp2_with fail
  go_region_held3 (fun V => V.cell? ⟨p1, 1, none⟩ = some (.pointer (some ⟨hh, 0, none⟩)) ∧ V.cell? ⟨p2, 4, none⟩ = some (.float .f64 x) ∧ V.cell? ⟨p2, 5, none⟩ = some (.float .f64 y)) (go_keep) (first
    | (go_at_call 102; (with_reducible refine HOf4.out.mono ?_); rintro en w5 ⟨d, a, c, rfl, ho, ht, hb⟩; have hb5 : Below w4.heap.size w4 w5 := below_drewN (n := 1) hb; have HB5 := Lib.hid hb5; have HSt5 := Lib.hid (HSt4.out.grow hb5); have HCall := Lib.hid (HRf.out w5 d a c _ ht ho (HRb4.out.grow hb5)); obtain ⟨_, c1, _, _, _, _, c6, c7, _, _, _⟩ := HSt5.out.cells; clear hb hb5 ho ht)
    | (go_at_call 97; (with_reducible refine HCall.out.mono ?_); rintro en w6 ⟨rfl, hR6, hG6⟩; have HFin := Lib.hid (sd_step HE.out HA4.out HG4.out HB5.out hR6 hG6 HR2.out); have HSt6 := Lib.hid (HSt.out.g2 HE.out.a HE.out.b HFin.out.2); obtain ⟨_, c1, _, _, _, _, c6, c7, _, _, _⟩ := HSt6.out.cells; clear hR6 hG6))
  all_goals
    go_wp2_with fail
    go_ret
    simp only [beq_self_eq_true]
    exact StQ.of HB3.out HFin.out.1 HFin.out.2
set_option maxHeartbeats 16000000 in
theorem step7_takep (e f : Sd) (kind on wth n : Int) (x y : Nat) (mode pn pi : Int) (w : World) (hkd : kind = 3) (hx : x < 18446744073709551616) (hy : y < 18446744073709551616) (hn1 : -9223372036854775808 ≤ n) (hn2 : n ≤ 9223372036854775807) (hT : Tab w) (he : SdAt w e) (hf : SdAt w f) (hef : f = e ∨ f.g ≠ e.g ∧ f.h ≠ e.h) :
    Calls Tryz.prog 25 #[sdV e, stV kind on wth n x y mode pn pi, sdV f] w (StQ e w) := by
  obtain ⟨g, hh, A⟩ := e
  obtain ⟨g', h', B⟩ := f
  obtain ⟨w1, e1⟩ : ∃ W, W = w.alloc (.cells #[.pointer (some ⟨g, 0, none⟩), .pointer (some ⟨hh, 0, none⟩)] 53) := ⟨_, rfl⟩
  obtain ⟨k1, b1, s1⟩ := new_of e1 rfl
  obtain ⟨w2, e2⟩ : ∃ W, W = w1.alloc (.cells #[.int .i64 kind, .int .i64 on, .int .i64 wth, .int .i64 n, .float .f64 x, .float .f64 y, .int .i64 mode, .int .i64 pn, .int .i64 pi] 63) := ⟨_, rfl⟩
  obtain ⟨k2, b2, s2⟩ := new_of e2 s1
  obtain ⟨w3, e3⟩ : ∃ W, W = w2.alloc (.cells #[.pointer (some ⟨g', 0, none⟩), .pointer (some ⟨h', 0, none⟩)] 53) := ⟨_, rfl⟩
  obtain ⟨k3, b3, s3⟩ := new_of e3 s2
  have hB3 := (b1.trans (b2.mono (by omega))).trans (b3.mono (by omega))
  obtain ⟨p1, hp1⟩ : ∃ p, p = w.heap.size := ⟨_, rfl⟩
  obtain ⟨p2, hp2⟩ : ∃ p, p = w.heap.size + 1 := ⟨_, rfl⟩
  obtain ⟨p3, hp3⟩ : ∃ p, p = w.heap.size + 2 := ⟨_, rfl⟩
  have hst : St7 w3 p1 p2 p3 ⟨g, hh, A⟩ ⟨g', h', B⟩ kind on wth n x y mode pn pi := by
    rw [hp1, hp2, hp3]
    exact ⟨⟨blk_below (blk_below k1 b2 (by omega)) b3 (by omega)⟩, blk_below k2 b3 (by omega), ⟨k3⟩⟩
  have HSt := Lib.hid hst
  have HE := Lib.hid (he.grow hB3)
  have HF := Lib.hid (hf.grow hB3)
  have HT := Lib.hid (fun W (hW : Below w.heap.size w W) => hT.grow hW)
  have HB3 := Lib.hid hB3
  have E1 := Lib.hid e1; have E2 := Lib.hid e2; have E3 := Lib.hid e3
  have P1 := Lib.hid hp1; have P2 : Hid (p2 = p1 + 1) := (by show p2 = p1 + 1; omega); have P3 : Hid (p3 = p2 + 1) := (by show p3 = p2 + 1; omega)
  have HEF := Lib.hid hef
  have HOk : Hid (A.Ok) := he.ok
  clear he hf hT hef e1 e2 e3 k1 k2 k3 b1 b2 b3 s1 s2 s3 hB3 hst hp1 hp2 hp3
  subst hkd
  obtain ⟨R, hR⟩ : ∃ R, R = takeR A (prT x y) := ⟨_, rfl⟩
  have hok : R.2.Ok := by rw [hR]; exact takeR_ok HOk.out (prT_one x y)
  have HPr : Hid (∀ W, AccAt W g A → Calls Tryz.prog 103 #[.pointer (some ⟨g, 0, none⟩), .float .f64 x, .float .f64 y] W (AccR R W g)) := by rw [hR]; exact fun W hW => acctakep_any A x y g W HOk.out hx hy hW
  have HOf := Lib.hid (fun W => of7p_any x y W hx hy)
  have HRf : Hid (∀ W d a c b, ThOk (prT x y) (kindP x y) d → Own W 118 b a c (words d.m) → RAc W hh A → Calls Tryz.prog 100 #[.pointer (some ⟨hh, 0, none⟩), thV (kindP x y) d a c] W (RAccR R W hh)) := by rw [hR]; exact fun W d a c b h1 h2 h3 => rtake7_any A (prT x y) (kindP x y) d a c hh b W HOk.out (kindPB_bd _ _ _).1 (kindPB_bd _ _ _).2 h1 (prT_bd x y).1 (prT_bd x y).2 h2 h3
  have HR2 := Lib.hid hok
  obtain ⟨KK, hKK⟩ : ∃ K, K = kindP x y := ⟨_, rfl⟩
  unfold PrQ at HOf
  rw [← hKK] at HOf HRf
  clear hR hok hKK hn1 hn2 HOk
  unfold sdV stV
  go_enter Tryz.func25, Tryz.ntmps25
  go_upto_region 1 with fail
  rw [← E1.out, ← E2.out, ← E3.out]
  rw [← P1.out, ← P2.out, ← P3.out]
  obtain ⟨c0, c1, c2, c3, c4, c5, c6, c7, c8, c9, c10⟩ := HSt.out.cells
  go_wp2_with fail
  refine (HPr.out w3 HE.out.a).mono ?_; rintro en w4 ⟨rfl, hA4, hG4⟩
  have HA4 := Lib.hid hA4; have HG4 := Lib.hid hG4
  have HSt4 := Lib.hid (HSt.out.g2 HE.out.a HE.out.b (G2.ofG hG4))
  have HRb4 := Lib.hid (RAc.byAcc HE.out.b HE.out.a hG4)
  clear hA4 hG4 c0 c1 c2 c3 c4 c5 c6 c7 c8 c9 c10
  obtain ⟨c0, c1, c2, c3, c4, c5, c6, c7, c8, c9, c10⟩ := HSt4.out.cells
  obtain ⟨R1, R2⟩ := R
  dsimp only at HRf HR2 HA4 HG4
  have HOf4 := Lib.hid (HOf.out w4.drew)
  clear c0 c2 c3 c4 c5 c8 c9 c10
  go_wp2_with fail
  go_region_held3 (fun V => V.cell? ⟨p1, 1, none⟩ = some (.pointer (some ⟨hh, 0, none⟩)) ∧ V.cell? ⟨p2, 4, none⟩ = some (.float .f64 x) ∧ V.cell? ⟨p2, 5, none⟩ = some (.float .f64 y)) (go_keep) (first
    | (go_at_call 102; (with_reducible refine HOf4.out.mono ?_); rintro en w5 ⟨d, a, c, rfl, ho, ht, hb⟩; have hb5 : Below w4.heap.size w4 w5 := below_drewN (n := 1) hb; have HB5 := Lib.hid hb5; have HSt5 := Lib.hid (HSt4.out.grow hb5); have HCall := Lib.hid (HRf.out w5 d a c _ ht ho (HRb4.out.grow hb5)); obtain ⟨_, c1, _, _, _, _, c6, c7, _, _, _⟩ := HSt5.out.cells; clear hb hb5 ho ht)
    | (go_at_call 100; (with_reducible refine HCall.out.mono ?_); rintro en w6 ⟨rfl, hR6, hG6⟩; have HFin := Lib.hid (sd_step HE.out HA4.out HG4.out HB5.out hR6 hG6 HR2.out); have HSt6 := Lib.hid (HSt.out.g2 HE.out.a HE.out.b HFin.out.2); obtain ⟨_, c1, _, _, _, _, c6, c7, _, _, _⟩ := HSt6.out.cells; clear hR6 hG6))
  all_goals
    go_wp2_with fail
    go_ret
    simp only [beq_self_eq_true]
    exact StQ.of HB3.out HFin.out.1 HFin.out.2
end Go.Proofs.YteahdgbokjbgcaaGreatDoor

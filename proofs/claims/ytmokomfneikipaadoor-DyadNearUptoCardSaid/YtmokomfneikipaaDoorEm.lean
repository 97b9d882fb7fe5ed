/- Contract of steelyardlaw03.took. No statement of the seat is proved here. -/
import Derived.Test.YtmokomfneikipaaDoorProg
import Derived.Test.YtmokomfneikipaaDoorEl
import Derived.Test.YtmokomfneikipaaDoorRh
namespace Go.Proofs.YtmokomfneikipaaDoor
open Go.RowKit
set_option linter.unusedVariables false
set_option linter.unusedSimpArgs false

/-- Dyads that came out, one behind another -/
def Chain (w : World) : Nat → List Arg → Prop
  | _, [] => True
  | base, x :: xs => Own w 64 base x.a x.c x.l ∧ ∃ mid, base ≤ mid ∧ (∀ ad, x.a = some ad → ad.block < mid) ∧ Chain w mid xs
theorem Chain.grow {w w' : World} {base : Nat} {xs : List Arg} (h : Chain w base xs) (hb : Below w.heap.size w w') : Chain w' base xs := by
  induction xs generalizing base with
  | nil => trivial
  | cons x xs ih =>
    obtain ⟨h1, mid, h2, h3, h4⟩ := h
    exact ⟨h1.grow hb, mid, h2, h3, ih h4⟩
theorem Chain.mono {w : World} {base b : Nat} {xs : List Arg} (h : Chain w base xs) (hb : b ≤ base) : Chain w b xs := by
  cases xs with
  | nil => trivial
  | cons x xs =>
    obtain ⟨h1, mid, h2, h3, h4⟩ := h
    exact ⟨h1.mono hb, mid, by omega, h3, h4⟩
theorem Own.lt {w : World} {e : TypeId} {base c : Nat} {a : Option Addr} {l : List Nat} (h : Own w e base a c l) (ad : Addr) (ha : a = some ad) : ad.block < w.heap.size := by
  rcases h with ⟨h1, _⟩ | ⟨g, t, h0, h1, h2, h3, h4⟩
  · rw [h1] at ha; cases ha
  · rw [h0] at ha; cases ha; exact h4.lt
theorem Own.ge {w : World} {e : TypeId} {base c : Nat} {a : Option Addr} {l : List Nat} (h : Own w e base a c l) (ad : Addr) (ha : a = some ad) : base ≤ ad.block := by
  rcases h with ⟨h1, _⟩ | ⟨g, t, h0, h1, h2, h3, h4⟩
  · rw [h1] at ha; cases ha
  · rw [h0] at ha; cases ha; exact h1
theorem Chain.own {w : World} {base : Nat} {xs : List Arg} (h : Chain w base xs) {x : Arg} (hx : x ∈ xs) : Own w 64 base x.a x.c x.l := by
  induction xs generalizing base with
  | nil => cases hx
  | cons y ys ih =>
    obtain ⟨h1, mid, h2, h3, h4⟩ := h
    rcases List.mem_cons.1 hx with rfl | hx
    · exact h1
    · exact (ih h4 hx).mono h2
def svOf (x : Arg) : Sv := (x.a, x.l.length, x.c)
theorem Chain.apart {w : World} {base : Nat} {xs : List Arg} (h : Chain w base xs) : Apart (xs.map svOf) := by
  have key : ∀ (base : Nat) (xs : List Arg), Chain w base xs → ∀ (i j : Nat) (x y : Arg) (g k : Addr), i < j → xs[i]? = some x → xs[j]? = some y → x.a = some g → y.a = some k → g.block < k.block := by
    intro base xs
    induction xs generalizing base with
    | nil => intro _ i j x y g k hij h1; simp at h1
    | cons z zs ih =>
      intro h i j x y g k hij h1 h2 h3 h4
      obtain ⟨_, mid, _, h6, h7⟩ := h
      obtain ⟨j', rfl⟩ : ∃ j', j = j' + 1 := ⟨j - 1, by omega⟩
      rw [List.getElem?_cons_succ] at h2
      cases i with
      | zero =>
        simp at h1; subst h1
        have := h6 g h3
        have := (h7.own (List.mem_of_getElem? h2)).ge k h4
        omega
      | succ i =>
        rw [List.getElem?_cons_succ] at h1
        exact ih mid h7 i j' x y g k (by omega) h1 h2 h3 h4
  intro i j e f g k hij h1 h2 h3 h4
  rw [List.getElem?_map] at h1 h2
  obtain ⟨x, hx, rfl⟩ := Option.map_eq_some_iff.1 h1
  obtain ⟨y, hy, rfl⟩ := Option.map_eq_some_iff.1 h2
  rcases Nat.lt_or_ge i j with h5 | h5
  · have := key base xs h i j x y g k h5 hx hy h3 h4; omega
  · have := key base xs h j i y x k g (by omega) hy hx h4 h3; omega
theorem BookAt.mono {w : World} {base b B : Nat} {v : Value} {k : Nat} {xs : List Value} (h : BookAt w base B v k xs) (hb : b ≤ base) : BookAt w b B v k xs := by
  refine ⟨h.1, h.2.1, ?_⟩
  rcases h.2.2 with h1 | ⟨g, cap, cur, h2, h3, h4⟩
  · exact .inl h1
  · exact .inr ⟨g, cap, cur, h2, by omega, h4⟩
theorem BookAt.grow {w w' : World} {base B : Nat} {v : Value} {k : Nat} {xs : List Value} (h : BookAt w base B v k xs) (hb : Below w.heap.size w w') : BookAt w' base B v k xs := by
  refine ⟨(hb.block B (lt_of_block h.1)).trans h.1, h.2.1, ?_⟩
  rcases h.2.2 with h1 | ⟨g, cap, cur, h2, h3, h4, h5⟩
  · exact .inl h1
  · exact .inr ⟨g, cap, cur, h2, h3, (hb.block g (lt_of_block h4)).trans h4, h5⟩
/-- a list of Dyads at a block -/
def Dys (w : World) (g : Nat) (xs : List Arg) : Prop := ∀ i x, xs[i]? = some x → w.cell? ⟨g, i * 3, none⟩ = some (.bool x.s) ∧ w.cell? ⟨g, i * 3 + 1, none⟩ = some (.slice x.a x.l.length x.c) ∧ w.cell? ⟨g, i * 3 + 2, none⟩ = some (.int .i64 x.e)
theorem Dys.below {w w' : World} {g B : Nat} {xs : List Arg} (h : Dys w g xs) (hb : Below B w w') (hg : g < B) : Dys w' g xs := by
  intro i x hx
  obtain ⟨h1, h2, h3⟩ := h i x hx
  rw [hb.cell (p := ⟨g, i * 3, none⟩) hg, hb.cell (p := ⟨g, i * 3 + 1, none⟩) hg, hb.cell (p := ⟨g, i * 3 + 2, none⟩) hg]
  exact ⟨h1, h2, h3⟩

set_option maxRecDepth 10000 in
set_option maxHeartbeats 4000000 in
theorem took_any (base g k : Nat) (xs ys : List Arg) (w : World) (hbase : base ≤ w.heap.size) (hn : xs.length ≤ 100) (hlen : ys.length = xs.length) (hg : g < w.heap.size) (hk : k < w.heap.size) (hdx : Dys w g xs) (hdy : Dys w k ys)
    (hc : Chain w base xs) (hx : ∀ x ∈ xs, x.Ok w ∧ x.l.length ≤ 10000) (hy : ∀ y ∈ ys, y.Ok w) (hsame : ∀ (i : Nat) (x y : Arg), xs[i]? = some x → ys[i]? = some y → x.s = y.s ∧ x.e = y.e ∧ x.l = y.l) :
    Calls Tryd.prog 19 #[.slice (some ⟨g, 0, none⟩) xs.length xs.length, .slice (some ⟨k, 0, none⟩) ys.length ys.length] w fun en w' => en = .returned (.bool true) ∧ BK (fun j => j < w.heap.size ∧ ∀ x ∈ xs, ∀ ad, x.a = some ad → ad.block ≠ j) base w w' := by
  obtain ⟨K, hK⟩ : ∃ K : Nat → Prop, K = fun j => j < w.heap.size ∧ ∀ x ∈ xs, ∀ ad, x.a = some ad → ad.block ≠ j := ⟨_, rfl⟩
  rw [← hK]
  have HKK := Lib.hid hK; clear hK
  have HDX := Lib.hid hdx; have HDY := Lib.hid hdy; have HC := Lib.hid hc; have HX := Lib.hid hx; have HY := Lib.hid hy; have HS := Lib.hid hsame
  have HLEN := Lib.hid hlen
  clear hdx hdy hc hx hy hsame hlen
  go_enter Tryd.func19, Tryd.ntmps19
  go_wp2_with fail
  obtain ⟨w1, h1⟩ : ∃ W, W = w.alloc (.cells #[.slice none 0 0] 79) := ⟨_, rfl⟩
  rw [← h1]
  obtain ⟨k1, hB1, s1⟩ := new_of h1 rfl
  clear h1
  have hbk : BookAt w1 w.heap.size w.heap.size (.slice none 0 0) 0 [] := ⟨k1, rfl, .inl ⟨rfl, rfl⟩⟩
  have HBK := Lib.hid hbk; have HB1 := Lib.hid hB1; clear hbk hB1 k1
  go_loopw [6] (fun i wr => ∃ (n : Nat) (v : Value), n ≤ xs.length ∧ i = .int .i64 n ∧ Hid (BookAt wr w.heap.size w.heap.size v n ((xs.take n).map fun x => .slice x.a x.l.length x.c)) ∧ Below w.heap.size w wr) (fun i _ => xs.length - (intOf i).toNat)
  case atStart => exact ⟨0, .slice none 0 0, Nat.zero_le _, rfl, HBK.out, HB1.out⟩
  case round =>
    obtain ⟨n, v, hnl, rfl, hbk, hbr⟩ := hrel
    by_cases hlt : n < xs.length
    · obtain ⟨x, hx⟩ : ∃ x, xs[n]? = some x := ⟨xs[n], by rw [List.getElem?_eq_getElem hlt]⟩
      obtain ⟨y, hy⟩ : ∃ y, ys[n]? = some y := ⟨ys[n]'(by have := HLEN.out; omega), by rw [List.getElem?_eq_getElem]⟩
      obtain ⟨x0, x1, x2⟩ := HDX.out.below hbr hg n x hx
      obtain ⟨y0, y1, y2⟩ := HDY.out.below hbr hk n y hy
      have hlt2 : n < ys.length := by have := HLEN.out; omega
      have hxk := HX.out x (List.mem_of_getElem? hx)
      have hyk := HY.out y (List.mem_of_getElem? hy)
      have hSm : ∀ W, Below w.heap.size w W → Calls Tryd.prog 44 #[.agg #[.bool x.s, .slice x.a x.l.length x.c, .int .i64 x.e], .agg #[.bool y.s, .slice y.a y.l.length y.c, .int .i64 y.e]] W fun en w' => en = .returned (.bool true) ∧ Below W.heap.size W w' :=
        fun W hw => same_any x y W (hxk.1.grow hw) (hyk.grow hw) (HS.out n x y hx hy)
      have HSm := Lib.hid hSm; have HXX := Lib.hid hx; clear hSm hxk hyk hx hy
      go_wp2_with fail
      go_region_held3 (fun W => W.cell? ⟨g, n * 3, none⟩ = some (.bool x.s) ∧ W.cell? ⟨g, n * 3 + 1, none⟩ = some (.slice x.a x.l.length x.c) ∧ W.cell? ⟨g, n * 3 + 2, none⟩ = some (.int .i64 x.e) ∧ W.cell? ⟨k, n * 3, none⟩ = some (.bool y.s) ∧ W.cell? ⟨k, n * 3 + 1, none⟩ = some (.slice y.a y.l.length y.c) ∧ W.cell? ⟨k, n * 3 + 2, none⟩ = some (.int .i64 y.e)) (go_keep) (first
        | (go_at_call 44; refine (HSm.out _ hbr.drew).mono ?_; rintro en w2 ⟨rfl, hb2⟩; have b2 := below_drewN (n := 1) hb2; have x0' := (b2.cell (p := ⟨g, n * 3, none⟩) (by have := hbr.size; simp; omega)).trans x0; have x1' := (b2.cell (p := ⟨g, n * 3 + 1, none⟩) (by have := hbr.size; simp; omega)).trans x1; have x2' := (b2.cell (p := ⟨g, n * 3 + 2, none⟩) (by have := hbr.size; simp; omega)).trans x2; have y0' := (b2.cell (p := ⟨k, n * 3, none⟩) (by have := hbr.size; simp; omega)).trans y0; have y1' := (b2.cell (p := ⟨k, n * 3 + 1, none⟩) (by have := hbr.size; simp; omega)).trans y1; have y2' := (b2.cell (p := ⟨k, n * 3 + 2, none⟩) (by have := hbr.size; simp; omega)).trans y2))
      all_goals
        have bg : Below wr.heap.size wr w2 := b2.mono (by simp)
        have hbk2 : BookAt w2 w.heap.size w.heap.size v n ((xs.take n).map fun x => .slice x.a x.l.length x.c) := hbk.out.grow bg
        have hbr2 : Below w.heap.size w w2 := hbr.trans (bg.mono hbr.size)
        have hTk := take_any w.heap.size w.heap.size v n _ x.a x.l.length x.c w2 (by omega) hbr2.size hbk2
        have hvb : ∀ j, j < w.heap.size → j ≠ w.heap.size ∧ some j ≠ v.ownBlock := by
          intro j hj
          refine ⟨by omega, ?_⟩
          rcases hbk2.2.2 with ⟨rfl, _⟩ | ⟨g', cap, cur, rfl, h3, _⟩
          · simp [Value.ownBlock]
          · simp [Value.ownBlock]; omega
        have HTk := Lib.hid hTk; have HVB := Lib.hid hvb; have HBR2 := Lib.hid hbr2
        clear hTk hvb hbk2 hbr2 bg b2 hb2
        go_wp2_with fail
        refine HTk.out.mono ?_; rintro en w3 ⟨rfl, v', hbk3, hkeep, h3os, h3tape, h3out, h3size⟩
        have hbr3 : Below w.heap.size w w3 := ⟨h3os.trans HBR2.out.os, h3tape.trans HBR2.out.tape, h3out.trans HBR2.out.output, Nat.le_trans HBR2.out.size h3size, fun j hj => (hkeep j (Nat.lt_of_lt_of_le hj HBR2.out.size) (HVB.out j hj).1 (HVB.out j hj).2).trans (HBR2.out.block j hj)⟩
        have hbk4 : BookAt w3 w.heap.size w.heap.size v' (n + 1) ((xs.take (n + 1)).map fun x => .slice x.a x.l.length x.c) := by
          rw [take_succ_get HXX.out, List.map_append]; exact hbk3
        have HBK4 := Lib.hid hbk4; have HBR3 := Lib.hid hbr3; clear hbk4 hbr3 hbk3 hkeep
        go_wp2_with fail
        go_roundw
        case rel => exact ⟨n + 1, v', by omega, by go_num, HBK4.out, HBR3.out⟩
        case measure => simp [intOf]; omega
    · have hnn : n = xs.length := by omega
      have hbkE : BookAt wr base w.heap.size v (xs.map svOf).length ((xs.map svOf).map Sv.val) := by
        have h1 : BookAt wr w.heap.size w.heap.size v n ((xs.take n).map fun x => .slice x.a x.l.length x.c) := hbk
        rw [hnn, List.take_length] at h1
        rw [List.length_map, List.map_map]
        exact h1.mono hbase
      have hcw : Chain wr base xs := HC.out.grow hbr
      have hOw := owned_any K base w.heap.size v (xs.map svOf) wr (by intro j hj; rw [HKK.out] at hj; have := hbr.size; omega) (by
        intro e he g hg hk
        obtain ⟨x, hx, rfl⟩ := List.mem_map.1 he
        rw [HKK.out] at hk
        exact hk.2 x hx g hg rfl) (by simp; omega) (Nat.le_trans hbase hbr.size) hbkE hcw.apart (by
        intro j e he
        rw [List.getElem?_map] at he
        obtain ⟨x, hx, rfl⟩ := Option.map_eq_some_iff.1 he
        have h0 : doneTo 0 0 j (svOf x).2.1 = 0 := by unfold doneTo; simp
        rw [h0]
        exact Ent.start _ (hcw.own (List.mem_of_getElem? hx))) (by
        intro j e he
        rw [List.getElem?_map] at he
        obtain ⟨x, hx, rfl⟩ := Option.map_eq_some_iff.1 he
        have := (HX.out x (List.mem_of_getElem? hx)).2
        show x.l.length ≤ 1000000
        omega)
      have HOw := Lib.hid hOw; have HBr := Lib.hid hbr; clear hOw hbkE hcw hbk hbr
      go_wp2_with fail
      refine HOw.out.mono ?_; rintro en w2 ⟨rfl, hb2⟩
      go_wp2
      go_ret
      refine ⟨rfl, ⟨(HBr.out.mono hbase).trans hb2.b, fun j hj => ?_⟩⟩
      have hj2 := hj
      rw [HKK.out] at hj2
      exact (hb2.k j hj).trans (HBr.out.block j hj2.1)
end Go.Proofs.YtmokomfneikipaaDoor

/- Contract of sums.Alike. No statement of the seat is proved here. -/
import Derived.Test.YthdbapibbdkclaaDoorProg
import Derived.Test.YthdbapibbdkclaaDoorHf
import Derived.Test.YthdbapibbdkclaaDoorMT
namespace Go.Proofs.YthdbapibbdkclaaDoor
open Go.RowKit
set_option maxRecDepth 10000
set_option linter.unusedVariables false
set_option linter.unusedSimpArgs false

/-- what a list comes to in bins -/
def bnL (l : List Nat) : Bn := l.foldl (fun A b => A.sum (bn1 b)) Bn.zero
theorem bnL_snoc (l : List Nat) {k : Nat} (hk : k < l.length) : bnL (l.take (k + 1)) = (bnL (l.take k)).sum (bn1 (l.getD k 0)) := by
  unfold bnL
  rw [take_succ_get (x := l.getD k 0) (by rw [List.getD_eq_getElem?_getD, List.getElem?_eq_getElem hk]; rfl), List.foldl_append]; rfl
theorem bnL_n (l : List Nat) : (bnL l).n = l.length := by
  suffices h : ∀ (l : List Nat) (A : Bn), (l.foldl (fun A b => A.sum (bn1 b)) A).n = A.n + l.length by
    have := h l Bn.zero
    unfold bnL; rw [this]; show 0 + _ = _; omega
  intro l
  induction l with
  | nil => intro A; rfl
  | cons x l ih => intro A; rw [List.foldl_cons, ih]; show A.n + 1 + l.length = A.n + (l.length + 1); omega
theorem bnL_ok {l : List Nat} (h : l.length ≤ 1099511627776) : (bnL l).Ok := by
  suffices h : ∀ k, k ≤ l.length → (bnL (l.take k)).Ok by
    have := h l.length (Nat.le_refl _)
    rwa [List.take_length] at this
  intro k
  induction k with
  | zero => intro _; rw [List.take_zero]; exact Bn.zero_ok
  | succ k ih =>
    intro hk
    rw [bnL_snoc l (by omega)]
    refine (ih (by omega)).sum (bn1_ok _) ?_
    rw [bnL_n]
    show (l.take k).length + 1 ≤ _
    rw [List.length_take]; omega
/-- a number that bins take -/
def finB (b : Nat) : Prop := b % 9223372036854775808 < 9218868437227405312
def AlR (l : List Nat) (fold : Int) (r : Nat) (er : Int) : Prop :=
  ((fold < 1 ∨ 8 < fold) ∧ r = 0 ∧ er = 1) ∨ (¬ (fold < 1 ∨ 8 < fold) ∧ 65536 < l.length ∧ r = 0 ∧ er = 2) ∨ (¬ (fold < 1 ∨ 8 < fold) ∧ l.length ≤ 65536 ∧ (∃ x ∈ l, ¬ finB x) ∧ r = 0 ∧ er = 30) ∨
  (¬ (fold < 1 ∨ 8 < fold) ∧ l.length ≤ 65536 ∧ (∀ x ∈ l, finB x) ∧ RoundsTo 52 (-1074) 9218868437227405312 9223372036854775808 0 (zO (-1088) ((bnL l).kS fold.toNat)) r er)
theorem AlR.uniq {l : List Nat} {fold : Int} {r r' : Nat} {e e' : Int} (h : AlR l fold r e) (h' : AlR l fold r' e') : r = r' ∧ e = e' := by
  rcases h with ⟨a, rfl, rfl⟩ | ⟨a, b, rfl, rfl⟩ | ⟨a, b, ⟨x, x1, x2⟩, rfl, rfl⟩ | ⟨a, b, c, d⟩ <;> rcases h' with ⟨a', rfl, rfl⟩ | ⟨a', b', rfl, rfl⟩ | ⟨a', b', ⟨y, y1, y2⟩, rfl, rfl⟩ | ⟨a', b', c', d'⟩
  all_goals first
    | exact ⟨rfl, rfl⟩
    | exact absurd a a'
    | exact absurd a' a
    | exact d.uniq d'
    | exact absurd (c y y1) y2
    | exact absurd (c' x x1) x2
    | (exfalso; omega)
def AlQ (l : List Nat) (fold : Int) (w : World) (en : Ending) (w' : World) : Prop := ∃ (r : Nat) (er : Int), en = .returned (.tuple #[.float .f64 r, .int .i64 er]) ∧ AlR l fold r er ∧ Below w.heap.size w w'
structure AlU (w W : World) (g f : Nat) (A : Bn) : Prop where
  at' : BinAt W g f A
  bel : Below w.heap.size w W
set_option maxHeartbeats 4000000 in
theorem salike_any (a : Option Addr) (c : Nat) (l : List Nat) (fold : Int) (w : World) (hl : FSl w a c l) (hT : Tab w) : Calls Tryd.prog 52 #[.slice a l.length c, .int .i64 fold] w (AlQ l fold w) := by
  by_cases m1 : fold < 1
  · go_enter Tryd.func52, Tryd.ntmps52
    go_wp2_with fail
    go_ret2
    exact ⟨0, 1, rfl, .inl ⟨.inl m1, rfl, rfl⟩, Below.refl _ _⟩
  by_cases m2 : 8 < fold
  · go_enter Tryd.func52, Tryd.ntmps52
    go_wp2_with fail
    go_ret2
    exact ⟨0, 1, rfl, .inl ⟨.inr m2, rfl, rfl⟩, Below.refl _ _⟩
  by_cases m3 : 65536 < l.length
  · go_enter Tryd.func52, Tryd.ntmps52
    go_wp2_with fail
    go_ret2
    exact ⟨0, 2, rfl, .inr (.inl ⟨by omega, m3, rfl, rfl⟩), Below.refl _ _⟩
  obtain ⟨f, rfl⟩ : ∃ f : Nat, fold = (f : Int) := ⟨fold.toNat, by omega⟩
  have f1 : 1 ≤ f := by omega
  have f2 : f ≤ 8 := by omega
  have HWf := Lib.hid (w64_getD hl.wf)
  have HL := Lib.hid (fun W (hw : Below w.heap.size w W) => hl.rd.grow hw)
  have HT := Lib.hid (fun W (hw : Below w.heap.size w W) => hT.grow hw)
  have hlen : l.length ≤ 65536 := by omega
  clear hl hT
  go_enter Tryd.func52, Tryd.ntmps52
  go_wp2_with fail
  refine (bnew_any f w f1 f2).mono ?_; rintro en w1 ⟨rfl, hA, hb⟩
  obtain ⟨g, hg⟩ : ∃ g, g = w.heap.size := ⟨_, rfl⟩
  rw [← hg] at hA ⊢
  have HU : Hid (AlU w w1 g f Bn.zero) := ⟨hA, hb⟩
  have HG : Hid (w.heap.size ≤ g) := by rw [hg]; exact Nat.le_refl _
  clear hA hb hg
  go_wp2_with fail
  go_loopw [8, 9, 23] (fun xx ee i wr => ∃ k : Nat, k ≤ l.length ∧ i = .int .i64 k ∧ Hid ((∀ x ∈ l.take k, finB x) ∧ AlU w wr g f (bnL (l.take k)))) (fun _ _ i _ => l.length - (intOf i).toNat)
  case atStart => exact ⟨0, Nat.zero_le _, rfl, by simp, HU.out⟩
  case round =>
    obtain ⟨k, hk, rfl, hH⟩ := hrel
    by_cases hq : k < l.length
    · obtain ⟨bx, ox, rfl, hcx⟩ := (HL.out wr hH.out.2.bel).at hq
      have hbx := HWf.out k
      have hs := bnL_snoc l hq
      have htk : l.take (k + 1) = l.take k ++ [l.getD k 0] := take_succ_get (by rw [List.getD_eq_getElem?_getD, List.getElem?_eq_getElem hq]; rfl)
      have hmem : l.getD k 0 ∈ l := by rw [List.getD_eq_getElem?_getD, List.getElem?_eq_getElem hq]; exact List.getElem_mem hq
      obtain ⟨x, hx⟩ : ∃ x, x = l.getD k 0 := ⟨_, rfl⟩
      rw [← hx] at hcx hbx hs htk hmem
      have hok := bnL_ok (l := l.take k) (by rw [List.length_take]; omega)
      have hn := bnL_n (l.take k)
      rw [List.length_take] at hn
      have HA := Lib.hid (badd_any (bnL (l.take k)) g f x wr hok f2 hbx hH.out.2.at')
      have HH := hH
      have HS := Lib.hid (And.intro hs (And.intro htk hmem))
      have HN : Hid ((bnL (l.take k)).n < 1099511627776) := by show _ < _; omega
      clear hs htk hmem hx hok hn hH hbx
      go_wp2_with fail
      refine HA.out.mono ?_; rintro en w2 ⟨hr, hg⟩
      have HGw := Lib.hid (bel_grown HH.out.2.bel (Nat.le_refl _) hg HG.out)
      rcases hr with ⟨h1, _, _⟩ | ⟨_, hbad, rfl, hA2⟩ | ⟨_, hgood, rfl, hA2⟩
      · exact absurd h1 (by have := HN.out; omega)
      · have HBd := Lib.hid hbad
        clear hbad hA2 hg
        go_wp2_with fail
        go_ret2
        exact ⟨0, 30, rfl, .inr (.inr (.inl ⟨by omega, hlen, ⟨x, HS.out.2.2, by have := HBd.out; unfold badB at this; unfold finB; omega⟩, rfl, rfl⟩)), HGw.out⟩
      · have HGd := Lib.hid hgood
        have HU2 : Hid (AlU w w2 g f (bnL (l.take (k + 1)))) := ⟨by rw [HS.out.1]; exact hA2, HGw.out⟩
        have HF2 : Hid (∀ y ∈ l.take (k + 1), finB y) := by
          intro y hy
          rw [HS.out.2.1] at hy
          rcases List.mem_append.1 hy with h | h
          · exact HH.out.1 y h
          · obtain rfl : y = x := by simpa using h
            have := HGd.out
            unfold badB at this; unfold finB; omega
        clear hgood hA2 hg
        go_wp2_with fail
        go_roundw
        case rel => exact ⟨k + 1, by omega, by go_num, HF2.out, HU2.out⟩
        case measure => simp [intOf]; omega
    · obtain rfl : l.length = k := by omega
      have hh := hH.out
      rw [List.take_length] at hh
      have hok := bnL_ok (l := l) (by omega)
      have HR := Lib.hid (bround_any (bnL l) g f 0 wr hok f1 f2 hh.2.at' (HT.out wr hh.2.bel))
      have HFn := Lib.hid hh.1
      have HBl := Lib.hid hh.2.bel
      clear hH hh hok
      go_wp2_with fail
      refine HR.out.mono ?_; rintro en w2 ⟨r, er, rfl, hr, hb⟩
      have HX := Lib.hid hr
      have HB2 := Lib.hid (HBl.out.trans (hb.mono HBl.out.size))
      clear hr hb
      go_wp2_with fail
      go_ret2
      exact ⟨r, er, rfl, .inr (.inr (.inr ⟨by omega, hlen, HFn.out, HX.out⟩)), HB2.out⟩
end Go.Proofs.YthdbapibbdkclaaDoor

/- Sums with infinities, in numbers; 'copy' of values; what is lent. No statement of the seat is proved here. -/
import Derived.Test.YthdbapibbdkclaaGreatDoorProg
import Derived.Test.YthdbapibbdkclaaGreatDoorMU
namespace Go.Proofs.YthdbapibbdkclaaGreatDoor
open Go.RowKit
set_option linter.unusedVariables false
set_option linter.unusedSimpArgs false

theorem write_inf (s : Bool) : Ieee.double.write (.infinity s) = if s = true then 18442240474082181120 else 9218868437227405312 := by cases s <;> decide
theorem inf_cases {x : Nat} (hx : x < 18446744073709551616) (h : x % 9223372036854775808 = 9218868437227405312) : (if decide (9223372036854775808 ≤ x) = true then 18442240474082181120 else 9218868437227405312) = x := by
  by_cases q : 9223372036854775808 ≤ x
  · rw [decide_eq_true q, if_pos rfl]; omega
  · rw [decide_eq_false q, if_neg (by decide)]; omega
theorem addC_nan {x y : Nat} (h : 9218868437227405312 < x % 9223372036854775808 ∨ 9218868437227405312 < y % 9223372036854775808) : addC x y = nan64 := by
  rcases h with h | h
  · exact addC_none (add_none_l h)
  · exact addC_none (add_none_r h)
theorem addC_opp {x y : Nat} (hx : x < 18446744073709551616) (hy : y < 18446744073709551616) (ix : x % 9223372036854775808 = 9218868437227405312) (iy : y % 9223372036854775808 = 9218868437227405312) (hs : decide (9223372036854775808 ≤ x) ≠ decide (9223372036854775808 ≤ y)) : addC x y = nan64 := by
  refine addC_none ?_
  unfold Ieee.Format.add
  rw [read_inf hx ix, read_inf hy iy]
  unfold Ieee.Datum.sum
  dsimp only
  rw [if_neg hs]; rfl
theorem addC_infl {x y : Nat} (hx : x < 18446744073709551616) (hy : y < 18446744073709551616) (ix : x % 9223372036854775808 = 9218868437227405312) (ny : y % 9223372036854775808 ≤ 9218868437227405312) (hs : y % 9223372036854775808 = 9218868437227405312 → decide (9223372036854775808 ≤ x) = decide (9223372036854775808 ≤ y)) : addC x y = x := by
  have h : Ieee.double.add x y = some x := by
    unfold Ieee.Format.add
    rw [read_inf hx ix]
    rcases Nat.lt_or_eq_of_le ny with h | h
    · rw [read_num hy h]
      unfold Ieee.Datum.sum
      show some (Ieee.double.write _) = _
      rw [write_inf, inf_cases hx ix]
    · rw [read_inf hy h]
      unfold Ieee.Datum.sum
      dsimp only
      rw [if_pos (hs h)]
      show some (Ieee.double.write _) = _
      rw [write_inf, inf_cases hx ix]
  exact addC_some h
theorem addC_infr {x y : Nat} (hx : x < 18446744073709551616) (hy : y < 18446744073709551616) (nx : x % 9223372036854775808 < 9218868437227405312) (iy : y % 9223372036854775808 = 9218868437227405312) : addC x y = y := by
  have h : Ieee.double.add x y = some y := by
    unfold Ieee.Format.add
    rw [read_inf hy iy, read_num hx nx]
    unfold Ieee.Datum.sum
    show some (Ieee.double.write _) = _
    rw [write_inf, inf_cases hy iy]
  exact addC_some h

/-- 'copy(block, readable slice)', an element one cell -/
theorem wpList_copy_vals {P : Program} {w : World} {ops : Array Oper} {rest : List Oper} {o : Oper} {a : Act} {Q : Exit → Act → World → Prop} (hgd : o.guard = none) (d s : Operand) (dT sT : TypeId)
    (ho : o.op = .call { callee := .builtin .copy, args := #[d, s], argTypes := #[dT, sT] }) (e : TypeId) (hu : P.underlying dT = some (.slice e)) (hsz : (P.info? e).map (·.size) = some 1)
    (g n dCap m sCap : Nat) (sp : Option Addr) (l L : List Value) (hd : a.eval d = .slice (some ⟨g, 0, none⟩) n dCap) (hs : a.eval s = .slice sp m sCap) (hn : n = L.length) (hm : m = l.length)
    (hg : VBlk w e g L) (hr : VRd w sp l) (hone : ∀ u ∈ l, u.oneCell' = true) (B : Nat) (w0 : World) (hb : Below B w0 w) (hBg : B ≤ g)
    (h : ∀ w', VBlk w' e g (l.take L.length ++ L.drop l.length) → Below B w0 w' → Below g w w' → wpList P ops Q rest (a.put o.dst (goInt (Nat.min m n))) w') :
    wpList P ops Q (o :: rest) a w := by
  subst hn hm
  have hl : (l.take L.length).length = Nat.min l.length L.length := by simp [Nat.min_comm]
  refine wpList_copy_splice hgd d s dT sT ho e hu hsz _ _ _ _ _ _ hd hs g 0 L e hg (l.take L.length) hl ?_ (by simp; omega) ?_ g w (Below.refl _ _) (Nat.le_refl _) ?_
  · intro h0
    refine ⟨rfl, ?_⟩
    have hl0 : 0 < l.length := by simp at h0; omega
    obtain ⟨x, hx⟩ : ∃ x, l[0]? = some x := ⟨l[0], List.getElem?_eq_getElem hl0⟩
    obtain ⟨b, off, rfl, _⟩ := hr 0 x hx
    refine ⟨⟨b, off, none⟩, rfl, ?_⟩
    intro j v hv
    obtain ⟨b', off', e1, e2⟩ := (hr.take L.length) j v hv
    cases e1
    rw [Addr.add_lit]; exact e2
  · intro v hv
    exact hone v (List.mem_of_mem_take hv)
  · intro w' hw' hb'
    rw [hl]
    refine h w' ?_ (hb.trans (hb'.mono hBg)) hb'
    have := hw'.out
    unfold splice at this
    unfold VBlk
    rw [this]
    congr 2
    apply Array.toList_inj.1
    simp
    exact Nat.min_comm _ _
theorem FRd.vrd {w : World} {a : Option Addr} {l : List Nat} (h : FRd w a l) : VRd w a (l.map fv) := fun i v hv => by
  rw [List.getElem?_map] at hv
  obtain ⟨x, hx, rfl⟩ := Option.map_eq_some_iff.1 hv
  exact h i x hx
end Go.Proofs.YthdbapibbdkclaaGreatDoor

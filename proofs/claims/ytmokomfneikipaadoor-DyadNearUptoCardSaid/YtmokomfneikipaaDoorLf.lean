/- DyadRing: the value of a form, the laws of a ring for forms, fine.add, fine.mul, and the walk: true for every input of the sizes that its hypotheses name. -/
import Derived.Test.YtmokomfneikipaaDoorProg
import Derived.Test.YtmokomfneikipaaDoorLx
import Derived.Test.YtmokomfneikipaaDoorDm
namespace Go.Proofs.YtmokomfneikipaaDoor
open Go.RowKit
set_option linter.unusedVariables false
set_option linter.unusedSimpArgs false

def sgn (s : Bool) (n : Nat) : Int := if s = true then -(n : Int) else n
theorem sgn_mul (s : Bool) (m k : Nat) : sgn s (m * k) = sgn s m * (k : Int) := by
  unfold sgn; cases s
  · simp
  · simp [Int.neg_mul]
theorem sgn_zero (s : Bool) : sgn s 0 = 0 := by unfold sgn; cases s <;> simp
theorem sgn_not (s : Bool) (m : Nat) : sgn (!s) m = - sgn s m := by unfold sgn; cases s <;> simp
theorem sgn_add (s : Bool) (m k : Nat) : sgn s (m + k) = sgn s m + sgn s k := by unfold sgn; cases s <;> simp <;> omega
theorem sgn_xor (s t : Bool) (m k : Nat) : sgn (s != t) (m * k) = sgn s m * sgn t k := by
  unfold sgn; cases s <;> cases t <;> simp [Int.neg_mul, Int.mul_neg]
theorem sgn_eq_zero {s : Bool} {m : Nat} (h : sgn s m = 0) : m = 0 := by unfold sgn at h; split at h <;> omega
/-- the value in units of 2^B -/
def D.z (d : D) (B : Int) : Int := sgn d.neg d.m * ((2 ^ (d.exp - B).toNat : Nat) : Int)
theorem z_zero (B : Int) : D.zero.z B = 0 := by unfold D.z D.zero; simp [sgn]
theorem pow_split {e B : Int} {k : Nat} (h : B ≤ e) : 2 ^ (e + k - B).toNat = 2 ^ k * 2 ^ (e - B).toNat := by
  rw [← Nat.pow_add]; congr 1; omega
theorem z_form {s : Bool} {n : Nat} {e B : Int} {d : D} (h : formF s n e = some d) (hB : B ≤ e) (hB0 : B ≤ 0) : d.z B = sgn s n * ((2 ^ (e - B).toNat : Nat) : Int) ∧ B ≤ d.exp := by
  unfold formF at h
  split at h
  · next h0 =>
    cases h
    rw [z_zero, h0, sgn_zero, Int.zero_mul]
    exact ⟨rfl, hB0⟩
  · next h0 =>
    split at h
    · cases h
    · cases h
      obtain ⟨m, h1, h2⟩ := low_spec h0
      have h3 : n / 2 ^ low n = m := by
        conv => lhs; arg 1; rw [h1]
        exact Nat.mul_div_cancel_left _ (Nat.two_pow_pos _)
      refine ⟨?_, by dsimp only; omega⟩
      unfold D.z
      dsimp only
      rw [h3, pow_split hB]
      conv => rhs; rw [h1]
      rw [Nat.mul_comm (2 ^ low n) m, sgn_mul, Int.mul_assoc, ← Int.natCast_mul]
theorem z_scale {d : D} {E B : Int} (h1 : E ≤ d.exp) (h2 : B ≤ E) : d.z B = sgn d.neg (d.m * 2 ^ (d.exp - E).toNat) * ((2 ^ (E - B).toNat : Nat) : Int) := by
  unfold D.z
  rw [sgn_mul, Int.mul_assoc, ← Int.natCast_mul, ← Nat.pow_add]
  congr 4; omega
theorem z_add {p q r : D} {B : Int} (h : addD p q = some r) (hp : B ≤ p.exp) (hq : B ≤ q.exp) (h0 : B ≤ 0) : r.z B = p.z B + q.z B ∧ B ≤ r.exp := by
  unfold addD at h
  split at h
  · next h1 =>
    cases h
    refine ⟨?_, hq⟩
    have : p.z B = 0 := by unfold D.z; rw [h1, sgn_zero, Int.zero_mul]
    omega
  split at h
  · next h1 =>
    cases h
    refine ⟨?_, hp⟩
    have : q.z B = 0 := by unfold D.z; rw [h1, sgn_zero, Int.zero_mul]
    omega
  split at h
  · cases h
  have hE : B ≤ min p.exp q.exp := by omega
  have e1 := z_scale (d := p) (E := min p.exp q.exp) (B := B) (by omega) hE
  have e2 := z_scale (d := q) (E := min p.exp q.exp) (B := B) (by omega) hE
  generalize p.m * 2 ^ (p.exp - min p.exp q.exp).toNat = a at *
  generalize q.m * 2 ^ (q.exp - min p.exp q.exp).toNat = b at *
  split at h
  · next hs =>
    obtain ⟨e3, e4⟩ := z_form h hE h0
    refine ⟨?_, e4⟩
    rw [e3, e1, e2, sgn_add, Int.add_mul, hs]
  · next hs =>
    split at h
    · next hlt =>
      obtain ⟨e3, e4⟩ := z_form h hE h0
      refine ⟨?_, e4⟩
      rw [e3, e1, e2, ← Int.add_mul]
      congr 1
      unfold sgn
      cases hp2 : p.neg <;> cases hq2 : q.neg <;> simp_all <;> omega
    · next hlt =>
      obtain ⟨e3, e4⟩ := z_form h hE h0
      refine ⟨?_, e4⟩
      rw [e3, e1, e2, ← Int.add_mul]
      congr 1
      unfold sgn
      cases hp2 : p.neg <;> cases hq2 : q.neg <;> simp_all <;> omega
theorem z_mul {p q r : D} {B C : Int} (h : mulD p q = some r) (hp : B ≤ p.exp) (hq : C ≤ q.exp) (h0 : B + C ≤ 0) : r.z (B + C) = p.z B * q.z C ∧ B + C ≤ r.exp := by
  obtain ⟨e3, e4⟩ := z_form h (show B + C ≤ p.exp + q.exp by omega) h0
  refine ⟨?_, e4⟩
  rw [e3, sgn_xor]
  unfold D.z
  have : 2 ^ (p.exp + q.exp - (B + C)).toNat = 2 ^ (p.exp - B).toNat * 2 ^ (q.exp - C).toNat := by
    rw [← Nat.pow_add]; congr 1; omega
  rw [this, Int.natCast_mul]
  generalize ((2 ^ (p.exp - B).toNat : Nat) : Int) = x
  generalize ((2 ^ (q.exp - C).toNat : Nat) : Int) = y
  rw [Int.mul_assoc, Int.mul_assoc, Int.mul_left_comm (sgn q.neg q.m) x y]
/-- a form -/
def D.Is (d : D) : Prop := d = D.zero ∨ d.m % 2 = 1
theorem formF_is {s : Bool} {n : Nat} {e : Int} {d : D} (h : formF s n e = some d) : d.Is := by
  rcases formF_odd h with h1 | h1
  · exact .inl (formF_zero h h1)
  · exact .inr h1
theorem addD_is {p q r : D} (h : addD p q = some r) (hp : p.Is) (hq : q.Is) : r.Is := by
  unfold addD at h
  split at h
  · cases h; exact hq
  split at h
  · cases h; exact hp
  split at h
  · cases h
  split at h
  · exact formF_is h
  · split at h
    · exact formF_is h
    · exact formF_is h
theorem z_uniq {p q : D} {B : Int} (hp : p.Is) (hq : q.Is) (h1 : B ≤ p.exp) (h2 : B ≤ q.exp) (h : p.z B = q.z B) : p = q := by
  have key : ∀ {d : D}, d.z B = 0 → d.m = 0 := by
    intro d h
    unfold D.z at h
    rcases Int.mul_eq_zero.1 h with h3 | h3
    · exact sgn_eq_zero h3
    · have := Nat.two_pow_pos (d.exp - B).toNat
      omega
  rcases hp with rfl | hp
  · rw [z_zero] at h
    have h3 := key h.symm
    rcases hq with rfl | hq
    · rfl
    · rw [h3] at hq; simp at hq
  · rcases hq with rfl | hq
    · rw [z_zero] at h
      have h3 := key h
      rw [h3] at hp; simp at hp
    · obtain ⟨s, m, e⟩ := p
      obtain ⟨t, n, f⟩ := q
      dsimp only at *
      unfold D.z at h
      dsimp only at h
      have hs : s = t ∧ 2 ^ (e - B).toNat * m = 2 ^ (f - B).toNat * n := by
        rw [← sgn_mul, ← sgn_mul] at h
        have pm : 0 < m * 2 ^ (e - B).toNat := Nat.mul_pos (by omega) (Nat.two_pow_pos _)
        have pn : 0 < n * 2 ^ (f - B).toNat := Nat.mul_pos (by omega) (Nat.two_pow_pos _)
        rw [Nat.mul_comm _ m, Nat.mul_comm _ n]
        generalize m * 2 ^ (e - B).toNat = a at *
        generalize n * 2 ^ (f - B).toNat = b at *
        unfold sgn at h
        cases s <;> cases t <;> simp at h ⊢ <;> omega
      obtain ⟨rfl, h3⟩ := hs
      have h4 := low_eq (k := (e - B).toNat) hp
      have h5 := low_eq (k := (f - B).toNat) hq
      rw [h3, h5] at h4
      rw [h4] at h3
      have h6 := Nat.eq_of_mul_eq_mul_left (Nat.two_pow_pos _) h3
      have h7 : e = f := by omega
      rw [h6, h7]
end Go.Proofs.YtmokomfneikipaaDoor

namespace Go.Proofs.YtmokomfneikipaaDoor
open Go.RowKit
set_option linter.unusedVariables false
set_option linter.unusedSimpArgs false

/-- an answer of a row of calls: whether one was refused -/
def Fine (w : World) (F : Nat) (b : Bool) : Prop := w.heap[F]? = some (.cells #[.bool b] 60 (0, 0))
theorem Fine.lt {w : World} {F : Nat} {b : Bool} (h : Fine w F b) : F < w.heap.size := lt_of_block h
theorem Fine.grow {w w' : World} {F : Nat} {b : Bool} (h : Fine w F b) (hb : Below w.heap.size w w') : Fine w' F b := (hb.block F h.lt).trans h
theorem Fine.facts {w : World} {F : Nat} {b : Bool} (h : Fine w F b) : w.cell? ⟨F, 0, none⟩ = some (.bool b) ∧ w.frozen? ⟨F, 0, none⟩ = false := ⟨cell_of_one h, free_of_one h⟩

set_option maxRecDepth 10000 in
set_option maxHeartbeats 4000000 in
theorem fadd_any (F : Nat) (b : Bool) (x y : Arg) (w : World) (hF : Fine w F b) (hx : x.Ok w) (hy : y.Ok w) (hT : Tab w) :
    Calls Tryd.prog 42 #[.pointer (some ⟨F, 0, none⟩), x.v, y.v] w fun en w' => ∃ a c, en = .returned (dyV (outO (addO x.F y.F)) a c) ∧ Own w' 64 w.heap.size a c (words (outO (addO x.F y.F)).m) ∧ Fine w' F (b || (addO x.F y.F).isNone) ∧ w.grownBy w' (some F) := by
  have hA := fun W (hw : Below w.heap.size w W) => dadd_any x y W (hx.grow hw) (hy.grow hw) (hT.grow hw)
  obtain ⟨o, ho⟩ : ∃ o, o = addO x.F y.F := ⟨_, rfl⟩
  rw [← ho] at hA ⊢
  clear ho
  unfold Came at hA
  have HA := Lib.hid hA; clear hA hx hy hT
  have hFlt := hF.lt
  obtain ⟨s, a, l, c, e⟩ := x
  obtain ⟨s', a', l', c', e'⟩ := y
  simp only [Arg.v] at HA ⊢
  go_enter Tryd.func42, Tryd.ntmps42
  go_wp2_with fail
  (obtain ⟨w1, h1⟩ : ∃ W, W = (w.alloc (.cells #[.bool s, .slice a l.length c, .int .i64 e] 27)) := ⟨_, rfl⟩; have pinEq := h1; (try simp only [wr3] at pinEq); rw [← pinEq]; clear pinEq)
  (obtain ⟨w2, h2⟩ : ∃ W, W = (w1.alloc (.cells #[.bool s', .slice a' l'.length c', .int .i64 e'] 27)) := ⟨_, rfl⟩; have pinEq := h2; (try simp only [wr3] at pinEq); rw [← pinEq]; clear pinEq)
  (obtain ⟨w3, h3⟩ : ∃ W, W = (w2.alloc (.cells #[.bool false, .slice none 0 0, .int .i64 0] 27)) := ⟨_, rfl⟩; have pinEq := h3; (try simp only [wr3] at pinEq); rw [← pinEq]; clear pinEq)
  obtain ⟨k1, hB, s1⟩ := new_cel h1 rfl
  obtain ⟨k2, b2, s2⟩ := new_cel h2 s1
  (replace k1 := cel_call b2 k1 (by omega); replace hB := below_call b2 hB (by omega))
  obtain ⟨k3, b3, s3⟩ := new_cel h3 s2
  (replace k2 := cel_call b3 k2 (by omega); replace b2 := below_call b3 b2 (by omega); replace k1 := cel_call b3 k1 (by omega); replace hB := below_call b3 hB (by omega))
  clear h1 h2 h3 b2 b3
  refine (HA.out w3 hB).mono ?_; rintro en w4 ⟨v, rfl, ⟨a1, c1, rfl, ho1⟩, hb⟩
  (replace k3 := cel_call hb k3 (by omega); replace k2 := cel_call hb k2 (by omega); replace k1 := cel_call hb k1 (by omega); replace hB := below_call hb hB (by omega))
  have s4 := hb.size
  clear hb
  simp only [dyV]
  have hF4 : Fine w4 F b := (hB.block F hFlt).trans hF
  have hF5 : Fine (w4.alloc (.cells #[.bool (outO o).neg, .slice a1 (words (outO o).m).length c1, .int .i64 (outO o).exp] 27)) F b := hF4.grow ((Below.refl _ _).alloc (Nat.le_refl _) _)
  obtain ⟨_, _⟩ := hF5.facts
  have k35 := k3.alloc (.cells #[.bool (outO o).neg, .slice a1 (words (outO o).m).length c1, .int .i64 (outO o).exp] 27)
  have kn := Cel.new w4 (.bool (outO o).neg) (.slice a1 (words (outO o).m).length c1) (.int .i64 (outO o).exp)
  have hB5 := bel_alloc hB (Nat.le_refl _) (.cells #[.bool (outO o).neg, .slice a1 (words (outO o).m).length c1, .int .i64 (outO o).exp] 27)
  have ho5 := own_alloc ho1 (.cells #[.bool (outO o).neg, .slice a1 (words (outO o).m).length c1, .int .i64 (outO o).exp] 27)
  have n1 : F ≠ w4.heap.size := by omega
  have n2 : F ≠ w.heap.size + 1 + 1 := by omega
  obtain ⟨w5, h5⟩ : ∃ W, W = w4.alloc (.cells #[.bool (outO o).neg, .slice a1 (words (outO o).m).length c1, .int .i64 (outO o).exp] 27) := ⟨_, rfl⟩
  have fin : ∀ W u, u = (b || o.isNone) → W = wr3 (w5.setCell ⟨F, 0, none⟩ (.bool u)) (w.heap.size + 1 + 1) (.bool (outO o).neg) (.slice a1 (words (outO o).m).length c1) (.int .i64 (outO o).exp) → Own W 64 w.heap.size a1 c1 (words (outO o).m) ∧ Fine W F (b || o.isNone) ∧ w.grownBy W (some F) := by
    intro W u hu hW
    rw [← h5] at ho5 hB5 hF5
    have o6 : Own (w5.setCell ⟨F, 0, none⟩ (.bool u)) 64 w3.heap.size a1 c1 (words (outO o).m) := ho5.set ⟨F, 0, none⟩ _ (by simp; omega)
    refine ⟨(own_wr hW o6 (by omega)).mono (by omega), ?_, ?_⟩
    · rw [hW, ← hu]
      have f6 : Fine (w5.setCell ⟨F, 0, none⟩ (.bool u)) F u := one_setCell hF5
      unfold Fine wr3
      rw [heap_setCell_other _ _ _ _ (by simpa using n2), heap_setCell_other _ _ _ _ (by simpa using n2), heap_setCell_other _ _ _ _ (by simpa using n2)]
      exact f6
    · rw [hW]
      refine ⟨?_, ?_, ?_, ?_, ?_⟩
      · simp [wr3]; exact hB5.os
      · simp [wr3]; exact hB5.tape
      · simp [wr3]; exact hB5.output
      · simp [wr3]; exact hB5.size
      · intro k hk hkF
        have hk2 : k ≠ F := by simpa using hkF
        unfold wr3
        rw [heap_setCell_other _ _ _ _ (by simp; omega), heap_setCell_other _ _ _ _ (by simp; omega), heap_setCell_other _ _ _ _ (by simp; omega), heap_setCell_other _ _ _ _ (by simpa using hk2)]
        exact hB5.block k hk
  have FIN := Lib.hid fin; clear fin
  have k36 := k35.other (a := ⟨F, 0, none⟩) n2
  have kn6 := kn.other (a := ⟨F, 0, none⟩) n1
  have he : o.isNone = true ∧ errO o = 2 ∨ o.isNone = false ∧ errO o = 0 := by cases o <;> simp [errO]
  have HO5 := Lib.hid ho5; have HB5 := Lib.hid hB5; have H5 := Lib.hid h5
  clear ho5 hB5 h5 hF hF4 hF5 k1 k2 k3 ho1 hB
  rcases he with ⟨he1, he2⟩ | ⟨he1, he2⟩
  · rw [he2]
    have HE1 := Lib.hid he1; clear he1 he2
    cases b
    all_goals
      obtain ⟨_, _, _, _, _, _⟩ := k35.facts
      obtain ⟨c0, cc1, c2, _, _, _⟩ := (k36 (.bool true)).facts
      obtain ⟨_, _, _, _, _, _⟩ := (kn6 (.bool true)).facts
      go_wp2_with fail
      refine bodyPost_ret (v := dyV (outO o) a1 c1) (by simp [results, Tryd.results42, go_sem, dyV, c0, cc1, c2]) rfl ?_
      exact ⟨a1, c1, rfl, FIN.out _ true (by rw [HE1.out]; rfl) (by rw [H5.out]; rfl)⟩
  · rw [he2]
    have HE1 := Lib.hid he1; clear he1 he2
    cases b
    · obtain ⟨_, _, _, _, _, _⟩ := k35.facts
      obtain ⟨c0, cc1, c2, _, _, _⟩ := (k36 (.bool false)).facts
      obtain ⟨_, _, _, _, _, _⟩ := (kn6 (.bool false)).facts
      go_wp2_with fail
      refine bodyPost_ret (v := dyV (outO o) a1 c1) (by simp [results, Tryd.results42, go_sem, dyV, c0, cc1, c2]) rfl ?_
      exact ⟨a1, c1, rfl, FIN.out _ false (by rw [HE1.out]; rfl) (by rw [H5.out]; rfl)⟩
    · obtain ⟨_, _, _, _, _, _⟩ := k35.facts
      obtain ⟨c0, cc1, c2, _, _, _⟩ := (k36 (.bool true)).facts
      obtain ⟨_, _, _, _, _, _⟩ := (kn6 (.bool true)).facts
      go_wp2_with fail
      refine bodyPost_ret (v := dyV (outO o) a1 c1) (by simp [results, Tryd.results42, go_sem, dyV, c0, cc1, c2]) rfl ?_
      exact ⟨a1, c1, rfl, FIN.out _ true (by rw [HE1.out]; rfl) (by rw [H5.out]; rfl)⟩
set_option maxRecDepth 10000 in
set_option maxHeartbeats 4000000 in
theorem fmul_any (F : Nat) (b : Bool) (x y : Arg) (w : World) (hF : Fine w F b) (hx : x.Ok w) (hy : y.Ok w) (hT : Tab w) :
    Calls Tryd.prog 43 #[.pointer (some ⟨F, 0, none⟩), x.v, y.v] w fun en w' => ∃ a c, en = .returned (dyV (outO (mulO x.F y.F)) a c) ∧ Own w' 64 w.heap.size a c (words (outO (mulO x.F y.F)).m) ∧ Fine w' F (b || (mulO x.F y.F).isNone) ∧ w.grownBy w' (some F) := by
  have hA := fun W (hw : Below w.heap.size w W) => dmul_any x y W (hx.grow hw) (hy.grow hw) (hT.grow hw)
  obtain ⟨o, ho⟩ : ∃ o, o = mulO x.F y.F := ⟨_, rfl⟩
  rw [← ho] at hA ⊢
  clear ho
  unfold Came at hA
  have HA := Lib.hid hA; clear hA hx hy hT
  have hFlt := hF.lt
  obtain ⟨s, a, l, c, e⟩ := x
  obtain ⟨s', a', l', c', e'⟩ := y
  simp only [Arg.v] at HA ⊢
  go_enter Tryd.func43, Tryd.ntmps43
  go_wp2_with fail
  (obtain ⟨w1, h1⟩ : ∃ W, W = (w.alloc (.cells #[.bool s, .slice a l.length c, .int .i64 e] 27)) := ⟨_, rfl⟩; have pinEq := h1; (try simp only [wr3] at pinEq); rw [← pinEq]; clear pinEq)
  (obtain ⟨w2, h2⟩ : ∃ W, W = (w1.alloc (.cells #[.bool s', .slice a' l'.length c', .int .i64 e'] 27)) := ⟨_, rfl⟩; have pinEq := h2; (try simp only [wr3] at pinEq); rw [← pinEq]; clear pinEq)
  (obtain ⟨w3, h3⟩ : ∃ W, W = (w2.alloc (.cells #[.bool false, .slice none 0 0, .int .i64 0] 27)) := ⟨_, rfl⟩; have pinEq := h3; (try simp only [wr3] at pinEq); rw [← pinEq]; clear pinEq)
  obtain ⟨k1, hB, s1⟩ := new_cel h1 rfl
  obtain ⟨k2, b2, s2⟩ := new_cel h2 s1
  (replace k1 := cel_call b2 k1 (by omega); replace hB := below_call b2 hB (by omega))
  obtain ⟨k3, b3, s3⟩ := new_cel h3 s2
  (replace k2 := cel_call b3 k2 (by omega); replace b2 := below_call b3 b2 (by omega); replace k1 := cel_call b3 k1 (by omega); replace hB := below_call b3 hB (by omega))
  clear h1 h2 h3 b2 b3
  refine (HA.out w3 hB).mono ?_; rintro en w4 ⟨v, rfl, ⟨a1, c1, rfl, ho1⟩, hb⟩
  (replace k3 := cel_call hb k3 (by omega); replace k2 := cel_call hb k2 (by omega); replace k1 := cel_call hb k1 (by omega); replace hB := below_call hb hB (by omega))
  have s4 := hb.size
  clear hb
  simp only [dyV]
  have hF4 : Fine w4 F b := (hB.block F hFlt).trans hF
  have hF5 : Fine (w4.alloc (.cells #[.bool (outO o).neg, .slice a1 (words (outO o).m).length c1, .int .i64 (outO o).exp] 27)) F b := hF4.grow ((Below.refl _ _).alloc (Nat.le_refl _) _)
  obtain ⟨_, _⟩ := hF5.facts
  have k35 := k3.alloc (.cells #[.bool (outO o).neg, .slice a1 (words (outO o).m).length c1, .int .i64 (outO o).exp] 27)
  have kn := Cel.new w4 (.bool (outO o).neg) (.slice a1 (words (outO o).m).length c1) (.int .i64 (outO o).exp)
  have hB5 := bel_alloc hB (Nat.le_refl _) (.cells #[.bool (outO o).neg, .slice a1 (words (outO o).m).length c1, .int .i64 (outO o).exp] 27)
  have ho5 := own_alloc ho1 (.cells #[.bool (outO o).neg, .slice a1 (words (outO o).m).length c1, .int .i64 (outO o).exp] 27)
  have n1 : F ≠ w4.heap.size := by omega
  have n2 : F ≠ w.heap.size + 1 + 1 := by omega
  obtain ⟨w5, h5⟩ : ∃ W, W = w4.alloc (.cells #[.bool (outO o).neg, .slice a1 (words (outO o).m).length c1, .int .i64 (outO o).exp] 27) := ⟨_, rfl⟩
  have fin : ∀ W u, u = (b || o.isNone) → W = wr3 (w5.setCell ⟨F, 0, none⟩ (.bool u)) (w.heap.size + 1 + 1) (.bool (outO o).neg) (.slice a1 (words (outO o).m).length c1) (.int .i64 (outO o).exp) → Own W 64 w.heap.size a1 c1 (words (outO o).m) ∧ Fine W F (b || o.isNone) ∧ w.grownBy W (some F) := by
    intro W u hu hW
    rw [← h5] at ho5 hB5 hF5
    have o6 : Own (w5.setCell ⟨F, 0, none⟩ (.bool u)) 64 w3.heap.size a1 c1 (words (outO o).m) := ho5.set ⟨F, 0, none⟩ _ (by simp; omega)
    refine ⟨(own_wr hW o6 (by omega)).mono (by omega), ?_, ?_⟩
    · rw [hW, ← hu]
      have f6 : Fine (w5.setCell ⟨F, 0, none⟩ (.bool u)) F u := one_setCell hF5
      unfold Fine wr3
      rw [heap_setCell_other _ _ _ _ (by simpa using n2), heap_setCell_other _ _ _ _ (by simpa using n2), heap_setCell_other _ _ _ _ (by simpa using n2)]
      exact f6
    · rw [hW]
      refine ⟨?_, ?_, ?_, ?_, ?_⟩
      · simp [wr3]; exact hB5.os
      · simp [wr3]; exact hB5.tape
      · simp [wr3]; exact hB5.output
      · simp [wr3]; exact hB5.size
      · intro k hk hkF
        have hk2 : k ≠ F := by simpa using hkF
        unfold wr3
        rw [heap_setCell_other _ _ _ _ (by simp; omega), heap_setCell_other _ _ _ _ (by simp; omega), heap_setCell_other _ _ _ _ (by simp; omega), heap_setCell_other _ _ _ _ (by simpa using hk2)]
        exact hB5.block k hk
  have FIN := Lib.hid fin; clear fin
  have k36 := k35.other (a := ⟨F, 0, none⟩) n2
  have kn6 := kn.other (a := ⟨F, 0, none⟩) n1
  have he : o.isNone = true ∧ errO o = 2 ∨ o.isNone = false ∧ errO o = 0 := by cases o <;> simp [errO]
  have HO5 := Lib.hid ho5; have HB5 := Lib.hid hB5; have H5 := Lib.hid h5
  clear ho5 hB5 h5 hF hF4 hF5 k1 k2 k3 ho1 hB
  rcases he with ⟨he1, he2⟩ | ⟨he1, he2⟩
  · rw [he2]
    have HE1 := Lib.hid he1; clear he1 he2
    cases b
    all_goals
      obtain ⟨_, _, _, _, _, _⟩ := k35.facts
      obtain ⟨c0, cc1, c2, _, _, _⟩ := (k36 (.bool true)).facts
      obtain ⟨_, _, _, _, _, _⟩ := (kn6 (.bool true)).facts
      go_wp2_with fail
      refine bodyPost_ret (v := dyV (outO o) a1 c1) (by simp [results, Tryd.results43, go_sem, dyV, c0, cc1, c2]) rfl ?_
      exact ⟨a1, c1, rfl, FIN.out _ true (by rw [HE1.out]; rfl) (by rw [H5.out]; rfl)⟩
  · rw [he2]
    have HE1 := Lib.hid he1; clear he1 he2
    cases b
    · obtain ⟨_, _, _, _, _, _⟩ := k35.facts
      obtain ⟨c0, cc1, c2, _, _, _⟩ := (k36 (.bool false)).facts
      obtain ⟨_, _, _, _, _, _⟩ := (kn6 (.bool false)).facts
      go_wp2_with fail
      refine bodyPost_ret (v := dyV (outO o) a1 c1) (by simp [results, Tryd.results43, go_sem, dyV, c0, cc1, c2]) rfl ?_
      exact ⟨a1, c1, rfl, FIN.out _ false (by rw [HE1.out]; rfl) (by rw [H5.out]; rfl)⟩
    · obtain ⟨_, _, _, _, _, _⟩ := k35.facts
      obtain ⟨c0, cc1, c2, _, _, _⟩ := (k36 (.bool true)).facts
      obtain ⟨_, _, _, _, _, _⟩ := (kn6 (.bool true)).facts
      go_wp2_with fail
      refine bodyPost_ret (v := dyV (outO o) a1 c1) (by simp [results, Tryd.results43, go_sem, dyV, c0, cc1, c2]) rfl ?_
      exact ⟨a1, c1, rfl, FIN.out _ true (by rw [HE1.out]; rfl) (by rw [H5.out]; rfl)⟩
end Go.Proofs.YtmokomfneikipaaDoor

namespace Go.Proofs.YtmokomfneikipaaDoor
open Go.RowKit
set_option linter.unusedVariables false
set_option linter.unusedSimpArgs false

theorem form_self {d : D} (h : d.Is) (ok : d.Ok) : formF d.neg d.m d.exp = some d := by
  rcases h with rfl | h
  · rfl
  · obtain ⟨l1, l2, l3⟩ := ok
    unfold formF
    rw [if_neg (by omega), low_odd h]
    simp only [Nat.pow_zero, Nat.div_one]
    rw [if_neg (by omega)]
    obtain ⟨s, m, e⟩ := d
    simp
theorem addD_form {p q r : D} (h : addD p q = some r) (hp : p.Is) (hq : q.Is) (op : p.Ok) (oq : q.Ok) : r.Is ∧ r.Ok := by
  refine ⟨addD_is h hp hq, ?_⟩
  have := addD_ok op oq
  rw [h] at this; exact this
theorem mulD_form {p q r : D} (h : mulD p q = some r) : r.Is ∧ r.Ok := ⟨formF_is h, formF_ok h⟩
theorem ring_law {p q r q' d1 d2 d3 d4 d5 d6 d7 d8 d9 d11 d12 d14 : D} (hp : p.Is) (hq : q.Is) (hr : r.Is) (hq' : q'.Is) (hz : ∀ B, B ≤ q.exp → B ≤ q'.exp → q'.z B = - q.z B)
    (h1 : addD p q = some d1) (h2 : addD q r = some d2) (h3 : addD d1 r = some d3) (h4 : addD p d2 = some d4) (h5 : mulD p q = some d5) (h6 : mulD d5 r = some d6) (h7 : mulD q r = some d7) (h8 : mulD p d7 = some d8)
    (h9 : mulD p d2 = some d9) (h11 : mulD p r = some d11) (h12 : addD d5 d11 = some d12) (h14 : addD d1 q' = some d14) : d3 = d4 ∧ d6 = d8 ∧ d9 = d12 ∧ d14 = p := by
  obtain ⟨B, bp, bq, br, bq', b0⟩ : ∃ B : Int, B ≤ p.exp ∧ B ≤ q.exp ∧ B ≤ r.exp ∧ B ≤ q'.exp ∧ B ≤ 0 := ⟨min (min p.exp q.exp) (min (min r.exp q'.exp) 0), by omega, by omega, by omega, by omega, by omega⟩
  obtain ⟨z1, e1⟩ := z_add h1 bp bq b0
  obtain ⟨z2, e2⟩ := z_add h2 bq br b0
  obtain ⟨z3, e3⟩ := z_add h3 e1 br b0
  obtain ⟨z4, e4⟩ := z_add h4 bp e2 b0
  obtain ⟨z5, e5⟩ := z_mul h5 bp bq (by omega)
  obtain ⟨z6, e6⟩ := z_mul h6 e5 br (by omega)
  obtain ⟨z7, e7⟩ := z_mul h7 bq br (by omega)
  obtain ⟨z8, e8⟩ := z_mul h8 bp e7 (by omega)
  obtain ⟨z9, e9⟩ := z_mul h9 bp e2 (by omega)
  obtain ⟨z11, e11⟩ := z_mul h11 bp br (by omega)
  obtain ⟨z12, e12⟩ := z_add h12 e5 e11 (by omega)
  obtain ⟨z14, e14⟩ := z_add h14 e1 bq' b0
  have i1 := addD_is h1 hp hq
  have i2 := addD_is h2 hq hr
  refine ⟨z_uniq (addD_is h3 i1 hr) (addD_is h4 hp i2) e3 e4 ?_, z_uniq (B := B + B + B) (formF_is h6) (formF_is h8) e6 (by omega) ?_, z_uniq (formF_is h9) (addD_is h12 (formF_is h5) (formF_is h11)) e9 e12 ?_, z_uniq (addD_is h14 i1 hq') hp e14 bp ?_⟩
  · rw [z3, z4, z1, z2]; omega
  · rw [z6, z5, show B + B + B = B + (B + B) by omega, z8, z7, Int.mul_assoc]
  · rw [z9, z12, z2, z5, z11, Int.mul_add]
  · rw [z14, z1, hz B bq bq']; omega

theorem grown_trans {w w1 w2 : World} {r : Option Nat} (h : w.grownBy w1 r) (k : w1.grownBy w2 r) : w.grownBy w2 r :=
  ⟨k.os.trans h.os, k.tape.trans h.tape, k.output.trans h.output, Nat.le_trans h.size k.size, fun j hj hr => (k.block j (Nat.lt_of_lt_of_le hj h.size) hr).trans (h.block j hj hr)⟩
theorem grown_of_below {w w1 : World} {r : Option Nat} (h : Below w.heap.size w w1) : w.grownBy w1 r := ⟨h.os, h.tape, h.output, h.size, fun j hj _ => h.block j hj⟩
theorem grown_alloc {w w1 : World} {r : Option Nat} (h : w.grownBy w1 r) (o : Obj) : w.grownBy (w1.alloc o) r := grown_trans h (grown_of_below ((Below.refl _ _).alloc (Nat.le_refl _) o))
theorem grown_drew {w w1 : World} {r : Option Nat} (h : w.grownBy w1 r) : w.grownBy w1.drew r := ⟨h.os, h.tape, h.output, h.size, h.block⟩
theorem grown_wr {w w1 : World} {r : Option Nat} {g : Nat} {v0 v1 v2 : Value} (h : w.grownBy w1 r) (hg : w.heap.size ≤ g) : w.grownBy (wr3 w1 g v0 v1 v2) r := by
  refine ⟨by simp [wr3]; exact h.os, by simp [wr3]; exact h.tape, by simp [wr3]; exact h.output, by simp [wr3]; exact h.size, fun j hj hr => ?_⟩
  unfold wr3
  rw [heap_setCell_other _ _ _ _ (by simp; omega), heap_setCell_other _ _ _ _ (by simp; omega), heap_setCell_other _ _ _ _ (by simp; omega)]
  exact h.block j hj hr
theorem fine_wr {w1 : World} {F g : Nat} {b : Bool} {v0 v1 v2 : Value} (h : Fine w1 F b) (hg : F ≠ g) : Fine (wr3 w1 g v0 v1 v2) F b := by
  unfold Fine wr3
  rw [heap_setCell_other _ _ _ _ (by simpa using hg), heap_setCell_other _ _ _ _ (by simpa using hg), heap_setCell_other _ _ _ _ (by simpa using hg)]
  exact h
theorem fine_alloc {w1 : World} {F : Nat} {b : Bool} (h : Fine w1 F b) (o : Obj) : Fine (w1.alloc o) F b := h.grow ((Below.refl _ _).alloc (Nat.le_refl _) o)
theorem bel_of_grown {w0 w w1 : World} {F : Nat} (h : Below w0.heap.size w0 w) (k : w.grownBy w1 (some F)) (hF : w0.heap.size ≤ F) : Below w0.heap.size w0 w1 := bel_grown h (Nat.le_refl _) k hF

/-- the sign of what is a number times a positive one -/
theorem z_sign {d : D} {B : Int} (h : B ≤ d.exp) : (d.z B < 0 → (if d.m = 0 then (0 : Int) else if d.neg = true then -1 else 1) = -1) ∧ (d.z B = 0 → (if d.m = 0 then (0 : Int) else if d.neg = true then -1 else 1) = 0) ∧ (0 < d.z B → (if d.m = 0 then (0 : Int) else if d.neg = true then -1 else 1) = 1) := by
  have hp := Nat.two_pow_pos (d.exp - B).toNat
  unfold D.z
  rw [← sgn_mul]
  have hz : d.m = 0 ↔ d.m * 2 ^ (d.exp - B).toNat = 0 := by
    constructor
    · intro h; rw [h, Nat.zero_mul]
    · intro h
      rcases Nat.mul_eq_zero.1 h with h | h
      · exact h
      · omega
  by_cases h0 : d.m = 0
  · rw [if_pos h0, hz.1 h0, sgn_zero]
    exact ⟨fun h => by omega, fun _ => rfl, fun h => by omega⟩
  · have h1 : d.m * 2 ^ (d.exp - B).toNat ≠ 0 := fun h => h0 (hz.2 h)
    rw [if_neg h0]
    generalize d.m * 2 ^ (d.exp - B).toNat = a at *
    unfold sgn
    cases d.neg <;> simp <;> omega
theorem cmpA_z (x y : Arg) (B : Int) (hx : B ≤ x.e) (hy : B ≤ y.e) : (sgn x.s (num x.l * 2 ^ (x.e - B).toNat) - sgn y.s (num y.l * 2 ^ (y.e - B).toNat) < 0 → cmpA x y = -1) ∧ (sgn x.s (num x.l * 2 ^ (x.e - B).toNat) - sgn y.s (num y.l * 2 ^ (y.e - B).toNat) = 0 → cmpA x y = 0) ∧ (0 < sgn x.s (num x.l * 2 ^ (x.e - B).toNat) - sgn y.s (num y.l * 2 ^ (y.e - B).toNat) → cmpA x y = 1) := by
  have hm := magCmp_scale (num x.l) x.e (num y.l) y.e B hx hy
  have p1 := Nat.two_pow_pos (x.e - B).toNat
  have p2 := Nat.two_pow_pos (y.e - B).toNat
  have zx : num x.l = 0 ↔ num x.l * 2 ^ (x.e - B).toNat = 0 := ⟨fun h => by rw [h, Nat.zero_mul], fun h => by rcases Nat.mul_eq_zero.1 h with h | h; exact h; omega⟩
  have zy : num y.l = 0 ↔ num y.l * 2 ^ (y.e - B).toNat = 0 := ⟨fun h => by rw [h, Nat.zero_mul], fun h => by rcases Nat.mul_eq_zero.1 h with h | h; exact h; omega⟩
  unfold cmpA Arg.sign
  rw [hm]
  generalize num x.l * 2 ^ (x.e - B).toNat = a at *
  generalize num y.l * 2 ^ (y.e - B).toNat = b at *
  simp only [zx, zy]
  unfold sgn cmpN
  obtain ⟨s, _, _, _, _⟩ := x
  obtain ⟨t, _, _, _, _⟩ := y
  dsimp only
  rcases Nat.eq_zero_or_pos a with ha | ha <;> rcases Nat.eq_zero_or_pos b with hb | hb <;> cases s <;> cases t <;> (refine ⟨fun h => ?_, fun h => ?_, fun h => ?_⟩) <;> (try subst ha) <;> (try subst hb) <;> simp at h ⊢ <;> (try (repeat' split)) <;> omega
theorem sub_cmp (s : Bool) (a : Option Addr) (l : List Nat) (c : Nat) (e : Int) (s' : Bool) (a' : Option Addr) (l' : List Nat) (c' : Nat) (e' : Int) (d : D) (h : addO (formF s (num l) e) (formF (!s') (num l') e') = some d) :
    (if d.m = 0 then (0 : Int) else if d.neg = true then -1 else 1) = cmpA ⟨s, a, l, c, e⟩ ⟨s', a', l', c', e'⟩ := by
  cases hp : formF s (num l) e with
  | none => rw [hp] at h; cases h
  | some p =>
    cases hq : formF (!s') (num l') e' with
    | none => rw [hp, hq] at h; cases h
    | some q =>
      rw [hp, hq] at h
      have h2 : addD p q = some d := h
      obtain ⟨B, b1, b2, b0⟩ : ∃ B : Int, B ≤ e ∧ B ≤ e' ∧ B ≤ 0 := ⟨min (min e e') 0, by omega, by omega, by omega⟩
      obtain ⟨z1, x1⟩ := z_form hp b1 b0
      obtain ⟨z2, x2⟩ := z_form hq b2 b0
      obtain ⟨z3, x3⟩ := z_add h2 x1 x2 b0
      obtain ⟨k1, k2, k3⟩ := z_sign x3
      obtain ⟨m1, m2, m3⟩ := cmpA_z ⟨s, a, l, c, e⟩ ⟨s', a', l', c', e'⟩ B b1 b2
      dsimp only at m1 m2 m3
      have hz : d.z B = sgn s (num l * 2 ^ (e - B).toNat) - sgn s' (num l' * 2 ^ (e' - B).toNat) := by
        rw [z3, z1, z2, sgn_mul, sgn_mul, sgn_not, Int.neg_mul]; omega
      rw [← hz] at m1 m2 m3
      rcases Int.lt_trichotomy (d.z B) 0 with h3 | h3 | h3
      · rw [k1 h3, m1 h3]
      · rw [k2 h3, m2 h3]
      · rw [k3 h3, m3 h3]
theorem neg_form {s : Bool} {n : Nat} {e : Int} {q : D} (h : formF s n e = some q) : ∃ q', formF (!s) n e = some q' ∧ ∀ B, B ≤ q.exp → B ≤ q'.exp → q'.z B = - q.z B := by
  unfold formF at h ⊢
  by_cases h0 : n = 0
  · rw [if_pos h0] at h ⊢
    cases h
    exact ⟨D.zero, rfl, fun B _ _ => by rw [z_zero]; rfl⟩
  · rw [if_neg h0] at h ⊢
    by_cases h1 : 1048576 < e + low n ∨ e + low n < -1048576 ∨ 8192 < (words (n / 2 ^ low n)).length
    · rw [if_pos h1] at h; cases h
    · rw [if_neg h1] at h ⊢
      cases h
      refine ⟨_, rfl, fun B _ _ => ?_⟩
      unfold D.z
      dsimp only
      rw [sgn_not, Int.neg_mul]
end Go.Proofs.YtmokomfneikipaaDoor

namespace Go.Proofs.YtmokomfneikipaaDoor
open Go.RowKit
set_option linter.unusedVariables false
set_option linter.unusedSimpArgs false

theorem addO_some {X Y : Option D} {d : D} (h : addO X Y = some d) : ∃ p q, X = some p ∧ Y = some q ∧ addD p q = some d := by
  cases X with
  | none => cases h
  | some p => cases Y with
    | none => cases h
    | some q => exact ⟨p, q, rfl, rfl, h⟩
theorem mulO_some {X Y : Option D} {d : D} (h : mulO X Y = some d) : ∃ p q, X = some p ∧ Y = some q ∧ mulD p q = some d := by
  cases X with
  | none => cases h
  | some p => cases Y with
    | none => cases h
    | some q => exact ⟨p, q, rfl, rfl, h⟩
theorem some_of {o : Option D} (h : o.isNone = false) : o = some (outO o) := by cases o with
  | none => cases h
  | some d => rfl
def refo (d : D) : Option D := formF d.neg d.m d.exp
theorem ring_plain {X Y Z Y' o1 o2 o3 o4 o5 o6 o7 o8 o9 o11 o12 o14 : Option D} (hX : ∀ d, X = some d → d.Is ∧ d.Ok) (hY : ∀ d, Y = some d → d.Is ∧ d.Ok) (hZ : ∀ d, Z = some d → d.Is ∧ d.Ok)
    (hY' : ∀ q, Y = some q → ∃ q', Y' = some q' ∧ (q'.Is ∧ q'.Ok) ∧ ∀ B, B ≤ q.exp → B ≤ q'.exp → q'.z B = - q.z B)
    (p1 : o1 = addO X Y) (p2 : o2 = addO Y Z) (p3 : o3 = addO (refo (outO o1)) Z) (p4 : o4 = addO X (refo (outO o2))) (p5 : o5 = mulO X Y) (p6 : o6 = mulO (refo (outO o5)) Z) (p7 : o7 = mulO Y Z) (p8 : o8 = mulO X (refo (outO o7)))
    (p9 : o9 = mulO X (refo (outO o2))) (p11 : o11 = mulO X Z) (p12 : o12 = addO (refo (outO o5)) (refo (outO o11))) (p14 : o14 = addO (refo (outO o1)) (refo (outO Y')))
    (n1 : o1.isNone = false) (n2 : o2.isNone = false) (n3 : o3.isNone = false) (n4 : o4.isNone = false) (n5 : o5.isNone = false) (n6 : o6.isNone = false) (n7 : o7.isNone = false) (n8 : o8.isNone = false) (n9 : o9.isNone = false) (n11 : o11.isNone = false) (n12 : o12.isNone = false) (n14 : o14.isNone = false) :
    outO o3 = outO o4 ∧ outO o6 = outO o8 ∧ outO o9 = outO o12 ∧ outO o14 = outO X := by
  obtain ⟨p, q, hp, hq, k1⟩ := addO_some (p1.symm.trans (some_of n1))
  obtain ⟨_, r, hq2, hr, k2⟩ := addO_some (p2.symm.trans (some_of n2))
  obtain rfl : q = _ := Option.some.inj (hq.symm.trans hq2)
  obtain ⟨ip, op⟩ := hX p hp
  obtain ⟨iq, oq⟩ := hY q hq
  obtain ⟨ir, or'⟩ := hZ r hr
  obtain ⟨q', hq', ⟨iq', oq'⟩, hzz⟩ := hY' q hq
  obtain ⟨i1, f1⟩ := addD_form k1 ip iq op oq
  obtain ⟨i2, f2⟩ := addD_form k2 iq ir oq or'
  have r1 : refo (outO o1) = some (outO o1) := form_self i1 f1
  have r2 : refo (outO o2) = some (outO o2) := form_self i2 f2
  rw [r1, hr] at p3
  rw [hp, r2] at p4
  rw [hp, hq] at p5
  have k3 : addD (outO o1) r = some (outO o3) := p3.symm.trans (some_of n3)
  have k4 : addD p (outO o2) = some (outO o4) := p4.symm.trans (some_of n4)
  have k5 : mulD p q = some (outO o5) := p5.symm.trans (some_of n5)
  obtain ⟨i5, f5⟩ := mulD_form k5
  have r5 : refo (outO o5) = some (outO o5) := form_self i5 f5
  rw [r5, hr] at p6
  have k6 : mulD (outO o5) r = some (outO o6) := p6.symm.trans (some_of n6)
  rw [hq, hr] at p7
  have k7 : mulD q r = some (outO o7) := p7.symm.trans (some_of n7)
  obtain ⟨i7, f7⟩ := mulD_form k7
  have r7 : refo (outO o7) = some (outO o7) := form_self i7 f7
  rw [hp, r7] at p8
  have k8 : mulD p (outO o7) = some (outO o8) := p8.symm.trans (some_of n8)
  rw [hp, r2] at p9
  have k9 : mulD p (outO o2) = some (outO o9) := p9.symm.trans (some_of n9)
  rw [hp, hr] at p11
  have k11 : mulD p r = some (outO o11) := p11.symm.trans (some_of n11)
  obtain ⟨i11, f11⟩ := mulD_form k11
  have r11 : refo (outO o11) = some (outO o11) := form_self i11 f11
  rw [r5, r11] at p12
  have k12 : addD (outO o5) (outO o11) = some (outO o12) := p12.symm.trans (some_of n12)
  have r13 : refo (outO Y') = some q' := by rw [hq']; exact form_self iq' oq'
  rw [r1, r13] at p14
  have k14 : addD (outO o1) q' = some (outO o14) := p14.symm.trans (some_of n14)
  obtain ⟨h1, h2, h3, h4⟩ := ring_law ip iq ir iq' hzz k1 k2 k3 k4 k5 k6 k7 k8 k9 k11 k12 k14
  exact ⟨h1, h2, h3, by rw [h4, hp]; rfl⟩
theorem form_both {s : Bool} {n : Nat} {e : Int} {d : D} (h : formF s n e = some d) : d.Is ∧ d.Ok := ⟨formF_is h, formF_ok h⟩
end Go.Proofs.YtmokomfneikipaaDoor

namespace Go.Proofs.YtmokomfneikipaaDoor
open Go.RowKit
set_option linter.unusedVariables false
set_option linter.unusedSimpArgs false

theorem fine_drew {w : World} {F : Nat} {b : Bool} (h : Fine w F b) : Fine w.drew F b := h
theorem own_wr_cel {w W : World} {base c g : Nat} {a : Option Addr} {l : List Nat} {v0 v1 v2 u0 u1 u2 : Value} (hW : W = wr3 w g u0 u1 u2) (h : Own w 64 base a c l) (k : Cel w g v0 v1 v2) : Own W 64 base a c l := by
  have hne := fun ad ha => cel_apart k h ad ha
  rcases h with h1 | ⟨g', t, h0, h1, h2, h3, h4⟩
  · exact .inl h1
  · refine .inr ⟨g', t, h0, h1, h2, h3, ?_⟩
    have h5 : g' ≠ g := hne _ h0
    rw [hW]
    exact ((h4.other (a := ⟨g, 0, none⟩) (Ne.symm h5) u0).other (a := ⟨g, 1, none⟩) (Ne.symm h5) u1).other (a := ⟨g, 2, none⟩) (Ne.symm h5) u2

set_option maxRecDepth 10000 in
set_option maxHeartbeats 32000000 in
theorem ring_any (x y z : Arg) (w : World) (hx : x.Ok w) (hy : y.Ok w) (hz : z.Ok w) (hT : Tab w) :
    Calls Tryd.prog 9 #[x.v, y.v, z.v] w fun en w' => en = .returned (.bool true) ∧ Below w.heap.size w w' := by
  obtain ⟨s, a, l, c, e⟩ := x
  obtain ⟨s', a', l', c', e'⟩ := y
  obtain ⟨s2, a2, l2, c2, e2⟩ := z
  have hAwk := fun W (hw : Below w.heap.size w W) => awake_any W (hT.grow hw)
  simp only [Arg.v]
  obtain ⟨o1, p1⟩ : ∃ o, o = addO (formF s (num l) e) (formF s' (num l') e') := ⟨_, rfl⟩
  obtain ⟨d1, q1⟩ : ∃ d, d = outO o1 := ⟨_, rfl⟩
  obtain ⟨n1, m1⟩ : ∃ n, n = o1.isNone := ⟨_, rfl⟩
  have ok1 : d1.Ok := by
    rw [q1, p1]; exact addO_ok _ _ _ _ _ _
  obtain ⟨o2, p2⟩ : ∃ o, o = addO (formF s' (num l') e') (formF s2 (num l2) e2) := ⟨_, rfl⟩
  obtain ⟨d2, q2⟩ : ∃ d, d = outO o2 := ⟨_, rfl⟩
  obtain ⟨n2, m2⟩ : ∃ n, n = o2.isNone := ⟨_, rfl⟩
  have ok2 : d2.Ok := by
    rw [q2, p2]; exact addO_ok _ _ _ _ _ _
  obtain ⟨o3, p3⟩ : ∃ o, o = addO (refo d1) (formF s2 (num l2) e2) := ⟨_, rfl⟩
  obtain ⟨d3, q3⟩ : ∃ d, d = outO o3 := ⟨_, rfl⟩
  obtain ⟨n3, m3⟩ : ∃ n, n = o3.isNone := ⟨_, rfl⟩
  have ok3 : d3.Ok := by
    rw [q3, p3]; exact addO_ok _ _ _ _ _ _
  obtain ⟨o4, p4⟩ : ∃ o, o = addO (formF s (num l) e) (refo d2) := ⟨_, rfl⟩
  obtain ⟨d4, q4⟩ : ∃ d, d = outO o4 := ⟨_, rfl⟩
  obtain ⟨n4, m4⟩ : ∃ n, n = o4.isNone := ⟨_, rfl⟩
  have ok4 : d4.Ok := by
    rw [q4, p4]; exact addO_ok _ _ _ _ _ _
  obtain ⟨o5, p5⟩ : ∃ o, o = mulO (formF s (num l) e) (formF s' (num l') e') := ⟨_, rfl⟩
  obtain ⟨d5, q5⟩ : ∃ d, d = outO o5 := ⟨_, rfl⟩
  obtain ⟨n5, m5⟩ : ∃ n, n = o5.isNone := ⟨_, rfl⟩
  have ok5 : d5.Ok := by
    rw [q5, p5]; exact mulO_ok _ _ _ _ _ _
  obtain ⟨o6, p6⟩ : ∃ o, o = mulO (refo d5) (formF s2 (num l2) e2) := ⟨_, rfl⟩
  obtain ⟨d6, q6⟩ : ∃ d, d = outO o6 := ⟨_, rfl⟩
  obtain ⟨n6, m6⟩ : ∃ n, n = o6.isNone := ⟨_, rfl⟩
  have ok6 : d6.Ok := by
    rw [q6, p6]; exact mulO_ok _ _ _ _ _ _
  obtain ⟨o7, p7⟩ : ∃ o, o = mulO (formF s' (num l') e') (formF s2 (num l2) e2) := ⟨_, rfl⟩
  obtain ⟨d7, q7⟩ : ∃ d, d = outO o7 := ⟨_, rfl⟩
  obtain ⟨n7, m7⟩ : ∃ n, n = o7.isNone := ⟨_, rfl⟩
  have ok7 : d7.Ok := by
    rw [q7, p7]; exact mulO_ok _ _ _ _ _ _
  obtain ⟨o8, p8⟩ : ∃ o, o = mulO (formF s (num l) e) (refo d7) := ⟨_, rfl⟩
  obtain ⟨d8, q8⟩ : ∃ d, d = outO o8 := ⟨_, rfl⟩
  obtain ⟨n8, m8⟩ : ∃ n, n = o8.isNone := ⟨_, rfl⟩
  have ok8 : d8.Ok := by
    rw [q8, p8]; exact mulO_ok _ _ _ _ _ _
  obtain ⟨o9, p9⟩ : ∃ o, o = mulO (formF s (num l) e) (refo d2) := ⟨_, rfl⟩
  obtain ⟨d9, q9⟩ : ∃ d, d = outO o9 := ⟨_, rfl⟩
  obtain ⟨n9, m9⟩ : ∃ n, n = o9.isNone := ⟨_, rfl⟩
  have ok9 : d9.Ok := by
    rw [q9, p9]; exact mulO_ok _ _ _ _ _ _
  obtain ⟨o11, p11⟩ : ∃ o, o = mulO (formF s (num l) e) (formF s2 (num l2) e2) := ⟨_, rfl⟩
  obtain ⟨d11, q11⟩ : ∃ d, d = outO o11 := ⟨_, rfl⟩
  obtain ⟨n11, m11⟩ : ∃ n, n = o11.isNone := ⟨_, rfl⟩
  have ok11 : d11.Ok := by
    rw [q11, p11]; exact mulO_ok _ _ _ _ _ _
  obtain ⟨o12, p12⟩ : ∃ o, o = addO (refo d5) (refo d11) := ⟨_, rfl⟩
  obtain ⟨d12, q12⟩ : ∃ d, d = outO o12 := ⟨_, rfl⟩
  obtain ⟨n12, m12⟩ : ∃ n, n = o12.isNone := ⟨_, rfl⟩
  have ok12 : d12.Ok := by
    rw [q12, p12]; exact addO_ok _ _ _ _ _ _
  obtain ⟨o13, p13⟩ : ∃ o, o = formF (!s') (num l') e' := ⟨_, rfl⟩
  obtain ⟨d13, q13⟩ : ∃ d, d = outO o13 := ⟨_, rfl⟩
  have ok13 : d13.Ok := by
    rw [q13, p13]; exact outF_ok _ _ _
  obtain ⟨o14, p14⟩ : ∃ o, o = addO (refo d1) (refo d13) := ⟨_, rfl⟩
  obtain ⟨d14, q14⟩ : ∃ d, d = outO o14 := ⟨_, rfl⟩
  obtain ⟨n14, m14⟩ : ∃ n, n = o14.isNone := ⟨_, rfl⟩
  have ok14 : d14.Ok := by
    rw [q14, p14]; exact addO_ok _ _ _ _ _ _
  obtain ⟨o15, p15⟩ : ∃ o, o = formF s (num l) e := ⟨_, rfl⟩
  obtain ⟨d15, q15⟩ : ∃ d, d = outO o15 := ⟨_, rfl⟩
  have ok15 : d15.Ok := by
    rw [q15, p15]; exact outF_ok _ _ _
  obtain ⟨o16, p16⟩ : ∃ o, o = addO (formF s (num l) e) (formF (!s') (num l') e') := ⟨_, rfl⟩
  obtain ⟨d16, q16⟩ : ∃ d, d = outO o16 := ⟨_, rfl⟩
  have ok16 : d16.Ok := by
    rw [q16, p16]; exact addO_ok _ _ _ _ _ _
  obtain ⟨e15, m15⟩ : ∃ v, v = errO o15 := ⟨_, rfl⟩
  obtain ⟨e16, m16⟩ : ∃ v, v = errO o16 := ⟨_, rfl⟩
  have h1 : ∀ (W : World) (G : Nat) (b : Bool), Below w.heap.size w W → Fine W G b → Calls Tryd.prog 42 #[.pointer (some ⟨G, 0, none⟩), .agg #[.bool s, .slice a l.length c, .int .i64 e], .agg #[.bool s', .slice a' l'.length c', .int .i64 e']] W fun en w' => ∃ ra rc, en = .returned (.agg #[.bool d1.neg, .slice ra (words d1.m).length rc, .int .i64 d1.exp]) ∧ Own w' 64 W.heap.size ra rc (words d1.m) ∧ Fine w' G (b || n1) ∧ W.grownBy w' (some G) := by
    intro W G b hw hG
    have := fadd_any G b ⟨s, a, l, c, e⟩ ⟨s', a', l', c', e'⟩ W hG (hx.grow hw) (hy.grow hw) (hT.grow hw)
    rw [show Arg.F ⟨s, a, l, c, e⟩ = (formF s (num l) e) from rfl, show Arg.F ⟨s', a', l', c', e'⟩ = (formF s' (num l') e') from rfl, ← p1, ← q1, ← m1] at this
    exact this
  have h2 : ∀ (W : World) (G : Nat) (b : Bool), Below w.heap.size w W → Fine W G b → Calls Tryd.prog 42 #[.pointer (some ⟨G, 0, none⟩), .agg #[.bool s', .slice a' l'.length c', .int .i64 e'], .agg #[.bool s2, .slice a2 l2.length c2, .int .i64 e2]] W fun en w' => ∃ ra rc, en = .returned (.agg #[.bool d2.neg, .slice ra (words d2.m).length rc, .int .i64 d2.exp]) ∧ Own w' 64 W.heap.size ra rc (words d2.m) ∧ Fine w' G (b || n2) ∧ W.grownBy w' (some G) := by
    intro W G b hw hG
    have := fadd_any G b ⟨s', a', l', c', e'⟩ ⟨s2, a2, l2, c2, e2⟩ W hG (hy.grow hw) (hz.grow hw) (hT.grow hw)
    rw [show Arg.F ⟨s', a', l', c', e'⟩ = (formF s' (num l') e') from rfl, show Arg.F ⟨s2, a2, l2, c2, e2⟩ = (formF s2 (num l2) e2) from rfl, ← p2, ← q2, ← m2] at this
    exact this
  have h3 : ∀ (W : World) (G : Nat) (b : Bool) (ra1 : Option Addr) (rc1 b1 : Nat), Below w.heap.size w W → Fine W G b → Own W 64 b1 ra1 rc1 (words d1.m) → Calls Tryd.prog 42 #[.pointer (some ⟨G, 0, none⟩), .agg #[.bool d1.neg, .slice ra1 (words d1.m).length rc1, .int .i64 d1.exp], .agg #[.bool s2, .slice a2 l2.length c2, .int .i64 e2]] W fun en w' => ∃ ra rc, en = .returned (.agg #[.bool d3.neg, .slice ra (words d3.m).length rc, .int .i64 d3.exp]) ∧ Own w' 64 W.heap.size ra rc (words d3.m) ∧ Fine w' G (b || n3) ∧ W.grownBy w' (some G) := by
    intro W G b ra1 rc1 b1 hw hG w1
    have := fadd_any G b (argOf d1 ra1 rc1) ⟨s2, a2, l2, c2, e2⟩ W hG (w1.arg ok1) (hz.grow hw) (hT.grow hw)
    rw [show Arg.F (argOf d1 ra1 rc1) = (refo d1) from by unfold Arg.F argOf refo; dsimp only; rw [num_words], show Arg.F ⟨s2, a2, l2, c2, e2⟩ = (formF s2 (num l2) e2) from rfl, ← p3, ← q3, ← m3] at this
    exact this
  have h4 : ∀ (W : World) (G : Nat) (b : Bool) (ra2 : Option Addr) (rc2 b2 : Nat), Below w.heap.size w W → Fine W G b → Own W 64 b2 ra2 rc2 (words d2.m) → Calls Tryd.prog 42 #[.pointer (some ⟨G, 0, none⟩), .agg #[.bool s, .slice a l.length c, .int .i64 e], .agg #[.bool d2.neg, .slice ra2 (words d2.m).length rc2, .int .i64 d2.exp]] W fun en w' => ∃ ra rc, en = .returned (.agg #[.bool d4.neg, .slice ra (words d4.m).length rc, .int .i64 d4.exp]) ∧ Own w' 64 W.heap.size ra rc (words d4.m) ∧ Fine w' G (b || n4) ∧ W.grownBy w' (some G) := by
    intro W G b ra2 rc2 b2 hw hG w2
    have := fadd_any G b ⟨s, a, l, c, e⟩ (argOf d2 ra2 rc2) W hG (hx.grow hw) (w2.arg ok2) (hT.grow hw)
    rw [show Arg.F ⟨s, a, l, c, e⟩ = (formF s (num l) e) from rfl, show Arg.F (argOf d2 ra2 rc2) = (refo d2) from by unfold Arg.F argOf refo; dsimp only; rw [num_words], ← p4, ← q4, ← m4] at this
    exact this
  have h5 : ∀ (W : World) (G : Nat) (b : Bool), Below w.heap.size w W → Fine W G b → Calls Tryd.prog 43 #[.pointer (some ⟨G, 0, none⟩), .agg #[.bool s, .slice a l.length c, .int .i64 e], .agg #[.bool s', .slice a' l'.length c', .int .i64 e']] W fun en w' => ∃ ra rc, en = .returned (.agg #[.bool d5.neg, .slice ra (words d5.m).length rc, .int .i64 d5.exp]) ∧ Own w' 64 W.heap.size ra rc (words d5.m) ∧ Fine w' G (b || n5) ∧ W.grownBy w' (some G) := by
    intro W G b hw hG
    have := fmul_any G b ⟨s, a, l, c, e⟩ ⟨s', a', l', c', e'⟩ W hG (hx.grow hw) (hy.grow hw) (hT.grow hw)
    rw [show Arg.F ⟨s, a, l, c, e⟩ = (formF s (num l) e) from rfl, show Arg.F ⟨s', a', l', c', e'⟩ = (formF s' (num l') e') from rfl, ← p5, ← q5, ← m5] at this
    exact this
  have h6 : ∀ (W : World) (G : Nat) (b : Bool) (ra5 : Option Addr) (rc5 b5 : Nat), Below w.heap.size w W → Fine W G b → Own W 64 b5 ra5 rc5 (words d5.m) → Calls Tryd.prog 43 #[.pointer (some ⟨G, 0, none⟩), .agg #[.bool d5.neg, .slice ra5 (words d5.m).length rc5, .int .i64 d5.exp], .agg #[.bool s2, .slice a2 l2.length c2, .int .i64 e2]] W fun en w' => ∃ ra rc, en = .returned (.agg #[.bool d6.neg, .slice ra (words d6.m).length rc, .int .i64 d6.exp]) ∧ Own w' 64 W.heap.size ra rc (words d6.m) ∧ Fine w' G (b || n6) ∧ W.grownBy w' (some G) := by
    intro W G b ra5 rc5 b5 hw hG w5
    have := fmul_any G b (argOf d5 ra5 rc5) ⟨s2, a2, l2, c2, e2⟩ W hG (w5.arg ok5) (hz.grow hw) (hT.grow hw)
    rw [show Arg.F (argOf d5 ra5 rc5) = (refo d5) from by unfold Arg.F argOf refo; dsimp only; rw [num_words], show Arg.F ⟨s2, a2, l2, c2, e2⟩ = (formF s2 (num l2) e2) from rfl, ← p6, ← q6, ← m6] at this
    exact this
  have h7 : ∀ (W : World) (G : Nat) (b : Bool), Below w.heap.size w W → Fine W G b → Calls Tryd.prog 43 #[.pointer (some ⟨G, 0, none⟩), .agg #[.bool s', .slice a' l'.length c', .int .i64 e'], .agg #[.bool s2, .slice a2 l2.length c2, .int .i64 e2]] W fun en w' => ∃ ra rc, en = .returned (.agg #[.bool d7.neg, .slice ra (words d7.m).length rc, .int .i64 d7.exp]) ∧ Own w' 64 W.heap.size ra rc (words d7.m) ∧ Fine w' G (b || n7) ∧ W.grownBy w' (some G) := by
    intro W G b hw hG
    have := fmul_any G b ⟨s', a', l', c', e'⟩ ⟨s2, a2, l2, c2, e2⟩ W hG (hy.grow hw) (hz.grow hw) (hT.grow hw)
    rw [show Arg.F ⟨s', a', l', c', e'⟩ = (formF s' (num l') e') from rfl, show Arg.F ⟨s2, a2, l2, c2, e2⟩ = (formF s2 (num l2) e2) from rfl, ← p7, ← q7, ← m7] at this
    exact this
  have h8 : ∀ (W : World) (G : Nat) (b : Bool) (ra7 : Option Addr) (rc7 b7 : Nat), Below w.heap.size w W → Fine W G b → Own W 64 b7 ra7 rc7 (words d7.m) → Calls Tryd.prog 43 #[.pointer (some ⟨G, 0, none⟩), .agg #[.bool s, .slice a l.length c, .int .i64 e], .agg #[.bool d7.neg, .slice ra7 (words d7.m).length rc7, .int .i64 d7.exp]] W fun en w' => ∃ ra rc, en = .returned (.agg #[.bool d8.neg, .slice ra (words d8.m).length rc, .int .i64 d8.exp]) ∧ Own w' 64 W.heap.size ra rc (words d8.m) ∧ Fine w' G (b || n8) ∧ W.grownBy w' (some G) := by
    intro W G b ra7 rc7 b7 hw hG w7
    have := fmul_any G b ⟨s, a, l, c, e⟩ (argOf d7 ra7 rc7) W hG (hx.grow hw) (w7.arg ok7) (hT.grow hw)
    rw [show Arg.F ⟨s, a, l, c, e⟩ = (formF s (num l) e) from rfl, show Arg.F (argOf d7 ra7 rc7) = (refo d7) from by unfold Arg.F argOf refo; dsimp only; rw [num_words], ← p8, ← q8, ← m8] at this
    exact this
  have h9 : ∀ (W : World) (G : Nat) (b : Bool) (ra2 : Option Addr) (rc2 b2 : Nat), Below w.heap.size w W → Fine W G b → Own W 64 b2 ra2 rc2 (words d2.m) → Calls Tryd.prog 43 #[.pointer (some ⟨G, 0, none⟩), .agg #[.bool s, .slice a l.length c, .int .i64 e], .agg #[.bool d2.neg, .slice ra2 (words d2.m).length rc2, .int .i64 d2.exp]] W fun en w' => ∃ ra rc, en = .returned (.agg #[.bool d9.neg, .slice ra (words d9.m).length rc, .int .i64 d9.exp]) ∧ Own w' 64 W.heap.size ra rc (words d9.m) ∧ Fine w' G (b || n9) ∧ W.grownBy w' (some G) := by
    intro W G b ra2 rc2 b2 hw hG w2
    have := fmul_any G b ⟨s, a, l, c, e⟩ (argOf d2 ra2 rc2) W hG (hx.grow hw) (w2.arg ok2) (hT.grow hw)
    rw [show Arg.F ⟨s, a, l, c, e⟩ = (formF s (num l) e) from rfl, show Arg.F (argOf d2 ra2 rc2) = (refo d2) from by unfold Arg.F argOf refo; dsimp only; rw [num_words], ← p9, ← q9, ← m9] at this
    exact this
  have h11 : ∀ (W : World) (G : Nat) (b : Bool), Below w.heap.size w W → Fine W G b → Calls Tryd.prog 43 #[.pointer (some ⟨G, 0, none⟩), .agg #[.bool s, .slice a l.length c, .int .i64 e], .agg #[.bool s2, .slice a2 l2.length c2, .int .i64 e2]] W fun en w' => ∃ ra rc, en = .returned (.agg #[.bool d11.neg, .slice ra (words d11.m).length rc, .int .i64 d11.exp]) ∧ Own w' 64 W.heap.size ra rc (words d11.m) ∧ Fine w' G (b || n11) ∧ W.grownBy w' (some G) := by
    intro W G b hw hG
    have := fmul_any G b ⟨s, a, l, c, e⟩ ⟨s2, a2, l2, c2, e2⟩ W hG (hx.grow hw) (hz.grow hw) (hT.grow hw)
    rw [show Arg.F ⟨s, a, l, c, e⟩ = (formF s (num l) e) from rfl, show Arg.F ⟨s2, a2, l2, c2, e2⟩ = (formF s2 (num l2) e2) from rfl, ← p11, ← q11, ← m11] at this
    exact this
  have h12 : ∀ (W : World) (G : Nat) (b : Bool) (ra5 : Option Addr) (rc5 b5 : Nat) (ra11 : Option Addr) (rc11 b11 : Nat), Below w.heap.size w W → Fine W G b → Own W 64 b5 ra5 rc5 (words d5.m) → Own W 64 b11 ra11 rc11 (words d11.m) → Calls Tryd.prog 42 #[.pointer (some ⟨G, 0, none⟩), .agg #[.bool d5.neg, .slice ra5 (words d5.m).length rc5, .int .i64 d5.exp], .agg #[.bool d11.neg, .slice ra11 (words d11.m).length rc11, .int .i64 d11.exp]] W fun en w' => ∃ ra rc, en = .returned (.agg #[.bool d12.neg, .slice ra (words d12.m).length rc, .int .i64 d12.exp]) ∧ Own w' 64 W.heap.size ra rc (words d12.m) ∧ Fine w' G (b || n12) ∧ W.grownBy w' (some G) := by
    intro W G b ra5 rc5 b5 ra11 rc11 b11 hw hG w5 w11
    have := fadd_any G b (argOf d5 ra5 rc5) (argOf d11 ra11 rc11) W hG (w5.arg ok5) (w11.arg ok11) (hT.grow hw)
    rw [show Arg.F (argOf d5 ra5 rc5) = (refo d5) from by unfold Arg.F argOf refo; dsimp only; rw [num_words], show Arg.F (argOf d11 ra11 rc11) = (refo d11) from by unfold Arg.F argOf refo; dsimp only; rw [num_words], ← p12, ← q12, ← m12] at this
    exact this
  have h14 : ∀ (W : World) (G : Nat) (b : Bool) (ra1 : Option Addr) (rc1 b1 : Nat) (ra13 : Option Addr) (rc13 b13 : Nat), Below w.heap.size w W → Fine W G b → Own W 64 b1 ra1 rc1 (words d1.m) → Own W 64 b13 ra13 rc13 (words d13.m) → Calls Tryd.prog 42 #[.pointer (some ⟨G, 0, none⟩), .agg #[.bool d1.neg, .slice ra1 (words d1.m).length rc1, .int .i64 d1.exp], .agg #[.bool d13.neg, .slice ra13 (words d13.m).length rc13, .int .i64 d13.exp]] W fun en w' => ∃ ra rc, en = .returned (.agg #[.bool d14.neg, .slice ra (words d14.m).length rc, .int .i64 d14.exp]) ∧ Own w' 64 W.heap.size ra rc (words d14.m) ∧ Fine w' G (b || n14) ∧ W.grownBy w' (some G) := by
    intro W G b ra1 rc1 b1 ra13 rc13 b13 hw hG w1 w13
    have := fadd_any G b (argOf d1 ra1 rc1) (argOf d13 ra13 rc13) W hG (w1.arg ok1) (w13.arg ok13) (hT.grow hw)
    rw [show Arg.F (argOf d1 ra1 rc1) = (refo d1) from by unfold Arg.F argOf refo; dsimp only; rw [num_words], show Arg.F (argOf d13 ra13 rc13) = (refo d13) from by unfold Arg.F argOf refo; dsimp only; rw [num_words], ← p14, ← q14, ← m14] at this
    exact this
  have h13 : ∀ W : World, Below w.heap.size w W → Calls Tryd.prog 34 #[.agg #[.bool s', .slice a' l'.length c', .int .i64 e']] W fun en w' => ∃ ra rc, en = .returned (.agg #[.bool d13.neg, .slice ra (words d13.m).length rc, .int .i64 d13.exp]) ∧ Own w' 64 W.heap.size ra rc (words d13.m) ∧ Below W.heap.size W w' := by
    intro W hw
    refine (dneg_any ⟨s', a', l', c', e'⟩ W (hy.grow hw) (hT.grow hw)).mono ?_
    rintro en w' ⟨v, rfl, ⟨ra, rc, rfl, ho⟩, hb⟩
    have hd : outO (Arg.F (Arg.opp ⟨s', a', l', c', e'⟩)) = d13 := by rw [q13, p13]; rfl
    rw [hd] at ho ⊢
    exact ⟨ra, rc, rfl, ho, hb⟩
  have h15 : ∀ W : World, Below w.heap.size w W → Calls Tryd.prog 14 #[.bool s, .slice a l.length c, .int .i64 e] W fun en w' => ∃ ra rc, en = .returned (.tuple #[.agg #[.bool d15.neg, .slice ra (words d15.m).length rc, .int .i64 d15.exp], .int .i64 e15]) ∧ Own w' 64 W.heap.size ra rc (words d15.m) ∧ Below W.heap.size W w' := by
    intro W hw
    have := dmake_any s a c l e W (hx.grow hw) (hT.grow hw)
    rw [← p15] at this
    refine this.mono ?_
    rintro en w' ⟨v, rfl, ⟨ra, rc, rfl, ho⟩, hb⟩
    rw [← q15] at ho ⊢
    rw [← m15]
    exact ⟨ra, rc, rfl, ho, hb⟩
  have h16 : ∀ W : World, Below w.heap.size w W → Calls Tryd.prog 22 #[.agg #[.bool s, .slice a l.length c, .int .i64 e], .agg #[.bool s', .slice a' l'.length c', .int .i64 e']] W fun en w' => ∃ ra rc, en = .returned (.tuple #[.agg #[.bool d16.neg, .slice ra (words d16.m).length rc, .int .i64 d16.exp], .int .i64 e16]) ∧ Own w' 64 W.heap.size ra rc (words d16.m) ∧ Below W.heap.size W w' := by
    intro W hw
    have := dsub_any ⟨s, a, l, c, e⟩ ⟨s', a', l', c', e'⟩ W (hx.grow hw) (hy.grow hw) (hT.grow hw)
    rw [show addO (Arg.F ⟨s, a, l, c, e⟩) (Arg.F (Arg.opp ⟨s', a', l', c', e'⟩)) = addO (formF s (num l) e) (formF (!s') (num l') e') from rfl, ← p16] at this
    refine this.mono ?_
    rintro en w' ⟨v, rfl, ⟨ra, rc, rfl, ho⟩, hb⟩
    rw [← q16] at ho ⊢
    rw [← m16]
    exact ⟨ra, rc, rfl, ho, hb⟩
  obtain ⟨cc, mc⟩ : ∃ v, v = cmpA ⟨s, a, l, c, e⟩ ⟨s', a', l', c', e'⟩ := ⟨_, rfl⟩
  have hcmp : ∀ W : World, Below w.heap.size w W → Calls Tryd.prog 35 #[.agg #[.bool s, .slice a l.length c, .int .i64 e], .agg #[.bool s', .slice a' l'.length c', .int .i64 e']] W fun en w' => en = .returned (.int .i64 cc) ∧ Below W.heap.size W w' := by
    intro W hw
    rw [mc]
    exact dcmp_any ⟨s, a, l, c, e⟩ ⟨s', a', l', c', e'⟩ W (hx.grow hw) (hy.grow hw)
  have hsg : ∀ (W : World) ra rc b16, e16 = 0 → Own W 64 b16 ra rc (words d16.m) → Calls Tryd.prog 36 #[.agg #[.bool d16.neg, .slice ra (words d16.m).length rc, .int .i64 d16.exp]] W fun en w' => en = .returned (.int .i64 cc) ∧ Below W.heap.size W w' := by
    intro W ra rc b16 h0 ho
    have := dsign_any (argOf d16 ra rc) W (ho.arg ok16)
    have hs : Arg.sign (argOf d16 ra rc) = cc := by
      have hsome : o16 = some d16 := by
        rw [q16]; refine some_of ?_
        rw [m16] at h0; cases o16 with
        | none => cases h0
        | some d => rfl
      rw [mc, ← sub_cmp s a l c e s' a' l' c' e' d16 (by rw [← p16]; exact hsome)]
      unfold Arg.sign argOf
      dsimp only
      rw [num_words]
    rw [hs] at this
    exact this
  have hplain : n1 = false → n2 = false → n3 = false → n4 = false → n5 = false → n6 = false → n7 = false → n8 = false → n9 = false → n11 = false → n12 = false → n14 = false → d3 = d4 ∧ d6 = d8 ∧ d9 = d12 ∧ d14 = d15 := by
    intro g1 g2 g3 g4 g5 g6 g7 g8 g9 g11 g12 g14
    have := ring_plain (X := formF s (num l) e) (Y := formF s' (num l') e') (Z := formF s2 (num l2) e2) (Y' := o13) (fun d h => form_both h) (fun d h => form_both h) (fun d h => form_both h) (fun q h => by
      obtain ⟨q', h1, h2⟩ := neg_form h
      exact ⟨q', by rw [p13]; exact h1, form_both h1, h2⟩)
      p1 p2 (by rw [← q1]; exact p3) (by rw [← q2]; exact p4) p5 (by rw [← q5]; exact p6) p7 (by rw [← q7]; exact p8) (by rw [← q2]; exact p9) p11 (by rw [← q5, ← q11]; exact p12) (by rw [← q1, ← q13]; exact p14)
      (m1 ▸ g1) (m2 ▸ g2) (m3 ▸ g3) (m4 ▸ g4) (m5 ▸ g5) (m6 ▸ g6) (m7 ▸ g7) (m8 ▸ g8) (m9 ▸ g9) (m11 ▸ g11) (m12 ▸ g12) (m14 ▸ g14)
    rw [q3, q4, q6, q8, q9, q12, q14, q15, p15]
    exact this
  have Hh1 := Lib.hid h1; have Hh2 := Lib.hid h2; have Hh3 := Lib.hid h3; have Hh4 := Lib.hid h4; have Hh5 := Lib.hid h5; have Hh6 := Lib.hid h6; have Hh7 := Lib.hid h7; have Hh8 := Lib.hid h8; have Hh9 := Lib.hid h9; have Hh11 := Lib.hid h11; have Hh12 := Lib.hid h12; have Hh14 := Lib.hid h14; have HhAwk := Lib.hid hAwk; have Hh13 := Lib.hid h13; have Hh15 := Lib.hid h15; have Hh16 := Lib.hid h16; have Hhcmp := Lib.hid hcmp; have Hhsg := Lib.hid hsg; have Hhplain := Lib.hid hplain; have Hok1 := Lib.hid ok1; have Hok2 := Lib.hid ok2; have Hok3 := Lib.hid ok3; have Hok4 := Lib.hid ok4; have Hok5 := Lib.hid ok5; have Hok6 := Lib.hid ok6; have Hok7 := Lib.hid ok7; have Hok8 := Lib.hid ok8; have Hok9 := Lib.hid ok9; have Hok11 := Lib.hid ok11; have Hok12 := Lib.hid ok12; have Hok13 := Lib.hid ok13; have Hok14 := Lib.hid ok14; have Hok15 := Lib.hid ok15; have Hok16 := Lib.hid ok16
  clear h1 h2 h3 h4 h5 h6 h7 h8 h9 h11 h12 h14 hAwk h13 h15 h16 hcmp hsg hplain ok1 ok2 ok3 ok4 ok5 ok6 ok7 ok8 ok9 ok11 ok12 ok13 ok14 ok15 ok16 hx hy hz hT p1 q1 p2 q2 p3 q3 p4 q4 p5 q5 p6 q6 p7 q7 p8 q8 p9 q9 p11 q11 p12 q12 p13 q13 p14 q14 p15 q15 p16 q16 m1 m2 m3 m4 m5 m6 m7 m8 m9 m11 m12 m14 m15 m16 mc
  clear o1 o2 o3 o4 o5 o6 o7 o8 o9 o11 o12 o13 o14 o15 o16
  go_enter Tryd.func9, Tryd.ntmps9
  go_wp2_with fail
  (obtain ⟨u1, g1'⟩ : ∃ W, W = (w.alloc (.cells #[.bool s, .slice a l.length c, .int .i64 e] 27)) := ⟨_, rfl⟩; have pinEq := g1'; (try simp only [wr3] at pinEq); rw [← pinEq]; clear pinEq)
  (obtain ⟨u2, g2'⟩ : ∃ W, W = (u1.alloc (.cells #[.bool s', .slice a' l'.length c', .int .i64 e'] 27)) := ⟨_, rfl⟩; have pinEq := g2'; (try simp only [wr3] at pinEq); rw [← pinEq]; clear pinEq)
  (obtain ⟨u3, g3'⟩ : ∃ W, W = (u2.alloc (.cells #[.bool s2, .slice a2 l2.length c2, .int .i64 e2] 27)) := ⟨_, rfl⟩; have pinEq := g3'; (try simp only [wr3] at pinEq); rw [← pinEq]; clear pinEq)
  obtain ⟨kA, hB, s1⟩ := new_cel g1' rfl
  obtain ⟨kB, bb2, s2'⟩ := new_cel g2' s1
  replace kA := kA.below bb2 (by omega)
  replace hB := hB.trans (bb2.mono (by omega))
  obtain ⟨kC, bb3, s3'⟩ := new_cel g3' s2'
  replace kA := kA.below bb3 (by omega)
  replace kB := kB.below bb3 (by omega)
  replace hB := hB.trans (bb3.mono (by omega))
  clear g1' g2' g3' bb2 bb3
  refine (HhAwk.out u3 hB).mono ?_; rintro en w0 ⟨rfl, hb⟩
  have z0 := hb.size
  replace kA := kA.below hb (by omega)
  replace kB := kB.below hb (by omega)
  replace kC := kC.below hb (by omega)
  replace hB := hB.trans (hb.mono hB.size)
  clear hb
  obtain ⟨_, _, _, _, _, _⟩ := (kA.alloc (.cells #[.bool false] 60)).facts
  obtain ⟨_, _, _, _, _, _⟩ := (kB.alloc (.cells #[.bool false] 60)).facts
  go_wp2_with fail
  (obtain ⟨v0, hv0⟩ : ∃ W, W = (w0.alloc (.cells #[.bool false] 60)) := ⟨_, rfl⟩; have pinEq := hv0; (try simp only [wr3] at pinEq); rw [← pinEq]; clear pinEq)
  obtain ⟨hF, bb, sF⟩ := new_of hv0 rfl
  replace hF : Fine v0 w0.heap.size false := hF
  replace kA := kA.below bb kA.lt
  replace kB := kB.below bb kB.lt
  replace kC := kC.below bb kC.lt
  replace hB := hB.trans (bb.mono hB.size)
  clear hv0 bb
  obtain ⟨G, hG⟩ : ∃ G, G = w0.heap.size := ⟨_, rfl⟩
  rw [← hG]
  rw [← hG] at hF
  have gG1 : w0.heap.size ≤ G := by omega
  have gG2 : G < v0.heap.size := by omega
  clear hG sF
  refine (Hh1.out v0 G _ hB hF).mono ?_; rintro en w1 ⟨ra1, rc1, rfl, ho1, hF', hk⟩
  replace kA := cel_grown kA hk (by omega)
  replace kB := cel_grown kB hk (by omega)
  replace kC := cel_grown kC hk (by omega)
  replace hB := bel_of_grown hB hk (by omega)
  replace hF := hF'
  have z1 := hk.size
  clear hk hF'
  obtain ⟨_, _, _, _, _, _⟩ := (kB.alloc (.cells #[.bool d1.neg, .slice ra1 (words d1.m).length rc1, .int .i64 d1.exp] 27)).facts
  obtain ⟨_, _, _, _, _, _⟩ := (kC.alloc (.cells #[.bool d1.neg, .slice ra1 (words d1.m).length rc1, .int .i64 d1.exp] 27)).facts
  go_wp2_with fail
  (obtain ⟨v1, hv1⟩ : ∃ W, W = (w1.alloc (.cells #[.bool d1.neg, .slice ra1 (words d1.m).length rc1, .int .i64 d1.exp] 27)) := ⟨_, rfl⟩; have pinEq := hv1; (try simp only [wr3] at pinEq); rw [← pinEq]; clear pinEq)
  obtain ⟨k1, bb, s101'⟩ := new_cel hv1 rfl
  replace kA := kA.below bb kA.lt
  replace kB := kB.below bb kB.lt
  replace kC := kC.below bb kC.lt
  replace ho1 := ho1.grow bb
  replace hF := hF.grow bb
  replace hB := hB.trans (bb.mono hB.size)
  clear hv1 bb s101'
  have y1 := k1.lt
  refine (Hh2.out v1 G _ hB hF).mono ?_; rintro en w2 ⟨ra2, rc2, rfl, ho2, hF', hk⟩
  replace kA := cel_grown kA hk (by omega)
  replace kB := cel_grown kB hk (by omega)
  replace kC := cel_grown kC hk (by omega)
  replace k1 := cel_grown k1 hk (by omega)
  replace ho1 := own_grown ho1 hk (fun ad ha => by have := ho1.ge ad ha; omega)
  replace hB := bel_of_grown hB hk (by omega)
  replace hF := hF'
  have z2 := hk.size
  clear hk hF'
  obtain ⟨_, _, _, _, _, _⟩ := (k1.alloc (.cells #[.bool d2.neg, .slice ra2 (words d2.m).length rc2, .int .i64 d2.exp] 27)).facts
  obtain ⟨_, _, _, _, _, _⟩ := (kC.alloc (.cells #[.bool d2.neg, .slice ra2 (words d2.m).length rc2, .int .i64 d2.exp] 27)).facts
  go_wp2_with fail
  (obtain ⟨v2, hv2⟩ : ∃ W, W = (w2.alloc (.cells #[.bool d2.neg, .slice ra2 (words d2.m).length rc2, .int .i64 d2.exp] 27)) := ⟨_, rfl⟩; have pinEq := hv2; (try simp only [wr3] at pinEq); rw [← pinEq]; clear pinEq)
  obtain ⟨k2, bb, s102'⟩ := new_cel hv2 rfl
  replace kA := kA.below bb kA.lt
  replace kB := kB.below bb kB.lt
  replace kC := kC.below bb kC.lt
  replace k1 := k1.below bb k1.lt
  replace ho1 := ho1.grow bb
  replace ho2 := ho2.grow bb
  replace hF := hF.grow bb
  replace hB := hB.trans (bb.mono hB.size)
  clear hv2 bb s102'
  have y2 := k2.lt
  refine (Hh3.out v2 G _ ra1 rc1 _ hB hF ho1).mono ?_; rintro en w3 ⟨ra3, rc3, rfl, ho3, hF', hk⟩
  replace kA := cel_grown kA hk (by omega)
  replace kB := cel_grown kB hk (by omega)
  replace kC := cel_grown kC hk (by omega)
  replace k1 := cel_grown k1 hk (by omega)
  replace k2 := cel_grown k2 hk (by omega)
  replace ho1 := own_grown ho1 hk (fun ad ha => by have := ho1.ge ad ha; omega)
  replace ho2 := own_grown ho2 hk (fun ad ha => by have := ho2.ge ad ha; omega)
  replace hB := bel_of_grown hB hk (by omega)
  replace hF := hF'
  have z3 := hk.size
  clear hk hF'
  obtain ⟨_, _, _, _, _, _⟩ := (kA.alloc (.cells #[.bool d3.neg, .slice ra3 (words d3.m).length rc3, .int .i64 d3.exp] 27)).facts
  obtain ⟨_, _, _, _, _, _⟩ := (k2.alloc (.cells #[.bool d3.neg, .slice ra3 (words d3.m).length rc3, .int .i64 d3.exp] 27)).facts
  go_wp2_with fail
  (obtain ⟨v3, hv3⟩ : ∃ W, W = (w3.alloc (.cells #[.bool d3.neg, .slice ra3 (words d3.m).length rc3, .int .i64 d3.exp] 27)) := ⟨_, rfl⟩; have pinEq := hv3; (try simp only [wr3] at pinEq); rw [← pinEq]; clear pinEq)
  obtain ⟨k3, bb, s103'⟩ := new_cel hv3 rfl
  replace kA := kA.below bb kA.lt
  replace kB := kB.below bb kB.lt
  replace kC := kC.below bb kC.lt
  replace k1 := k1.below bb k1.lt
  replace k2 := k2.below bb k2.lt
  replace ho1 := ho1.grow bb
  replace ho2 := ho2.grow bb
  replace ho3 := ho3.grow bb
  replace hF := hF.grow bb
  replace hB := hB.trans (bb.mono hB.size)
  clear hv3 bb s103'
  have y3 := k3.lt
  refine (Hh4.out v3 G _ ra2 rc2 _ hB hF ho2).mono ?_; rintro en w4 ⟨ra4, rc4, rfl, ho4, hF', hk⟩
  replace kA := cel_grown kA hk (by omega)
  replace kB := cel_grown kB hk (by omega)
  replace kC := cel_grown kC hk (by omega)
  replace k1 := cel_grown k1 hk (by omega)
  replace k2 := cel_grown k2 hk (by omega)
  replace k3 := cel_grown k3 hk (by omega)
  replace ho1 := own_grown ho1 hk (fun ad ha => by have := ho1.ge ad ha; omega)
  replace ho2 := own_grown ho2 hk (fun ad ha => by have := ho2.ge ad ha; omega)
  replace ho3 := own_grown ho3 hk (fun ad ha => by have := ho3.ge ad ha; omega)
  replace hB := bel_of_grown hB hk (by omega)
  replace hF := hF'
  have z4 := hk.size
  clear hk hF'
  go_wp2_with fail
  (obtain ⟨v4, hv4⟩ : ∃ W, W = (w4.alloc (.cells #[.bool d4.neg, .slice ra4 (words d4.m).length rc4, .int .i64 d4.exp] 27)) := ⟨_, rfl⟩; have pinEq := hv4; (try simp only [wr3] at pinEq); rw [← pinEq]; clear pinEq)
  obtain ⟨k4, bb, s104'⟩ := new_cel hv4 rfl
  replace kA := kA.below bb kA.lt
  replace kB := kB.below bb kB.lt
  replace kC := kC.below bb kC.lt
  replace k1 := k1.below bb k1.lt
  replace k2 := k2.below bb k2.lt
  replace k3 := k3.below bb k3.lt
  replace ho1 := ho1.grow bb
  replace ho2 := ho2.grow bb
  replace ho3 := ho3.grow bb
  replace ho4 := ho4.grow bb
  replace hF := hF.grow bb
  replace hB := hB.trans (bb.mono hB.size)
  clear hv4 bb s104'
  have y4 := k4.lt
  go_cut [13] from 43 to 49 (fun sl wx => ∃ (ra : Option Addr) (rc g : Nat), sl = .pointer (some ⟨g, 0, none⟩) ∧ v4.heap.size ≤ g ∧ Cel wx g (.bool d6.neg) (.slice ra (words d6.m).length rc) (.int .i64 d6.exp) ∧ Own wx 64 v4.heap.size ra rc (words d6.m) ∧ Fine wx G ((((((false || n1) || n2) || n3) || n4) || n5) || n6) ∧ v4.grownBy wx (some G))
  case first =>
    have gV : G < v4.heap.size := by omega
    obtain ⟨_, _, _, _, _, _⟩ := kA.facts
    have nekA : v4.heap.size ≠ w.heap.size := by have := kA.lt; omega
    have ltkA := kA.lt
    obtain ⟨_, _, _, _, _, _⟩ := kB.facts
    have nekB : v4.heap.size ≠ w.heap.size + 1 := by have := kB.lt; omega
    have ltkB := kB.lt
    obtain ⟨_, _, _, _, _, _⟩ := kC.facts
    have nekC : v4.heap.size ≠ w.heap.size + 1 + 1 := by have := kC.lt; omega
    have ltkC := kC.lt
    have hG5 : ∀ (W : World), v4.grownBy W (some G) → Fine W G ((((false || n1) || n2) || n3) || n4) → Calls Tryd.prog 43 #[.pointer (some ⟨G, 0, none⟩), .agg #[.bool s, .slice a l.length c, .int .i64 e], .agg #[.bool s', .slice a' l'.length c', .int .i64 e']] W fun en w' => ∃ ra rc, en = .returned (.agg #[.bool d5.neg, .slice ra (words d5.m).length rc, .int .i64 d5.exp]) ∧ Own w' 64 v4.heap.size ra rc (words d5.m) ∧ Fine w' G (((((false || n1) || n2) || n3) || n4) || n5) ∧ v4.grownBy w' (some G) ∧ W.grownBy w' (some G) := by
      intro W hW hf
      refine (Hh5.out W G _ (bel_of_grown hB hW (by omega)) hf).mono ?_
      rintro en w' ⟨ra, rc, rfl, ho, hf', hk⟩
      exact ⟨ra, rc, rfl, ho.mono hW.size, hf', grown_trans hW hk, hk⟩
    have hG6 : ∀ (W : World) (ra5 : Option Addr) (rc5 : Nat), v4.grownBy W (some G) → Fine W G (((((false || n1) || n2) || n3) || n4) || n5) → Own W 64 v4.heap.size ra5 rc5 (words d5.m) → Calls Tryd.prog 43 #[.pointer (some ⟨G, 0, none⟩), .agg #[.bool d5.neg, .slice ra5 (words d5.m).length rc5, .int .i64 d5.exp], .agg #[.bool s2, .slice a2 l2.length c2, .int .i64 e2]] W fun en w' => ∃ ra rc, en = .returned (.agg #[.bool d6.neg, .slice ra (words d6.m).length rc, .int .i64 d6.exp]) ∧ Own w' 64 v4.heap.size ra rc (words d6.m) ∧ Fine w' G ((((((false || n1) || n2) || n3) || n4) || n5) || n6) ∧ v4.grownBy w' (some G) ∧ W.grownBy w' (some G) := by
      intro W ra5 rc5 hW hf hi5
      refine (Hh6.out W G _ ra5 rc5 _ (bel_of_grown hB hW (by omega)) hf hi5).mono ?_
      rintro en w' ⟨ra, rc, rfl, ho, hf', hk⟩
      exact ⟨ra, rc, rfl, ho.mono hW.size, hf', grown_trans hW hk, hk⟩
    have HG5 := Lib.hid hG5; clear hG5
    have HG6 := Lib.hid hG6; clear hG6
    have HFV := Lib.hid hF
    go_region_held3 (fun W => W.cell? ⟨w.heap.size, 0, none⟩ = some (.bool s) ∧ W.cell? ⟨w.heap.size, 1, none⟩ = some (.slice a l.length c) ∧ W.cell? ⟨w.heap.size, 2, none⟩ = some (.int .i64 e) ∧ W.cell? ⟨w.heap.size + 1, 0, none⟩ = some (.bool s') ∧ W.cell? ⟨w.heap.size + 1, 1, none⟩ = some (.slice a' l'.length c') ∧ W.cell? ⟨w.heap.size + 1, 2, none⟩ = some (.int .i64 e') ∧ W.cell? ⟨w.heap.size + 1 + 1, 0, none⟩ = some (.bool s2) ∧ W.cell? ⟨w.heap.size + 1 + 1, 1, none⟩ = some (.slice a2 l2.length c2) ∧ W.cell? ⟨w.heap.size + 1 + 1, 2, none⟩ = some (.int .i64 e2)) (go_keep) (first
      | (go_at_call 43; with_reducible refine (HG5.out _ (grown_drew (World.grownBy.refl _ _)) (fine_drew HFV.out)).mono ?_; rintro en x5 ⟨ra5, rc5, rfl, o5, f5, g5, k5'⟩; have zz5 := g5.size; have mkA5 := cel_grown kA g5 (by omega); obtain ⟨_, _, _, _, _, _⟩ := mkA5.facts; have nxkA5 : x5.heap.size ≠ w.heap.size := (by have := mkA5.lt; omega); have mkB5 := cel_grown kB g5 (by omega); obtain ⟨_, _, _, _, _, _⟩ := mkB5.facts; have nxkB5 : x5.heap.size ≠ w.heap.size + 1 := (by have := mkB5.lt; omega); have mkC5 := cel_grown kC g5 (by omega); obtain ⟨_, _, _, _, _, _⟩ := mkC5.facts; have nxkC5 : x5.heap.size ≠ w.heap.size + 1 + 1 := (by have := mkC5.lt; omega))
      | (go_at_call 43; with_reducible refine (HG5.out _ (grown_drew (grown_alloc (World.grownBy.refl _ _) (.cells #[.bool false, .slice none 0 0, .int .i64 0] 27))) (fine_drew (fine_alloc HFV.out _))).mono ?_; rintro en x5 ⟨ra5, rc5, rfl, o5, f5, g5, k5'⟩; have zz5 := g5.size; have j5 := cel_grown (cel_drew (Cel.new v4 (.bool false) (.slice none 0 0) (.int .i64 0))) k5' (by omega); obtain ⟨_, _, _, _, _, _⟩ := j5.facts; have mkA5 := cel_grown kA g5 (by omega); obtain ⟨_, _, _, _, _, _⟩ := mkA5.facts; have nxkA5 : x5.heap.size ≠ w.heap.size := (by have := mkA5.lt; omega); have mkB5 := cel_grown kB g5 (by omega); obtain ⟨_, _, _, _, _, _⟩ := mkB5.facts; have nxkB5 : x5.heap.size ≠ w.heap.size + 1 := (by have := mkB5.lt; omega); have mkC5 := cel_grown kC g5 (by omega); obtain ⟨_, _, _, _, _, _⟩ := mkC5.facts; have nxkC5 : x5.heap.size ≠ w.heap.size + 1 + 1 := (by have := mkC5.lt; omega))
      | (go_at_call 43; with_reducible refine (HG6.out _ _ _ g5 f5 o5).mono ?_; rintro en x6 ⟨ra6, rc6, rfl, o6, f6, g6, k6'⟩; have zz6 := g6.size; have j6 := cel_grown j5 k6' (by omega); obtain ⟨_, _, _, _, _, _⟩ := j6.facts; have mkA6 := cel_grown kA g6 (by omega); obtain ⟨_, _, _, _, _, _⟩ := mkA6.facts; have nxkA6 : x6.heap.size ≠ w.heap.size := (by have := mkA6.lt; omega); have mkB6 := cel_grown kB g6 (by omega); obtain ⟨_, _, _, _, _, _⟩ := mkB6.facts; have nxkB6 : x6.heap.size ≠ w.heap.size + 1 := (by have := mkB6.lt; omega); have mkC6 := cel_grown kC g6 (by omega); obtain ⟨_, _, _, _, _, _⟩ := mkC6.facts; have nxkC6 : x6.heap.size ≠ w.heap.size + 1 + 1 := (by have := mkC6.lt; omega))
      | (go_at_call 43; with_reducible refine (HG6.out _ _ _ g5 f5 o5).mono ?_; rintro en x6 ⟨ra6, rc6, rfl, o6, f6, g6, k6'⟩; have zz6 := g6.size; have mkA6 := cel_grown kA g6 (by omega); obtain ⟨_, _, _, _, _, _⟩ := mkA6.facts; have nxkA6 : x6.heap.size ≠ w.heap.size := (by have := mkA6.lt; omega); have mkB6 := cel_grown kB g6 (by omega); obtain ⟨_, _, _, _, _, _⟩ := mkB6.facts; have nxkB6 : x6.heap.size ≠ w.heap.size + 1 := (by have := mkB6.lt; omega); have mkC6 := cel_grown kC g6 (by omega); obtain ⟨_, _, _, _, _, _⟩ := mkC6.facts; have nxkC6 : x6.heap.size ≠ w.heap.size + 1 + 1 := (by have := mkC6.lt; omega))
      | (go_at_call 43; with_reducible refine (HG6.out _ _ _ (grown_alloc g5 _) (fine_alloc f5 _) (own_alloc o5 _)).mono ?_; rintro en x6 ⟨ra6, rc6, rfl, o6, f6, g6, k6'⟩; have zz6 := g6.size; have j6 := cel_grown (Cel.new x5 (.bool false) (.slice none 0 0) (.int .i64 0)) k6' (by have := g5.size; omega); obtain ⟨_, _, _, _, _, _⟩ := j6.facts; have mkA6 := cel_grown kA g6 (by omega); obtain ⟨_, _, _, _, _, _⟩ := mkA6.facts; have nxkA6 : x6.heap.size ≠ w.heap.size := (by have := mkA6.lt; omega); have mkB6 := cel_grown kB g6 (by omega); obtain ⟨_, _, _, _, _, _⟩ := mkB6.facts; have nxkB6 : x6.heap.size ≠ w.heap.size + 1 := (by have := mkB6.lt; omega); have mkC6 := cel_grown kC g6 (by omega); obtain ⟨_, _, _, _, _, _⟩ := mkC6.facts; have nxkC6 : x6.heap.size ≠ w.heap.size + 1 + 1 := (by have := mkC6.lt; omega)))
    all_goals
      (first
        | ((obtain ⟨wz, hz⟩ : ∃ W, W = (((x6.setCell ⟨v4.heap.size, 0, none⟩ (.bool d6.neg)).setCell ⟨v4.heap.size, 1, none⟩ (.slice ra6 (words d6.m).length rc6)).setCell ⟨v4.heap.size, 2, none⟩ (.int .i64 d6.exp)) := ⟨_, rfl⟩; have pinEq := hz; (try simp only [wr3] at pinEq); rw [← pinEq]; clear pinEq); have KZ := cel_wr_same hz j6; have OZ := own_wr_cel hz o6 j6; have tz : v4.heap.size ≤ v4.heap.size := (by first | exact Nat.le_refl _ | exact g5.size); have FZ : Fine wz G ((((((false || n1) || n2) || n3) || n4) || n5) || n6) := hz ▸ fine_wr f6 (by omega); have GZ : v4.grownBy wz (some G) := hz ▸ grown_wr g6 tz)
        | ((obtain ⟨wz, hz⟩ : ∃ W, W = (((x6.setCell ⟨x5.heap.size, 0, none⟩ (.bool d6.neg)).setCell ⟨x5.heap.size, 1, none⟩ (.slice ra6 (words d6.m).length rc6)).setCell ⟨x5.heap.size, 2, none⟩ (.int .i64 d6.exp)) := ⟨_, rfl⟩; have pinEq := hz; (try simp only [wr3] at pinEq); rw [← pinEq]; clear pinEq); have KZ := cel_wr_same hz j6; have OZ := own_wr_cel hz o6 j6; have tz : v4.heap.size ≤ x5.heap.size := (by first | exact Nat.le_refl _ | exact g5.size); have FZ : Fine wz G ((((((false || n1) || n2) || n3) || n4) || n5) || n6) := hz ▸ fine_wr f6 (by omega); have GZ : v4.grownBy wz (some G) := hz ▸ grown_wr g6 tz)
        | ((obtain ⟨wz, hz⟩ : ∃ W, W = (x6.alloc (.cells #[.bool d6.neg, .slice ra6 (words d6.m).length rc6, .int .i64 d6.exp] 27)) := ⟨_, rfl⟩; have pinEq := hz; (try simp only [wr3] at pinEq); rw [← pinEq]; clear pinEq); obtain ⟨KZ, bz, _⟩ := new_cel hz rfl; have OZ := o6.grow bz; have tz := g6.size; have FZ := f6.grow bz; have GZ := grown_trans g6 (grown_of_below (r := some G) bz)))
      clear hz
      go_wp2_with fail
      go_meet
      exact ⟨ra6, rc6, _, rfl, tz, KZ, OZ, FZ, GZ⟩
  case rest =>
  obtain ⟨ra6, rc6, g6, rfl, yg6, k6, ho6, hF', hk⟩ := hcut
  obtain ⟨v6, hv6⟩ : ∃ W, W = wc := ⟨wc, rfl⟩
  subst hv6
  replace kA := cel_grown kA hk (by omega)
  replace kB := cel_grown kB hk (by omega)
  replace kC := cel_grown kC hk (by omega)
  replace k1 := cel_grown k1 hk (by omega)
  replace k2 := cel_grown k2 hk (by omega)
  replace k3 := cel_grown k3 hk (by omega)
  replace k4 := cel_grown k4 hk (by omega)
  replace ho1 := own_grown ho1 hk (fun ad ha => by have := ho1.ge ad ha; omega)
  replace ho2 := own_grown ho2 hk (fun ad ha => by have := ho2.ge ad ha; omega)
  replace ho3 := own_grown ho3 hk (fun ad ha => by have := ho3.ge ad ha; omega)
  replace ho4 := own_grown ho4 hk (fun ad ha => by have := ho4.ge ad ha; omega)
  replace hB := bel_of_grown hB hk (by omega)
  replace hF := hF'
  have z6 := hk.size
  have y6 := k6.lt
  clear hk hF'
  go_wp2_with fail
  go_cut [14] from 50 to 56 (fun sl wx => ∃ (ra : Option Addr) (rc g : Nat), sl = .pointer (some ⟨g, 0, none⟩) ∧ v6.heap.size ≤ g ∧ Cel wx g (.bool d8.neg) (.slice ra (words d8.m).length rc) (.int .i64 d8.exp) ∧ Own wx 64 v6.heap.size ra rc (words d8.m) ∧ Fine wx G ((((((((false || n1) || n2) || n3) || n4) || n5) || n6) || n7) || n8) ∧ v6.grownBy wx (some G))
  case first =>
    have gV : G < v6.heap.size := by omega
    obtain ⟨_, _, _, _, _, _⟩ := kA.facts
    have nekA : v6.heap.size ≠ w.heap.size := by have := kA.lt; omega
    have ltkA := kA.lt
    obtain ⟨_, _, _, _, _, _⟩ := kB.facts
    have nekB : v6.heap.size ≠ w.heap.size + 1 := by have := kB.lt; omega
    have ltkB := kB.lt
    obtain ⟨_, _, _, _, _, _⟩ := kC.facts
    have nekC : v6.heap.size ≠ w.heap.size + 1 + 1 := by have := kC.lt; omega
    have ltkC := kC.lt
    have hG7 : ∀ (W : World), v6.grownBy W (some G) → Fine W G ((((((false || n1) || n2) || n3) || n4) || n5) || n6) → Calls Tryd.prog 43 #[.pointer (some ⟨G, 0, none⟩), .agg #[.bool s', .slice a' l'.length c', .int .i64 e'], .agg #[.bool s2, .slice a2 l2.length c2, .int .i64 e2]] W fun en w' => ∃ ra rc, en = .returned (.agg #[.bool d7.neg, .slice ra (words d7.m).length rc, .int .i64 d7.exp]) ∧ Own w' 64 v6.heap.size ra rc (words d7.m) ∧ Fine w' G (((((((false || n1) || n2) || n3) || n4) || n5) || n6) || n7) ∧ v6.grownBy w' (some G) ∧ W.grownBy w' (some G) := by
      intro W hW hf
      refine (Hh7.out W G _ (bel_of_grown hB hW (by omega)) hf).mono ?_
      rintro en w' ⟨ra, rc, rfl, ho, hf', hk⟩
      exact ⟨ra, rc, rfl, ho.mono hW.size, hf', grown_trans hW hk, hk⟩
    have hG8 : ∀ (W : World) (ra7 : Option Addr) (rc7 : Nat), v6.grownBy W (some G) → Fine W G (((((((false || n1) || n2) || n3) || n4) || n5) || n6) || n7) → Own W 64 v6.heap.size ra7 rc7 (words d7.m) → Calls Tryd.prog 43 #[.pointer (some ⟨G, 0, none⟩), .agg #[.bool s, .slice a l.length c, .int .i64 e], .agg #[.bool d7.neg, .slice ra7 (words d7.m).length rc7, .int .i64 d7.exp]] W fun en w' => ∃ ra rc, en = .returned (.agg #[.bool d8.neg, .slice ra (words d8.m).length rc, .int .i64 d8.exp]) ∧ Own w' 64 v6.heap.size ra rc (words d8.m) ∧ Fine w' G ((((((((false || n1) || n2) || n3) || n4) || n5) || n6) || n7) || n8) ∧ v6.grownBy w' (some G) ∧ W.grownBy w' (some G) := by
      intro W ra7 rc7 hW hf hi7
      refine (Hh8.out W G _ ra7 rc7 _ (bel_of_grown hB hW (by omega)) hf hi7).mono ?_
      rintro en w' ⟨ra, rc, rfl, ho, hf', hk⟩
      exact ⟨ra, rc, rfl, ho.mono hW.size, hf', grown_trans hW hk, hk⟩
    have HG7 := Lib.hid hG7; clear hG7
    have HG8 := Lib.hid hG8; clear hG8
    have HFV := Lib.hid hF
    go_region_held3 (fun W => W.cell? ⟨w.heap.size, 0, none⟩ = some (.bool s) ∧ W.cell? ⟨w.heap.size, 1, none⟩ = some (.slice a l.length c) ∧ W.cell? ⟨w.heap.size, 2, none⟩ = some (.int .i64 e) ∧ W.cell? ⟨w.heap.size + 1, 0, none⟩ = some (.bool s') ∧ W.cell? ⟨w.heap.size + 1, 1, none⟩ = some (.slice a' l'.length c') ∧ W.cell? ⟨w.heap.size + 1, 2, none⟩ = some (.int .i64 e') ∧ W.cell? ⟨w.heap.size + 1 + 1, 0, none⟩ = some (.bool s2) ∧ W.cell? ⟨w.heap.size + 1 + 1, 1, none⟩ = some (.slice a2 l2.length c2) ∧ W.cell? ⟨w.heap.size + 1 + 1, 2, none⟩ = some (.int .i64 e2)) (go_keep) (first
      | (go_at_call 43; with_reducible refine (HG7.out _ (grown_drew (World.grownBy.refl _ _)) (fine_drew HFV.out)).mono ?_; rintro en x7 ⟨ra7, rc7, rfl, o7, f7, g7, k7'⟩; have zz7 := g7.size; have mkA7 := cel_grown kA g7 (by omega); obtain ⟨_, _, _, _, _, _⟩ := mkA7.facts; have nxkA7 : x7.heap.size ≠ w.heap.size := (by have := mkA7.lt; omega); have mkB7 := cel_grown kB g7 (by omega); obtain ⟨_, _, _, _, _, _⟩ := mkB7.facts; have nxkB7 : x7.heap.size ≠ w.heap.size + 1 := (by have := mkB7.lt; omega); have mkC7 := cel_grown kC g7 (by omega); obtain ⟨_, _, _, _, _, _⟩ := mkC7.facts; have nxkC7 : x7.heap.size ≠ w.heap.size + 1 + 1 := (by have := mkC7.lt; omega))
      | (go_at_call 43; with_reducible refine (HG7.out _ (grown_drew (grown_alloc (World.grownBy.refl _ _) (.cells #[.bool false, .slice none 0 0, .int .i64 0] 27))) (fine_drew (fine_alloc HFV.out _))).mono ?_; rintro en x7 ⟨ra7, rc7, rfl, o7, f7, g7, k7'⟩; have zz7 := g7.size; have j7 := cel_grown (cel_drew (Cel.new v6 (.bool false) (.slice none 0 0) (.int .i64 0))) k7' (by omega); obtain ⟨_, _, _, _, _, _⟩ := j7.facts; have mkA7 := cel_grown kA g7 (by omega); obtain ⟨_, _, _, _, _, _⟩ := mkA7.facts; have nxkA7 : x7.heap.size ≠ w.heap.size := (by have := mkA7.lt; omega); have mkB7 := cel_grown kB g7 (by omega); obtain ⟨_, _, _, _, _, _⟩ := mkB7.facts; have nxkB7 : x7.heap.size ≠ w.heap.size + 1 := (by have := mkB7.lt; omega); have mkC7 := cel_grown kC g7 (by omega); obtain ⟨_, _, _, _, _, _⟩ := mkC7.facts; have nxkC7 : x7.heap.size ≠ w.heap.size + 1 + 1 := (by have := mkC7.lt; omega))
      | (go_at_call 43; with_reducible refine (HG8.out _ _ _ g7 f7 o7).mono ?_; rintro en x8 ⟨ra8, rc8, rfl, o8, f8, g8, k8'⟩; have zz8 := g8.size; have j8 := cel_grown j7 k8' (by omega); obtain ⟨_, _, _, _, _, _⟩ := j8.facts; have mkA8 := cel_grown kA g8 (by omega); obtain ⟨_, _, _, _, _, _⟩ := mkA8.facts; have nxkA8 : x8.heap.size ≠ w.heap.size := (by have := mkA8.lt; omega); have mkB8 := cel_grown kB g8 (by omega); obtain ⟨_, _, _, _, _, _⟩ := mkB8.facts; have nxkB8 : x8.heap.size ≠ w.heap.size + 1 := (by have := mkB8.lt; omega); have mkC8 := cel_grown kC g8 (by omega); obtain ⟨_, _, _, _, _, _⟩ := mkC8.facts; have nxkC8 : x8.heap.size ≠ w.heap.size + 1 + 1 := (by have := mkC8.lt; omega))
      | (go_at_call 43; with_reducible refine (HG8.out _ _ _ g7 f7 o7).mono ?_; rintro en x8 ⟨ra8, rc8, rfl, o8, f8, g8, k8'⟩; have zz8 := g8.size; have mkA8 := cel_grown kA g8 (by omega); obtain ⟨_, _, _, _, _, _⟩ := mkA8.facts; have nxkA8 : x8.heap.size ≠ w.heap.size := (by have := mkA8.lt; omega); have mkB8 := cel_grown kB g8 (by omega); obtain ⟨_, _, _, _, _, _⟩ := mkB8.facts; have nxkB8 : x8.heap.size ≠ w.heap.size + 1 := (by have := mkB8.lt; omega); have mkC8 := cel_grown kC g8 (by omega); obtain ⟨_, _, _, _, _, _⟩ := mkC8.facts; have nxkC8 : x8.heap.size ≠ w.heap.size + 1 + 1 := (by have := mkC8.lt; omega))
      | (go_at_call 43; with_reducible refine (HG8.out _ _ _ (grown_alloc g7 _) (fine_alloc f7 _) (own_alloc o7 _)).mono ?_; rintro en x8 ⟨ra8, rc8, rfl, o8, f8, g8, k8'⟩; have zz8 := g8.size; have j8 := cel_grown (Cel.new x7 (.bool false) (.slice none 0 0) (.int .i64 0)) k8' (by have := g7.size; omega); obtain ⟨_, _, _, _, _, _⟩ := j8.facts; have mkA8 := cel_grown kA g8 (by omega); obtain ⟨_, _, _, _, _, _⟩ := mkA8.facts; have nxkA8 : x8.heap.size ≠ w.heap.size := (by have := mkA8.lt; omega); have mkB8 := cel_grown kB g8 (by omega); obtain ⟨_, _, _, _, _, _⟩ := mkB8.facts; have nxkB8 : x8.heap.size ≠ w.heap.size + 1 := (by have := mkB8.lt; omega); have mkC8 := cel_grown kC g8 (by omega); obtain ⟨_, _, _, _, _, _⟩ := mkC8.facts; have nxkC8 : x8.heap.size ≠ w.heap.size + 1 + 1 := (by have := mkC8.lt; omega)))
    all_goals
      (first
        | ((obtain ⟨wz, hz⟩ : ∃ W, W = (((x8.setCell ⟨v6.heap.size, 0, none⟩ (.bool d8.neg)).setCell ⟨v6.heap.size, 1, none⟩ (.slice ra8 (words d8.m).length rc8)).setCell ⟨v6.heap.size, 2, none⟩ (.int .i64 d8.exp)) := ⟨_, rfl⟩; have pinEq := hz; (try simp only [wr3] at pinEq); rw [← pinEq]; clear pinEq); have KZ := cel_wr_same hz j8; have OZ := own_wr_cel hz o8 j8; have tz : v6.heap.size ≤ v6.heap.size := (by first | exact Nat.le_refl _ | exact g7.size); have FZ : Fine wz G ((((((((false || n1) || n2) || n3) || n4) || n5) || n6) || n7) || n8) := hz ▸ fine_wr f8 (by omega); have GZ : v6.grownBy wz (some G) := hz ▸ grown_wr g8 tz)
        | ((obtain ⟨wz, hz⟩ : ∃ W, W = (((x8.setCell ⟨x7.heap.size, 0, none⟩ (.bool d8.neg)).setCell ⟨x7.heap.size, 1, none⟩ (.slice ra8 (words d8.m).length rc8)).setCell ⟨x7.heap.size, 2, none⟩ (.int .i64 d8.exp)) := ⟨_, rfl⟩; have pinEq := hz; (try simp only [wr3] at pinEq); rw [← pinEq]; clear pinEq); have KZ := cel_wr_same hz j8; have OZ := own_wr_cel hz o8 j8; have tz : v6.heap.size ≤ x7.heap.size := (by first | exact Nat.le_refl _ | exact g7.size); have FZ : Fine wz G ((((((((false || n1) || n2) || n3) || n4) || n5) || n6) || n7) || n8) := hz ▸ fine_wr f8 (by omega); have GZ : v6.grownBy wz (some G) := hz ▸ grown_wr g8 tz)
        | ((obtain ⟨wz, hz⟩ : ∃ W, W = (x8.alloc (.cells #[.bool d8.neg, .slice ra8 (words d8.m).length rc8, .int .i64 d8.exp] 27)) := ⟨_, rfl⟩; have pinEq := hz; (try simp only [wr3] at pinEq); rw [← pinEq]; clear pinEq); obtain ⟨KZ, bz, _⟩ := new_cel hz rfl; have OZ := o8.grow bz; have tz := g8.size; have FZ := f8.grow bz; have GZ := grown_trans g8 (grown_of_below (r := some G) bz)))
      clear hz
      go_wp2_with fail
      go_meet
      exact ⟨ra8, rc8, _, rfl, tz, KZ, OZ, FZ, GZ⟩
  case rest =>
  obtain ⟨ra8, rc8, g8, rfl, yg8, k8, ho8, hF', hk⟩ := hcut
  obtain ⟨v8, hv8⟩ : ∃ W, W = wc := ⟨wc, rfl⟩
  subst hv8
  replace kA := cel_grown kA hk (by omega)
  replace kB := cel_grown kB hk (by omega)
  replace kC := cel_grown kC hk (by omega)
  replace k1 := cel_grown k1 hk (by omega)
  replace k2 := cel_grown k2 hk (by omega)
  replace k3 := cel_grown k3 hk (by omega)
  replace k4 := cel_grown k4 hk (by omega)
  replace k6 := cel_grown k6 hk (by omega)
  replace ho1 := own_grown ho1 hk (fun ad ha => by have := ho1.ge ad ha; omega)
  replace ho2 := own_grown ho2 hk (fun ad ha => by have := ho2.ge ad ha; omega)
  replace ho3 := own_grown ho3 hk (fun ad ha => by have := ho3.ge ad ha; omega)
  replace ho4 := own_grown ho4 hk (fun ad ha => by have := ho4.ge ad ha; omega)
  replace ho6 := own_grown ho6 hk (fun ad ha => by have := ho6.ge ad ha; omega)
  replace hB := bel_of_grown hB hk (by omega)
  replace hF := hF'
  have z8 := hk.size
  have y8 := k8.lt
  clear hk hF'
  obtain ⟨_, _, _, _, _, _⟩ := kA.facts
  obtain ⟨_, _, _, _, _, _⟩ := k2.facts
  go_wp2_with fail
  refine (Hh9.out v8 G _ ra2 rc2 _ hB hF ho2).mono ?_; rintro en w9 ⟨ra9, rc9, rfl, ho9, hF', hk⟩
  replace kA := cel_grown kA hk (by omega)
  replace kB := cel_grown kB hk (by omega)
  replace kC := cel_grown kC hk (by omega)
  replace k1 := cel_grown k1 hk (by omega)
  replace k2 := cel_grown k2 hk (by omega)
  replace k3 := cel_grown k3 hk (by omega)
  replace k4 := cel_grown k4 hk (by omega)
  replace k6 := cel_grown k6 hk (by omega)
  replace k8 := cel_grown k8 hk (by omega)
  replace ho1 := own_grown ho1 hk (fun ad ha => by have := ho1.ge ad ha; omega)
  replace ho2 := own_grown ho2 hk (fun ad ha => by have := ho2.ge ad ha; omega)
  replace ho3 := own_grown ho3 hk (fun ad ha => by have := ho3.ge ad ha; omega)
  replace ho4 := own_grown ho4 hk (fun ad ha => by have := ho4.ge ad ha; omega)
  replace ho6 := own_grown ho6 hk (fun ad ha => by have := ho6.ge ad ha; omega)
  replace ho8 := own_grown ho8 hk (fun ad ha => by have := ho8.ge ad ha; omega)
  replace hB := bel_of_grown hB hk (by omega)
  replace hF := hF'
  have z9 := hk.size
  clear hk hF'
  go_wp2_with fail
  (obtain ⟨v9, hv9⟩ : ∃ W, W = (w9.alloc (.cells #[.bool d9.neg, .slice ra9 (words d9.m).length rc9, .int .i64 d9.exp] 27)) := ⟨_, rfl⟩; have pinEq := hv9; (try simp only [wr3] at pinEq); rw [← pinEq]; clear pinEq)
  obtain ⟨k9, bb, s109'⟩ := new_cel hv9 rfl
  replace kA := kA.below bb kA.lt
  replace kB := kB.below bb kB.lt
  replace kC := kC.below bb kC.lt
  replace k1 := k1.below bb k1.lt
  replace k2 := k2.below bb k2.lt
  replace k3 := k3.below bb k3.lt
  replace k4 := k4.below bb k4.lt
  replace k6 := k6.below bb k6.lt
  replace k8 := k8.below bb k8.lt
  replace ho1 := ho1.grow bb
  replace ho2 := ho2.grow bb
  replace ho3 := ho3.grow bb
  replace ho4 := ho4.grow bb
  replace ho6 := ho6.grow bb
  replace ho8 := ho8.grow bb
  replace ho9 := ho9.grow bb
  replace hF := hF.grow bb
  replace hB := hB.trans (bb.mono hB.size)
  clear hv9 bb s109'
  have y9 := k9.lt
  go_cut [16] from 61 to 70 (fun sl wx => ∃ (ra : Option Addr) (rc g : Nat), sl = .pointer (some ⟨g, 0, none⟩) ∧ v9.heap.size ≤ g ∧ Cel wx g (.bool d12.neg) (.slice ra (words d12.m).length rc) (.int .i64 d12.exp) ∧ Own wx 64 v9.heap.size ra rc (words d12.m) ∧ Fine wx G ((((((((((((false || n1) || n2) || n3) || n4) || n5) || n6) || n7) || n8) || n9) || n5) || n11) || n12) ∧ v9.grownBy wx (some G))
  case first =>
    have gV : G < v9.heap.size := by omega
    obtain ⟨_, _, _, _, _, _⟩ := kA.facts
    have nekA : v9.heap.size ≠ w.heap.size := by have := kA.lt; omega
    have ltkA := kA.lt
    obtain ⟨_, _, _, _, _, _⟩ := kB.facts
    have nekB : v9.heap.size ≠ w.heap.size + 1 := by have := kB.lt; omega
    have ltkB := kB.lt
    obtain ⟨_, _, _, _, _, _⟩ := kC.facts
    have nekC : v9.heap.size ≠ w.heap.size + 1 + 1 := by have := kC.lt; omega
    have ltkC := kC.lt
    have hG10 : ∀ (W : World), v9.grownBy W (some G) → Fine W G (((((((((false || n1) || n2) || n3) || n4) || n5) || n6) || n7) || n8) || n9) → Calls Tryd.prog 43 #[.pointer (some ⟨G, 0, none⟩), .agg #[.bool s, .slice a l.length c, .int .i64 e], .agg #[.bool s', .slice a' l'.length c', .int .i64 e']] W fun en w' => ∃ ra rc, en = .returned (.agg #[.bool d5.neg, .slice ra (words d5.m).length rc, .int .i64 d5.exp]) ∧ Own w' 64 v9.heap.size ra rc (words d5.m) ∧ Fine w' G ((((((((((false || n1) || n2) || n3) || n4) || n5) || n6) || n7) || n8) || n9) || n5) ∧ v9.grownBy w' (some G) ∧ W.grownBy w' (some G) := by
      intro W hW hf
      refine (Hh5.out W G _ (bel_of_grown hB hW (by omega)) hf).mono ?_
      rintro en w' ⟨ra, rc, rfl, ho, hf', hk⟩
      exact ⟨ra, rc, rfl, ho.mono hW.size, hf', grown_trans hW hk, hk⟩
    have hG11 : ∀ (W : World) (ra10 : Option Addr) (rc10 : Nat), v9.grownBy W (some G) → Fine W G ((((((((((false || n1) || n2) || n3) || n4) || n5) || n6) || n7) || n8) || n9) || n5) → Own W 64 v9.heap.size ra10 rc10 (words d5.m) → Calls Tryd.prog 43 #[.pointer (some ⟨G, 0, none⟩), .agg #[.bool s, .slice a l.length c, .int .i64 e], .agg #[.bool s2, .slice a2 l2.length c2, .int .i64 e2]] W fun en w' => ∃ ra rc, en = .returned (.agg #[.bool d11.neg, .slice ra (words d11.m).length rc, .int .i64 d11.exp]) ∧ Own w' 64 v9.heap.size ra rc (words d11.m) ∧ Fine w' G (((((((((((false || n1) || n2) || n3) || n4) || n5) || n6) || n7) || n8) || n9) || n5) || n11) ∧ v9.grownBy w' (some G) ∧ W.grownBy w' (some G) ∧ Own w' 64 v9.heap.size ra10 rc10 (words d5.m) := by
      intro W ra10 rc10 hW hf hi10
      refine (Hh11.out W G _ (bel_of_grown hB hW (by omega)) hf).mono ?_
      rintro en w' ⟨ra, rc, rfl, ho, hf', hk⟩
      exact ⟨ra, rc, rfl, ho.mono hW.size, hf', grown_trans hW hk, hk, own_grown hi10 hk (fun ad ha => by have := hi10.ge ad ha; omega)⟩
    have hG12 : ∀ (W : World) (ra10 : Option Addr) (rc10 : Nat) (ra11 : Option Addr) (rc11 : Nat), v9.grownBy W (some G) → Fine W G (((((((((((false || n1) || n2) || n3) || n4) || n5) || n6) || n7) || n8) || n9) || n5) || n11) → Own W 64 v9.heap.size ra10 rc10 (words d5.m) → Own W 64 v9.heap.size ra11 rc11 (words d11.m) → Calls Tryd.prog 42 #[.pointer (some ⟨G, 0, none⟩), .agg #[.bool d5.neg, .slice ra10 (words d5.m).length rc10, .int .i64 d5.exp], .agg #[.bool d11.neg, .slice ra11 (words d11.m).length rc11, .int .i64 d11.exp]] W fun en w' => ∃ ra rc, en = .returned (.agg #[.bool d12.neg, .slice ra (words d12.m).length rc, .int .i64 d12.exp]) ∧ Own w' 64 v9.heap.size ra rc (words d12.m) ∧ Fine w' G ((((((((((((false || n1) || n2) || n3) || n4) || n5) || n6) || n7) || n8) || n9) || n5) || n11) || n12) ∧ v9.grownBy w' (some G) ∧ W.grownBy w' (some G) := by
      intro W ra10 rc10 ra11 rc11 hW hf hi10 hi11
      refine (Hh12.out W G _ ra10 rc10 _ ra11 rc11 _ (bel_of_grown hB hW (by omega)) hf hi10 hi11).mono ?_
      rintro en w' ⟨ra, rc, rfl, ho, hf', hk⟩
      exact ⟨ra, rc, rfl, ho.mono hW.size, hf', grown_trans hW hk, hk⟩
    have HG10 := Lib.hid hG10; clear hG10
    have HG11 := Lib.hid hG11; clear hG11
    have HG12 := Lib.hid hG12; clear hG12
    have HFV := Lib.hid hF
    go_region_held3 (fun W => W.cell? ⟨w.heap.size, 0, none⟩ = some (.bool s) ∧ W.cell? ⟨w.heap.size, 1, none⟩ = some (.slice a l.length c) ∧ W.cell? ⟨w.heap.size, 2, none⟩ = some (.int .i64 e) ∧ W.cell? ⟨w.heap.size + 1, 0, none⟩ = some (.bool s') ∧ W.cell? ⟨w.heap.size + 1, 1, none⟩ = some (.slice a' l'.length c') ∧ W.cell? ⟨w.heap.size + 1, 2, none⟩ = some (.int .i64 e') ∧ W.cell? ⟨w.heap.size + 1 + 1, 0, none⟩ = some (.bool s2) ∧ W.cell? ⟨w.heap.size + 1 + 1, 1, none⟩ = some (.slice a2 l2.length c2) ∧ W.cell? ⟨w.heap.size + 1 + 1, 2, none⟩ = some (.int .i64 e2)) (go_keep) (first
      | (go_at_call 43; with_reducible refine (HG10.out _ (grown_drew (World.grownBy.refl _ _)) (fine_drew HFV.out)).mono ?_; rintro en x10 ⟨ra10, rc10, rfl, o10, f10, g10, k10'⟩; have zz10 := g10.size; have mkA10 := cel_grown kA g10 (by omega); obtain ⟨_, _, _, _, _, _⟩ := mkA10.facts; have nxkA10 : x10.heap.size ≠ w.heap.size := (by have := mkA10.lt; omega); have mkB10 := cel_grown kB g10 (by omega); obtain ⟨_, _, _, _, _, _⟩ := mkB10.facts; have nxkB10 : x10.heap.size ≠ w.heap.size + 1 := (by have := mkB10.lt; omega); have mkC10 := cel_grown kC g10 (by omega); obtain ⟨_, _, _, _, _, _⟩ := mkC10.facts; have nxkC10 : x10.heap.size ≠ w.heap.size + 1 + 1 := (by have := mkC10.lt; omega))
      | (go_at_call 43; with_reducible refine (HG10.out _ (grown_drew (grown_alloc (World.grownBy.refl _ _) (.cells #[.bool false, .slice none 0 0, .int .i64 0] 27))) (fine_drew (fine_alloc HFV.out _))).mono ?_; rintro en x10 ⟨ra10, rc10, rfl, o10, f10, g10, k10'⟩; have zz10 := g10.size; have j10 := cel_grown (cel_drew (Cel.new v9 (.bool false) (.slice none 0 0) (.int .i64 0))) k10' (by omega); obtain ⟨_, _, _, _, _, _⟩ := j10.facts; have mkA10 := cel_grown kA g10 (by omega); obtain ⟨_, _, _, _, _, _⟩ := mkA10.facts; have nxkA10 : x10.heap.size ≠ w.heap.size := (by have := mkA10.lt; omega); have mkB10 := cel_grown kB g10 (by omega); obtain ⟨_, _, _, _, _, _⟩ := mkB10.facts; have nxkB10 : x10.heap.size ≠ w.heap.size + 1 := (by have := mkB10.lt; omega); have mkC10 := cel_grown kC g10 (by omega); obtain ⟨_, _, _, _, _, _⟩ := mkC10.facts; have nxkC10 : x10.heap.size ≠ w.heap.size + 1 + 1 := (by have := mkC10.lt; omega))
      | (go_at_call 43; with_reducible refine (HG11.out _ _ _ g10 f10 o10).mono ?_; rintro en x11 ⟨ra11, rc11, rfl, o11, f11, g11, k11', hi10_11⟩; have zz11 := g11.size; have j11 := cel_grown j10 k11' (by omega); obtain ⟨_, _, _, _, _, _⟩ := j11.facts; have mkA11 := cel_grown kA g11 (by omega); obtain ⟨_, _, _, _, _, _⟩ := mkA11.facts; have nxkA11 : x11.heap.size ≠ w.heap.size := (by have := mkA11.lt; omega); have mkB11 := cel_grown kB g11 (by omega); obtain ⟨_, _, _, _, _, _⟩ := mkB11.facts; have nxkB11 : x11.heap.size ≠ w.heap.size + 1 := (by have := mkB11.lt; omega); have mkC11 := cel_grown kC g11 (by omega); obtain ⟨_, _, _, _, _, _⟩ := mkC11.facts; have nxkC11 : x11.heap.size ≠ w.heap.size + 1 + 1 := (by have := mkC11.lt; omega))
      | (go_at_call 43; with_reducible refine (HG11.out _ _ _ g10 f10 o10).mono ?_; rintro en x11 ⟨ra11, rc11, rfl, o11, f11, g11, k11', hi10_11⟩; have zz11 := g11.size; have mkA11 := cel_grown kA g11 (by omega); obtain ⟨_, _, _, _, _, _⟩ := mkA11.facts; have nxkA11 : x11.heap.size ≠ w.heap.size := (by have := mkA11.lt; omega); have mkB11 := cel_grown kB g11 (by omega); obtain ⟨_, _, _, _, _, _⟩ := mkB11.facts; have nxkB11 : x11.heap.size ≠ w.heap.size + 1 := (by have := mkB11.lt; omega); have mkC11 := cel_grown kC g11 (by omega); obtain ⟨_, _, _, _, _, _⟩ := mkC11.facts; have nxkC11 : x11.heap.size ≠ w.heap.size + 1 + 1 := (by have := mkC11.lt; omega))
      | (go_at_call 43; with_reducible refine (HG11.out _ _ _ (grown_alloc g10 _) (fine_alloc f10 _) (own_alloc o10 _)).mono ?_; rintro en x11 ⟨ra11, rc11, rfl, o11, f11, g11, k11', hi10_11⟩; have zz11 := g11.size; have j11 := cel_grown (Cel.new x10 (.bool false) (.slice none 0 0) (.int .i64 0)) k11' (by have := g10.size; omega); obtain ⟨_, _, _, _, _, _⟩ := j11.facts; have mkA11 := cel_grown kA g11 (by omega); obtain ⟨_, _, _, _, _, _⟩ := mkA11.facts; have nxkA11 : x11.heap.size ≠ w.heap.size := (by have := mkA11.lt; omega); have mkB11 := cel_grown kB g11 (by omega); obtain ⟨_, _, _, _, _, _⟩ := mkB11.facts; have nxkB11 : x11.heap.size ≠ w.heap.size + 1 := (by have := mkB11.lt; omega); have mkC11 := cel_grown kC g11 (by omega); obtain ⟨_, _, _, _, _, _⟩ := mkC11.facts; have nxkC11 : x11.heap.size ≠ w.heap.size + 1 + 1 := (by have := mkC11.lt; omega))
      | (go_at_call 42; with_reducible refine (HG12.out _ _ _ _ _ g11 f11 hi10_11 o11).mono ?_; rintro en x12 ⟨ra12, rc12, rfl, o12, f12, g12, k12'⟩; have zz12 := g12.size; have j12 := cel_grown j11 k12' (by omega); obtain ⟨_, _, _, _, _, _⟩ := j12.facts; have mkA12 := cel_grown kA g12 (by omega); obtain ⟨_, _, _, _, _, _⟩ := mkA12.facts; have nxkA12 : x12.heap.size ≠ w.heap.size := (by have := mkA12.lt; omega); have mkB12 := cel_grown kB g12 (by omega); obtain ⟨_, _, _, _, _, _⟩ := mkB12.facts; have nxkB12 : x12.heap.size ≠ w.heap.size + 1 := (by have := mkB12.lt; omega); have mkC12 := cel_grown kC g12 (by omega); obtain ⟨_, _, _, _, _, _⟩ := mkC12.facts; have nxkC12 : x12.heap.size ≠ w.heap.size + 1 + 1 := (by have := mkC12.lt; omega))
      | (go_at_call 42; with_reducible refine (HG12.out _ _ _ _ _ g11 f11 hi10_11 o11).mono ?_; rintro en x12 ⟨ra12, rc12, rfl, o12, f12, g12, k12'⟩; have zz12 := g12.size; have mkA12 := cel_grown kA g12 (by omega); obtain ⟨_, _, _, _, _, _⟩ := mkA12.facts; have nxkA12 : x12.heap.size ≠ w.heap.size := (by have := mkA12.lt; omega); have mkB12 := cel_grown kB g12 (by omega); obtain ⟨_, _, _, _, _, _⟩ := mkB12.facts; have nxkB12 : x12.heap.size ≠ w.heap.size + 1 := (by have := mkB12.lt; omega); have mkC12 := cel_grown kC g12 (by omega); obtain ⟨_, _, _, _, _, _⟩ := mkC12.facts; have nxkC12 : x12.heap.size ≠ w.heap.size + 1 + 1 := (by have := mkC12.lt; omega))
      | (go_at_call 42; with_reducible refine (HG12.out _ _ _ _ _ (grown_alloc g11 _) (fine_alloc f11 _) (own_alloc hi10_11 _) (own_alloc o11 _)).mono ?_; rintro en x12 ⟨ra12, rc12, rfl, o12, f12, g12, k12'⟩; have zz12 := g12.size; have j12 := cel_grown (Cel.new x11 (.bool false) (.slice none 0 0) (.int .i64 0)) k12' (by have := g11.size; omega); obtain ⟨_, _, _, _, _, _⟩ := j12.facts; have mkA12 := cel_grown kA g12 (by omega); obtain ⟨_, _, _, _, _, _⟩ := mkA12.facts; have nxkA12 : x12.heap.size ≠ w.heap.size := (by have := mkA12.lt; omega); have mkB12 := cel_grown kB g12 (by omega); obtain ⟨_, _, _, _, _, _⟩ := mkB12.facts; have nxkB12 : x12.heap.size ≠ w.heap.size + 1 := (by have := mkB12.lt; omega); have mkC12 := cel_grown kC g12 (by omega); obtain ⟨_, _, _, _, _, _⟩ := mkC12.facts; have nxkC12 : x12.heap.size ≠ w.heap.size + 1 + 1 := (by have := mkC12.lt; omega)))
    all_goals
      (first
        | ((obtain ⟨wz, hz⟩ : ∃ W, W = (((x12.setCell ⟨v9.heap.size, 0, none⟩ (.bool d12.neg)).setCell ⟨v9.heap.size, 1, none⟩ (.slice ra12 (words d12.m).length rc12)).setCell ⟨v9.heap.size, 2, none⟩ (.int .i64 d12.exp)) := ⟨_, rfl⟩; have pinEq := hz; (try simp only [wr3] at pinEq); rw [← pinEq]; clear pinEq); have KZ := cel_wr_same hz j12; have OZ := own_wr_cel hz o12 j12; have tz : v9.heap.size ≤ v9.heap.size := (by first | exact Nat.le_refl _ | exact g10.size); have FZ : Fine wz G ((((((((((((false || n1) || n2) || n3) || n4) || n5) || n6) || n7) || n8) || n9) || n5) || n11) || n12) := hz ▸ fine_wr f12 (by omega); have GZ : v9.grownBy wz (some G) := hz ▸ grown_wr g12 tz)
        | ((obtain ⟨wz, hz⟩ : ∃ W, W = (((x12.setCell ⟨x10.heap.size, 0, none⟩ (.bool d12.neg)).setCell ⟨x10.heap.size, 1, none⟩ (.slice ra12 (words d12.m).length rc12)).setCell ⟨x10.heap.size, 2, none⟩ (.int .i64 d12.exp)) := ⟨_, rfl⟩; have pinEq := hz; (try simp only [wr3] at pinEq); rw [← pinEq]; clear pinEq); have KZ := cel_wr_same hz j12; have OZ := own_wr_cel hz o12 j12; have tz : v9.heap.size ≤ x10.heap.size := (by first | exact Nat.le_refl _ | exact g10.size); have FZ : Fine wz G ((((((((((((false || n1) || n2) || n3) || n4) || n5) || n6) || n7) || n8) || n9) || n5) || n11) || n12) := hz ▸ fine_wr f12 (by omega); have GZ : v9.grownBy wz (some G) := hz ▸ grown_wr g12 tz)
        | ((obtain ⟨wz, hz⟩ : ∃ W, W = (((x12.setCell ⟨x11.heap.size, 0, none⟩ (.bool d12.neg)).setCell ⟨x11.heap.size, 1, none⟩ (.slice ra12 (words d12.m).length rc12)).setCell ⟨x11.heap.size, 2, none⟩ (.int .i64 d12.exp)) := ⟨_, rfl⟩; have pinEq := hz; (try simp only [wr3] at pinEq); rw [← pinEq]; clear pinEq); have KZ := cel_wr_same hz j12; have OZ := own_wr_cel hz o12 j12; have tz : v9.heap.size ≤ x11.heap.size := (by first | exact Nat.le_refl _ | exact g11.size); have FZ : Fine wz G ((((((((((((false || n1) || n2) || n3) || n4) || n5) || n6) || n7) || n8) || n9) || n5) || n11) || n12) := hz ▸ fine_wr f12 (by omega); have GZ : v9.grownBy wz (some G) := hz ▸ grown_wr g12 tz)
        | ((obtain ⟨wz, hz⟩ : ∃ W, W = (x12.alloc (.cells #[.bool d12.neg, .slice ra12 (words d12.m).length rc12, .int .i64 d12.exp] 27)) := ⟨_, rfl⟩; have pinEq := hz; (try simp only [wr3] at pinEq); rw [← pinEq]; clear pinEq); obtain ⟨KZ, bz, _⟩ := new_cel hz rfl; have OZ := o12.grow bz; have tz := g12.size; have FZ := f12.grow bz; have GZ := grown_trans g12 (grown_of_below (r := some G) bz)))
      clear hz
      go_wp2_with fail
      go_meet
      exact ⟨ra12, rc12, _, rfl, tz, KZ, OZ, FZ, GZ⟩
  case rest =>
  obtain ⟨ra12, rc12, g12, rfl, yg12, k12, ho12, hF', hk⟩ := hcut
  obtain ⟨v12, hv12⟩ : ∃ W, W = wc := ⟨wc, rfl⟩
  subst hv12
  replace kA := cel_grown kA hk (by omega)
  replace kB := cel_grown kB hk (by omega)
  replace kC := cel_grown kC hk (by omega)
  replace k1 := cel_grown k1 hk (by omega)
  replace k2 := cel_grown k2 hk (by omega)
  replace k3 := cel_grown k3 hk (by omega)
  replace k4 := cel_grown k4 hk (by omega)
  replace k6 := cel_grown k6 hk (by omega)
  replace k8 := cel_grown k8 hk (by omega)
  replace k9 := cel_grown k9 hk (by omega)
  replace ho1 := own_grown ho1 hk (fun ad ha => by have := ho1.ge ad ha; omega)
  replace ho2 := own_grown ho2 hk (fun ad ha => by have := ho2.ge ad ha; omega)
  replace ho3 := own_grown ho3 hk (fun ad ha => by have := ho3.ge ad ha; omega)
  replace ho4 := own_grown ho4 hk (fun ad ha => by have := ho4.ge ad ha; omega)
  replace ho6 := own_grown ho6 hk (fun ad ha => by have := ho6.ge ad ha; omega)
  replace ho8 := own_grown ho8 hk (fun ad ha => by have := ho8.ge ad ha; omega)
  replace ho9 := own_grown ho9 hk (fun ad ha => by have := ho9.ge ad ha; omega)
  replace hB := bel_of_grown hB hk (by omega)
  replace hF := hF'
  have z12 := hk.size
  have y12 := k12.lt
  clear hk hF'
  go_wp2_with fail
  go_cut [17] from 71 to 75 (fun sl wx => ∃ (ra : Option Addr) (rc g : Nat), sl = .pointer (some ⟨g, 0, none⟩) ∧ v12.heap.size ≤ g ∧ Cel wx g (.bool d14.neg) (.slice ra (words d14.m).length rc) (.int .i64 d14.exp) ∧ Own wx 64 v12.heap.size ra rc (words d14.m) ∧ Fine wx G (((((((((((((false || n1) || n2) || n3) || n4) || n5) || n6) || n7) || n8) || n9) || n5) || n11) || n12) || n14) ∧ v12.grownBy wx (some G))
  case first =>
    have gV : G < v12.heap.size := by omega
    obtain ⟨_, _, _, _, _, _⟩ := k1.facts
    have nek1 : v12.heap.size ≠ w1.heap.size := by have := k1.lt; omega
    have ltk1 := k1.lt
    obtain ⟨_, _, _, _, _, _⟩ := kB.facts
    have nekB : v12.heap.size ≠ w.heap.size + 1 := by have := kB.lt; omega
    have ltkB := kB.lt
    have hG13 : ∀ (W : World), v12.grownBy W (some G) → Fine W G ((((((((((((false || n1) || n2) || n3) || n4) || n5) || n6) || n7) || n8) || n9) || n5) || n11) || n12) → Calls Tryd.prog 34 #[.agg #[.bool s', .slice a' l'.length c', .int .i64 e']] W fun en w' => ∃ ra rc, en = .returned (.agg #[.bool d13.neg, .slice ra (words d13.m).length rc, .int .i64 d13.exp]) ∧ Own w' 64 v12.heap.size ra rc (words d13.m) ∧ Fine w' G ((((((((((((false || n1) || n2) || n3) || n4) || n5) || n6) || n7) || n8) || n9) || n5) || n11) || n12) ∧ v12.grownBy w' (some G) ∧ W.grownBy w' (some G) := by
      intro W hW hf
      refine (Hh13.out W (bel_of_grown hB hW (by omega))).mono ?_
      rintro en w' ⟨ra, rc, rfl, ho, hb⟩
      have hk := grown_of_below (r := some G) hb
      exact ⟨ra, rc, rfl, ho.mono hW.size, hf.grow hb, grown_trans hW hk, hk⟩
    have hG14 : ∀ (W : World) (ra13 : Option Addr) (rc13 : Nat), v12.grownBy W (some G) → Fine W G ((((((((((((false || n1) || n2) || n3) || n4) || n5) || n6) || n7) || n8) || n9) || n5) || n11) || n12) → Own W 64 v12.heap.size ra13 rc13 (words d13.m) → Calls Tryd.prog 42 #[.pointer (some ⟨G, 0, none⟩), .agg #[.bool d1.neg, .slice ra1 (words d1.m).length rc1, .int .i64 d1.exp], .agg #[.bool d13.neg, .slice ra13 (words d13.m).length rc13, .int .i64 d13.exp]] W fun en w' => ∃ ra rc, en = .returned (.agg #[.bool d14.neg, .slice ra (words d14.m).length rc, .int .i64 d14.exp]) ∧ Own w' 64 v12.heap.size ra rc (words d14.m) ∧ Fine w' G (((((((((((((false || n1) || n2) || n3) || n4) || n5) || n6) || n7) || n8) || n9) || n5) || n11) || n12) || n14) ∧ v12.grownBy w' (some G) ∧ W.grownBy w' (some G) := by
      intro W ra13 rc13 hW hf hi13
      refine (Hh14.out W G _ ra1 rc1 _ ra13 rc13 _ (bel_of_grown hB hW (by omega)) hf (own_grown ho1 hW (fun ad ha => by have := ho1.ge ad ha; omega)) hi13).mono ?_
      rintro en w' ⟨ra, rc, rfl, ho, hf', hk⟩
      exact ⟨ra, rc, rfl, ho.mono hW.size, hf', grown_trans hW hk, hk⟩
    have HG13 := Lib.hid hG13; clear hG13
    have HG14 := Lib.hid hG14; clear hG14
    have HFV := Lib.hid hF
    go_region_held3 (fun W => W.cell? ⟨w1.heap.size, 0, none⟩ = some (.bool d1.neg) ∧ W.cell? ⟨w1.heap.size, 1, none⟩ = some (.slice ra1 (words d1.m).length rc1) ∧ W.cell? ⟨w1.heap.size, 2, none⟩ = some (.int .i64 d1.exp) ∧ W.cell? ⟨w.heap.size + 1, 0, none⟩ = some (.bool s') ∧ W.cell? ⟨w.heap.size + 1, 1, none⟩ = some (.slice a' l'.length c') ∧ W.cell? ⟨w.heap.size + 1, 2, none⟩ = some (.int .i64 e')) (go_keep) (first
      | (go_at_call 34; with_reducible refine (HG13.out _ (grown_drew (World.grownBy.refl _ _)) (fine_drew HFV.out)).mono ?_; rintro en x13 ⟨ra13, rc13, rfl, o13, f13, g13, k13'⟩; have zz13 := g13.size; have mk113 := cel_grown k1 g13 (by omega); obtain ⟨_, _, _, _, _, _⟩ := mk113.facts; have nxk113 : x13.heap.size ≠ w1.heap.size := (by have := mk113.lt; omega); have mkB13 := cel_grown kB g13 (by omega); obtain ⟨_, _, _, _, _, _⟩ := mkB13.facts; have nxkB13 : x13.heap.size ≠ w.heap.size + 1 := (by have := mkB13.lt; omega))
      | (go_at_call 34; with_reducible refine (HG13.out _ (grown_drew (grown_alloc (World.grownBy.refl _ _) (.cells #[.bool false, .slice none 0 0, .int .i64 0] 27))) (fine_drew (fine_alloc HFV.out _))).mono ?_; rintro en x13 ⟨ra13, rc13, rfl, o13, f13, g13, k13'⟩; have zz13 := g13.size; have j13 := cel_grown (cel_drew (Cel.new v12 (.bool false) (.slice none 0 0) (.int .i64 0))) k13' (by omega); obtain ⟨_, _, _, _, _, _⟩ := j13.facts; have mk113 := cel_grown k1 g13 (by omega); obtain ⟨_, _, _, _, _, _⟩ := mk113.facts; have nxk113 : x13.heap.size ≠ w1.heap.size := (by have := mk113.lt; omega); have mkB13 := cel_grown kB g13 (by omega); obtain ⟨_, _, _, _, _, _⟩ := mkB13.facts; have nxkB13 : x13.heap.size ≠ w.heap.size + 1 := (by have := mkB13.lt; omega))
      | (go_at_call 42; with_reducible refine (HG14.out _ _ _ g13 f13 o13).mono ?_; rintro en x14 ⟨ra14, rc14, rfl, o14, f14, g14, k14'⟩; have zz14 := g14.size; have j14 := cel_grown j13 k14' (by omega); obtain ⟨_, _, _, _, _, _⟩ := j14.facts; have mk114 := cel_grown k1 g14 (by omega); obtain ⟨_, _, _, _, _, _⟩ := mk114.facts; have nxk114 : x14.heap.size ≠ w1.heap.size := (by have := mk114.lt; omega); have mkB14 := cel_grown kB g14 (by omega); obtain ⟨_, _, _, _, _, _⟩ := mkB14.facts; have nxkB14 : x14.heap.size ≠ w.heap.size + 1 := (by have := mkB14.lt; omega))
      | (go_at_call 42; with_reducible refine (HG14.out _ _ _ g13 f13 o13).mono ?_; rintro en x14 ⟨ra14, rc14, rfl, o14, f14, g14, k14'⟩; have zz14 := g14.size; have mk114 := cel_grown k1 g14 (by omega); obtain ⟨_, _, _, _, _, _⟩ := mk114.facts; have nxk114 : x14.heap.size ≠ w1.heap.size := (by have := mk114.lt; omega); have mkB14 := cel_grown kB g14 (by omega); obtain ⟨_, _, _, _, _, _⟩ := mkB14.facts; have nxkB14 : x14.heap.size ≠ w.heap.size + 1 := (by have := mkB14.lt; omega))
      | (go_at_call 42; with_reducible refine (HG14.out _ _ _ (grown_alloc g13 _) (fine_alloc f13 _) (own_alloc o13 _)).mono ?_; rintro en x14 ⟨ra14, rc14, rfl, o14, f14, g14, k14'⟩; have zz14 := g14.size; have j14 := cel_grown (Cel.new x13 (.bool false) (.slice none 0 0) (.int .i64 0)) k14' (by have := g13.size; omega); obtain ⟨_, _, _, _, _, _⟩ := j14.facts; have mk114 := cel_grown k1 g14 (by omega); obtain ⟨_, _, _, _, _, _⟩ := mk114.facts; have nxk114 : x14.heap.size ≠ w1.heap.size := (by have := mk114.lt; omega); have mkB14 := cel_grown kB g14 (by omega); obtain ⟨_, _, _, _, _, _⟩ := mkB14.facts; have nxkB14 : x14.heap.size ≠ w.heap.size + 1 := (by have := mkB14.lt; omega)))
    all_goals
      (first
        | ((obtain ⟨wz, hz⟩ : ∃ W, W = (((x14.setCell ⟨v12.heap.size, 0, none⟩ (.bool d14.neg)).setCell ⟨v12.heap.size, 1, none⟩ (.slice ra14 (words d14.m).length rc14)).setCell ⟨v12.heap.size, 2, none⟩ (.int .i64 d14.exp)) := ⟨_, rfl⟩; have pinEq := hz; (try simp only [wr3] at pinEq); rw [← pinEq]; clear pinEq); have KZ := cel_wr_same hz j14; have OZ := own_wr_cel hz o14 j14; have tz : v12.heap.size ≤ v12.heap.size := (by first | exact Nat.le_refl _ | exact g13.size); have FZ : Fine wz G (((((((((((((false || n1) || n2) || n3) || n4) || n5) || n6) || n7) || n8) || n9) || n5) || n11) || n12) || n14) := hz ▸ fine_wr f14 (by omega); have GZ : v12.grownBy wz (some G) := hz ▸ grown_wr g14 tz)
        | ((obtain ⟨wz, hz⟩ : ∃ W, W = (((x14.setCell ⟨x13.heap.size, 0, none⟩ (.bool d14.neg)).setCell ⟨x13.heap.size, 1, none⟩ (.slice ra14 (words d14.m).length rc14)).setCell ⟨x13.heap.size, 2, none⟩ (.int .i64 d14.exp)) := ⟨_, rfl⟩; have pinEq := hz; (try simp only [wr3] at pinEq); rw [← pinEq]; clear pinEq); have KZ := cel_wr_same hz j14; have OZ := own_wr_cel hz o14 j14; have tz : v12.heap.size ≤ x13.heap.size := (by first | exact Nat.le_refl _ | exact g13.size); have FZ : Fine wz G (((((((((((((false || n1) || n2) || n3) || n4) || n5) || n6) || n7) || n8) || n9) || n5) || n11) || n12) || n14) := hz ▸ fine_wr f14 (by omega); have GZ : v12.grownBy wz (some G) := hz ▸ grown_wr g14 tz)
        | ((obtain ⟨wz, hz⟩ : ∃ W, W = (x14.alloc (.cells #[.bool d14.neg, .slice ra14 (words d14.m).length rc14, .int .i64 d14.exp] 27)) := ⟨_, rfl⟩; have pinEq := hz; (try simp only [wr3] at pinEq); rw [← pinEq]; clear pinEq); obtain ⟨KZ, bz, _⟩ := new_cel hz rfl; have OZ := o14.grow bz; have tz := g14.size; have FZ := f14.grow bz; have GZ := grown_trans g14 (grown_of_below (r := some G) bz)))
      clear hz
      go_wp2_with fail
      go_meet
      exact ⟨ra14, rc14, _, rfl, tz, KZ, OZ, FZ, GZ⟩
  case rest =>
  obtain ⟨ra14, rc14, g14, rfl, yg14, k14, ho14, hF', hk⟩ := hcut
  obtain ⟨v14, hv14⟩ : ∃ W, W = wc := ⟨wc, rfl⟩
  subst hv14
  replace kA := cel_grown kA hk (by omega)
  replace kB := cel_grown kB hk (by omega)
  replace kC := cel_grown kC hk (by omega)
  replace k1 := cel_grown k1 hk (by omega)
  replace k2 := cel_grown k2 hk (by omega)
  replace k3 := cel_grown k3 hk (by omega)
  replace k4 := cel_grown k4 hk (by omega)
  replace k6 := cel_grown k6 hk (by omega)
  replace k8 := cel_grown k8 hk (by omega)
  replace k9 := cel_grown k9 hk (by omega)
  replace k12 := cel_grown k12 hk (by omega)
  replace ho1 := own_grown ho1 hk (fun ad ha => by have := ho1.ge ad ha; omega)
  replace ho2 := own_grown ho2 hk (fun ad ha => by have := ho2.ge ad ha; omega)
  replace ho3 := own_grown ho3 hk (fun ad ha => by have := ho3.ge ad ha; omega)
  replace ho4 := own_grown ho4 hk (fun ad ha => by have := ho4.ge ad ha; omega)
  replace ho6 := own_grown ho6 hk (fun ad ha => by have := ho6.ge ad ha; omega)
  replace ho8 := own_grown ho8 hk (fun ad ha => by have := ho8.ge ad ha; omega)
  replace ho9 := own_grown ho9 hk (fun ad ha => by have := ho9.ge ad ha; omega)
  replace ho12 := own_grown ho12 hk (fun ad ha => by have := ho12.ge ad ha; omega)
  replace hB := bel_of_grown hB hk (by omega)
  replace hF := hF'
  have z14 := hk.size
  have y14 := k14.lt
  clear hk hF'
  obtain ⟨_, _, _, _, _, _⟩ := kA.facts
  go_wp2_with fail
  refine (Hh15.out v14 hB).mono ?_; rintro en w15 ⟨ra15, rc15, rfl, ho15, hb⟩
  replace kA := kA.below hb kA.lt
  replace kB := kB.below hb kB.lt
  replace kC := kC.below hb kC.lt
  replace k1 := k1.below hb k1.lt
  replace k2 := k2.below hb k2.lt
  replace k3 := k3.below hb k3.lt
  replace k4 := k4.below hb k4.lt
  replace k6 := k6.below hb k6.lt
  replace k8 := k8.below hb k8.lt
  replace k9 := k9.below hb k9.lt
  replace k12 := k12.below hb k12.lt
  replace k14 := k14.below hb k14.lt
  replace ho1 := ho1.grow hb
  replace ho2 := ho2.grow hb
  replace ho3 := ho3.grow hb
  replace ho4 := ho4.grow hb
  replace ho6 := ho6.grow hb
  replace ho8 := ho8.grow hb
  replace ho9 := ho9.grow hb
  replace ho12 := ho12.grow hb
  replace ho14 := ho14.grow hb
  replace hF := hF.grow hb
  replace hB := hB.trans (hb.mono hB.size)
  have z15 := hb.size
  clear hb
  obtain ⟨bf, hbf⟩ : ∃ bf, bf = (((((((((((((false || n1) || n2) || n3) || n4) || n5) || n6) || n7) || n8) || n9) || n5) || n11) || n12) || n14) := ⟨_, rfl⟩
  rw [← hbf] at hF
  have HBF := Lib.hid hbf; clear hbf
  obtain ⟨_, _⟩ := (fine_alloc hF (.cells #[.bool d15.neg, .slice ra15 (words d15.m).length rc15, .int .i64 d15.exp] 27)).facts
  have hBf := bel_alloc hB (Nat.le_refl _) (.cells #[.bool d15.neg, .slice ra15 (words d15.m).length rc15, .int .i64 d15.exp] 27)
  cases bf with
  | true =>
    have HBf := Lib.hid hBf; clear hBf
    go_wp2_with fail
    go_ret
    exact ⟨rfl, HBf.out⟩
  | false =>
  by_cases he15 : e15 = 0
  case neg =>
    have c15 : (e15 != 0) = true := by simpa using he15
    have HBf := Lib.hid hBf; clear hBf he15
    go_wp2_with fail
    go_ret
    exact ⟨rfl, HBf.out⟩
  have c15 : (e15 != 0) = false := by rw [he15]; rfl
  have hfl := HBF.out
  simp only [Bool.false_or, eq_comm (a := false), Bool.or_eq_false_iff] at hfl
  obtain ⟨⟨⟨⟨⟨⟨⟨⟨⟨⟨⟨⟨f1, f2⟩, f3⟩, f4⟩, f5⟩, f6⟩, f7⟩, f8⟩, f9⟩, f5'⟩, f11⟩, f12⟩, f14⟩ := hfl
  have hpl := Hhplain.out f1 f2 f3 f4 f5 f6 f7 f8 f9 f11 f12 f14
  have HPL := Lib.hid hpl
  clear hpl f1 f2 f3 f4 f5 f6 f7 f8 f9 f5' f11 f12 f14 he15 hBf
  obtain ⟨_, _, _, _, _, _⟩ := (kA.alloc (.cells #[.bool d15.neg, .slice ra15 (words d15.m).length rc15, .int .i64 d15.exp] 27)).facts
  obtain ⟨_, _, _, _, _, _⟩ := (kB.alloc (.cells #[.bool d15.neg, .slice ra15 (words d15.m).length rc15, .int .i64 d15.exp] 27)).facts
  go_wp2_with fail
  (obtain ⟨v15, hv15⟩ : ∃ W, W = (w15.alloc (.cells #[.bool d15.neg, .slice ra15 (words d15.m).length rc15, .int .i64 d15.exp] 27)) := ⟨_, rfl⟩; have pinEq := hv15; (try simp only [wr3] at pinEq); rw [← pinEq]; clear pinEq)
  obtain ⟨k15, bb, s115'⟩ := new_cel hv15 rfl
  replace kA := kA.below bb kA.lt
  replace kB := kB.below bb kB.lt
  replace kC := kC.below bb kC.lt
  replace k1 := k1.below bb k1.lt
  replace k2 := k2.below bb k2.lt
  replace k3 := k3.below bb k3.lt
  replace k4 := k4.below bb k4.lt
  replace k6 := k6.below bb k6.lt
  replace k8 := k8.below bb k8.lt
  replace k9 := k9.below bb k9.lt
  replace k12 := k12.below bb k12.lt
  replace k14 := k14.below bb k14.lt
  replace ho1 := ho1.grow bb
  replace ho2 := ho2.grow bb
  replace ho3 := ho3.grow bb
  replace ho4 := ho4.grow bb
  replace ho6 := ho6.grow bb
  replace ho8 := ho8.grow bb
  replace ho9 := ho9.grow bb
  replace ho12 := ho12.grow bb
  replace ho14 := ho14.grow bb
  replace ho15 := ho15.grow bb
  replace hF := hF.grow bb
  replace hB := hB.trans (bb.mono hB.size)
  clear hv15 bb s115'
  have y15 := k15.lt
  refine (Hh16.out v15 hB).mono ?_; rintro en w16 ⟨ra16, rc16, rfl, ho16, hb⟩
  replace kA := kA.below hb kA.lt
  replace kB := kB.below hb kB.lt
  replace kC := kC.below hb kC.lt
  replace k1 := k1.below hb k1.lt
  replace k2 := k2.below hb k2.lt
  replace k3 := k3.below hb k3.lt
  replace k4 := k4.below hb k4.lt
  replace k6 := k6.below hb k6.lt
  replace k8 := k8.below hb k8.lt
  replace k9 := k9.below hb k9.lt
  replace k12 := k12.below hb k12.lt
  replace k14 := k14.below hb k14.lt
  replace k15 := k15.below hb k15.lt
  replace ho1 := ho1.grow hb
  replace ho2 := ho2.grow hb
  replace ho3 := ho3.grow hb
  replace ho4 := ho4.grow hb
  replace ho6 := ho6.grow hb
  replace ho8 := ho8.grow hb
  replace ho9 := ho9.grow hb
  replace ho12 := ho12.grow hb
  replace ho14 := ho14.grow hb
  replace ho15 := ho15.grow hb
  replace hF := hF.grow hb
  replace hB := hB.trans (hb.mono hB.size)
  have z16 := hb.size
  clear hb
  go_wp2_with fail
  (obtain ⟨v16, hv16⟩ : ∃ W, W = (w16.alloc (.cells #[.bool d16.neg, .slice ra16 (words d16.m).length rc16, .int .i64 d16.exp] 27)) := ⟨_, rfl⟩; have pinEq := hv16; (try simp only [wr3] at pinEq); rw [← pinEq]; clear pinEq)
  obtain ⟨k16, bb, s116'⟩ := new_cel hv16 rfl
  replace kA := kA.below bb kA.lt
  replace kB := kB.below bb kB.lt
  replace kC := kC.below bb kC.lt
  replace k1 := k1.below bb k1.lt
  replace k2 := k2.below bb k2.lt
  replace k3 := k3.below bb k3.lt
  replace k4 := k4.below bb k4.lt
  replace k6 := k6.below bb k6.lt
  replace k8 := k8.below bb k8.lt
  replace k9 := k9.below bb k9.lt
  replace k12 := k12.below bb k12.lt
  replace k14 := k14.below bb k14.lt
  replace k15 := k15.below bb k15.lt
  replace ho1 := ho1.grow bb
  replace ho2 := ho2.grow bb
  replace ho3 := ho3.grow bb
  replace ho4 := ho4.grow bb
  replace ho6 := ho6.grow bb
  replace ho8 := ho8.grow bb
  replace ho9 := ho9.grow bb
  replace ho12 := ho12.grow bb
  replace ho14 := ho14.grow bb
  replace ho15 := ho15.grow bb
  replace ho16 := ho16.grow bb
  replace hF := hF.grow bb
  replace hB := hB.trans (bb.mono hB.size)
  clear hv16 bb s116'
  have y16 := k16.lt
  have t3 : ∀ W, Below v16.heap.size v16 W → Calls Tryd.prog 44 #[.agg #[.bool d3.neg, .slice ra3 (words d3.m).length rc3, .int .i64 d3.exp], .agg #[.bool d4.neg, .slice ra4 (words d4.m).length rc4, .int .i64 d4.exp]] W fun en w' => en = .returned (.bool true) ∧ Below W.heap.size W w' := by
    intro W hw
    have h := HPL.out
    refine same_any (argOf d3 ra3 rc3) (argOf d4 ra4 rc4) W ((ho3.grow hw).arg Hok3.out) ((ho4.grow hw).arg Hok4.out) ?_
    have h2 : d3 = d4 := by first | exact h.1 | exact h.2.1 | exact h.2.2.1 | exact h.2.2.2
    unfold argOf
    dsimp only
    rw [h2]
    exact ⟨rfl, rfl, rfl⟩
  have t6 : ∀ W, Below v16.heap.size v16 W → Calls Tryd.prog 44 #[.agg #[.bool d6.neg, .slice ra6 (words d6.m).length rc6, .int .i64 d6.exp], .agg #[.bool d8.neg, .slice ra8 (words d8.m).length rc8, .int .i64 d8.exp]] W fun en w' => en = .returned (.bool true) ∧ Below W.heap.size W w' := by
    intro W hw
    have h := HPL.out
    refine same_any (argOf d6 ra6 rc6) (argOf d8 ra8 rc8) W ((ho6.grow hw).arg Hok6.out) ((ho8.grow hw).arg Hok8.out) ?_
    have h2 : d6 = d8 := by first | exact h.1 | exact h.2.1 | exact h.2.2.1 | exact h.2.2.2
    unfold argOf
    dsimp only
    rw [h2]
    exact ⟨rfl, rfl, rfl⟩
  have t9 : ∀ W, Below v16.heap.size v16 W → Calls Tryd.prog 44 #[.agg #[.bool d9.neg, .slice ra9 (words d9.m).length rc9, .int .i64 d9.exp], .agg #[.bool d12.neg, .slice ra12 (words d12.m).length rc12, .int .i64 d12.exp]] W fun en w' => en = .returned (.bool true) ∧ Below W.heap.size W w' := by
    intro W hw
    have h := HPL.out
    refine same_any (argOf d9 ra9 rc9) (argOf d12 ra12 rc12) W ((ho9.grow hw).arg Hok9.out) ((ho12.grow hw).arg Hok12.out) ?_
    have h2 : d9 = d12 := by first | exact h.1 | exact h.2.1 | exact h.2.2.1 | exact h.2.2.2
    unfold argOf
    dsimp only
    rw [h2]
    exact ⟨rfl, rfl, rfl⟩
  have t14 : ∀ W, Below v16.heap.size v16 W → Calls Tryd.prog 44 #[.agg #[.bool d14.neg, .slice ra14 (words d14.m).length rc14, .int .i64 d14.exp], .agg #[.bool d15.neg, .slice ra15 (words d15.m).length rc15, .int .i64 d15.exp]] W fun en w' => en = .returned (.bool true) ∧ Below W.heap.size W w' := by
    intro W hw
    have h := HPL.out
    refine same_any (argOf d14 ra14 rc14) (argOf d15 ra15 rc15) W ((ho14.grow hw).arg Hok14.out) ((ho15.grow hw).arg Hok15.out) ?_
    have h2 : d14 = d15 := by first | exact h.1 | exact h.2.1 | exact h.2.2.1 | exact h.2.2.2
    unfold argOf
    dsimp only
    rw [h2]
    exact ⟨rfl, rfl, rfl⟩
  have HT3 := Lib.hid t3; have HT6 := Lib.hid t6; have HT9 := Lib.hid t9; have HT14 := Lib.hid t14; clear t3 t6 t9 t14
  have HHO16 := Lib.hid ho16
  have hrest : ∀ W : World, Below v16.heap.size v16 W → True := fun _ _ => trivial
  clear hrest
  obtain ⟨_, _, _, _, _, _⟩ := k16.facts
  obtain ⟨_, _, _, _, _, _⟩ := kA.facts
  obtain ⟨_, _, _, _, _, _⟩ := kB.facts
  clear ho1 ho2 ho3 ho4 ho6 ho8 ho9 ho12 ho14 ho15 ho16
  have HB := Lib.hid hB; clear hB hF
  by_cases h16 : e16 = 0
  case neg =>
    have g16 : (e16 == 0) = false := by simpa using h16
    clear h16
    go_big_quiet (fail)
    have hV : Below v16.heap.size v16 (v16.drewN nq) := below_drewN' (Below.refl _ _)
    have r3x := k3.below hV k3.lt
    obtain ⟨_, _, _, _, _, _⟩ := r3x.facts
    have r4x := k4.below hV k4.lt
    obtain ⟨_, _, _, _, _, _⟩ := r4x.facts
    go_wp2_with fail
    refine (HT3.out _ hV).mono ?_; rintro en t0 ⟨rfl, hb⟩
    have hV0 := hV.trans (hb.mono hV.size)
    clear hb
    have r6x := k6.below hV0 k6.lt
    obtain ⟨_, _, _, _, _, _⟩ := r6x.facts
    have r8x := k8.below hV0 k8.lt
    obtain ⟨_, _, _, _, _, _⟩ := r8x.facts
    go_wp2_with fail
    refine (HT6.out t0 hV0).mono ?_; rintro en t1 ⟨rfl, hb⟩
    have hV1 := hV0.trans (hb.mono hV0.size)
    clear hb
    have r9x := k9.below hV1 k9.lt
    obtain ⟨_, _, _, _, _, _⟩ := r9x.facts
    have r12x := k12.below hV1 k12.lt
    obtain ⟨_, _, _, _, _, _⟩ := r12x.facts
    go_wp2_with fail
    refine (HT9.out t1 hV1).mono ?_; rintro en t2 ⟨rfl, hb⟩
    have hV2 := hV1.trans (hb.mono hV1.size)
    clear hb
    have r14x := k14.below hV2 k14.lt
    obtain ⟨_, _, _, _, _, _⟩ := r14x.facts
    have r15x := k15.below hV2 k15.lt
    obtain ⟨_, _, _, _, _, _⟩ := r15x.facts
    go_wp2_with fail
    refine (HT14.out t2 hV2).mono ?_; rintro en t3 ⟨rfl, hb⟩
    have hV3 := hV2.trans (hb.mono hV2.size)
    clear hb
    have hE := HB.out.trans (hV3.mono HB.out.size)
    have HE := Lib.hid hE; clear hE
    go_wp2_with fail
    go_ret
    exact ⟨rfl, HE.out⟩
  case pos =>
    have g16 : (e16 == 0) = true := by rw [h16]; rfl
    have hSg : ∀ W, Below v16.heap.size v16 W → Calls Tryd.prog 36 #[.agg #[.bool d16.neg, .slice ra16 (words d16.m).length rc16, .int .i64 d16.exp]] W fun en w' => en = .returned (.int .i64 cc) ∧ Below v16.heap.size v16 w' ∧ Below W.heap.size W w' := by
      intro W hw
      refine (Hhsg.out W ra16 rc16 _ h16 (HHO16.out.grow hw)).mono ?_
      rintro en w' ⟨h1, h2⟩
      exact ⟨h1, hw.trans (h2.mono hw.size), h2⟩
    have hCm : ∀ W, Below v16.heap.size v16 W → Calls Tryd.prog 35 #[.agg #[.bool s, .slice a l.length c, .int .i64 e], .agg #[.bool s', .slice a' l'.length c', .int .i64 e']] W fun en w' => en = .returned (.int .i64 cc) ∧ Below v16.heap.size v16 w' ∧ Below W.heap.size W w' := by
      intro W hw
      refine (Hhcmp.out W (HB.out.trans (hw.mono HB.out.size))).mono ?_
      rintro en w' ⟨h1, h2⟩
      exact ⟨h1, hw.trans (h2.mono hw.size), h2⟩
    have HSG := Lib.hid hSg; have HCM := Lib.hid hCm; clear hSg hCm h16
    go_region_held3 (fun W => W.cell? ⟨w16.heap.size, 0, none⟩ = some (.bool d16.neg) ∧ W.cell? ⟨w16.heap.size, 1, none⟩ = some (.slice ra16 (words d16.m).length rc16) ∧ W.cell? ⟨w16.heap.size, 2, none⟩ = some (.int .i64 d16.exp) ∧ W.cell? ⟨w.heap.size, 0, none⟩ = some (.bool s) ∧ W.cell? ⟨w.heap.size, 1, none⟩ = some (.slice a l.length c) ∧ W.cell? ⟨w.heap.size, 2, none⟩ = some (.int .i64 e) ∧ W.cell? ⟨w.heap.size + 1, 0, none⟩ = some (.bool s') ∧ W.cell? ⟨w.heap.size + 1, 1, none⟩ = some (.slice a' l'.length c') ∧ W.cell? ⟨w.heap.size + 1, 2, none⟩ = some (.int .i64 e')) (go_keep) (first
      | (go_at_call 36; with_reducible refine (HSG.out _ (Below.refl _ _).drew).mono ?_; rintro en w17 ⟨rfl, hv17, hb17⟩; have mk16a := k16.below hv17 k16.lt; obtain ⟨_, _, _, _, _, _⟩ := mk16a.facts; have mkAa := kA.below hv17 kA.lt; obtain ⟨_, _, _, _, _, _⟩ := mkAa.facts; have mkBa := kB.below hv17 kB.lt; obtain ⟨_, _, _, _, _, _⟩ := mkBa.facts)
      | (go_at_call 35; with_reducible refine (HCM.out _ hv17).mono ?_; rintro en w18 ⟨rfl, hV, hb18⟩; have mk16b := k16.below hV k16.lt; obtain ⟨_, _, _, _, _, _⟩ := mk16b.facts; have mkAb := kA.below hV kA.lt; obtain ⟨_, _, _, _, _, _⟩ := mkAb.facts; have mkBb := kB.below hV kB.lt; obtain ⟨_, _, _, _, _, _⟩ := mkBb.facts))
    all_goals
      have r3x := k3.below hV k3.lt
      obtain ⟨_, _, _, _, _, _⟩ := r3x.facts
      have r4x := k4.below hV k4.lt
      obtain ⟨_, _, _, _, _, _⟩ := r4x.facts
      go_wp2_with fail
      refine (HT3.out _ hV).mono ?_; rintro en t0 ⟨rfl, hb⟩
      have hV0 := hV.trans (hb.mono hV.size)
      clear hb
      have r6x := k6.below hV0 k6.lt
      obtain ⟨_, _, _, _, _, _⟩ := r6x.facts
      have r8x := k8.below hV0 k8.lt
      obtain ⟨_, _, _, _, _, _⟩ := r8x.facts
      go_wp2_with fail
      refine (HT6.out t0 hV0).mono ?_; rintro en t1 ⟨rfl, hb⟩
      have hV1 := hV0.trans (hb.mono hV0.size)
      clear hb
      have r9x := k9.below hV1 k9.lt
      obtain ⟨_, _, _, _, _, _⟩ := r9x.facts
      have r12x := k12.below hV1 k12.lt
      obtain ⟨_, _, _, _, _, _⟩ := r12x.facts
      go_wp2_with fail
      refine (HT9.out t1 hV1).mono ?_; rintro en t2 ⟨rfl, hb⟩
      have hV2 := hV1.trans (hb.mono hV1.size)
      clear hb
      have r14x := k14.below hV2 k14.lt
      obtain ⟨_, _, _, _, _, _⟩ := r14x.facts
      have r15x := k15.below hV2 k15.lt
      obtain ⟨_, _, _, _, _, _⟩ := r15x.facts
      go_wp2_with fail
      refine (HT14.out t2 hV2).mono ?_; rintro en t3 ⟨rfl, hb⟩
      have hV3 := hV2.trans (hb.mono hV2.size)
      clear hb
      have hE := HB.out.trans (hV3.mono HB.out.size)
      have HE := Lib.hid hE; clear hE
      go_wp2_with fail
      go_ret
      exact ⟨rfl, HE.out⟩
end Go.Proofs.YtmokomfneikipaaDoor

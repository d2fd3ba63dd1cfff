/- What a polynomial's transform was is it; products of transforms are transforms of products. -/
import Derived.Test.YtdndlcghoibppaaPn
import Derived.Test.YtdndlcghoibppaaPc
namespace Go.Pl
open Go.Lg (up fl)
theorem lay_lowc {f : Nat → Int} {kb n b j : Nat} (hj : j < n) : Cg (lay kb n f (2 * n * b + j)) (f (2 * n * b + j) + zt (kb + b) * f (2 * n * b + n + j)) := by
  rw [lay_low hj]; exact ((Cg.refl _).add (Cg.mod _)).modl
theorem lay_highc {f : Nat → Int} {kb n b j : Nat} (hj : j < n) : Cg (lay kb n f (2 * n * b + n + j)) (f (2 * n * b + j) - zt (kb + b) * f (2 * n * b + n + j)) := by
  rw [lay_high hj]; exact (Cg.q.trans ((Cg.refl _).sub (Cg.mod _))).modl
theorem ilay_lowc {f : Nat → Int} {kb n b j : Nat} (hj : j < n) : Cg (ilay kb n f (2 * n * b + j)) (f (2 * n * b + j) + f (2 * n * b + n + j)) := by
  rw [ilay_low hj]; exact Cg.mod _
theorem ilay_highc {f : Nat → Int} {kb n b j : Nat} (hj : j < n) : Cg (ilay kb n f (2 * n * b + n + j)) (zt (2 * kb - 1 - b) * (f (2 * n * b + n + j) - f (2 * n * b + j))) := by
  rw [ilay_high hj]; exact ((Cg.refl _).mul Cg.q).modl
/-- A place is in the lower half of a block, or in the upper one. -/
theorem place {n kb i : Nat} (h : 2 * n * kb = 256) (hi : i < 256) : ∃ b j, b < kb ∧ j < n ∧ (i = 2 * n * b + j ∨ i = 2 * n * b + n + j) := by
  have hn : 0 < 2 * n := by
    rcases Nat.eq_zero_or_pos n with e | e
    · subst e; simp at h
    · omega
  have h1 := Nat.div_add_mod i (2 * n)
  have h2 := Nat.mod_lt i hn
  refine ⟨i / (2 * n), if i % (2 * n) < n then i % (2 * n) else i % (2 * n) - n, ?_, ?_, ?_⟩
  · exact Nat.div_lt_of_lt_mul (by rw [h]; exact hi)
  · split <;> omega
  · split
    · left; omega
    · right; omega
theorem place_lt {n kb b j : Nat} (h : 2 * n * kb = 256) (hb : b < kb) (hj : j < n) : 2 * n * b + j < 256 ∧ 2 * n * b + n + j < 256 := by
  have := Nat.mul_le_mul_left (2 * n) (show b + 1 ≤ kb from hb)
  rw [Nat.mul_succ, h] at this
  omega
theorem roots_meet : ∀ t, t < 8 → ∀ b, b < 2 ^ t → (zt (2 ^ t + b) * zt (2 * 2 ^ t - 1 - b)) % 8380417 = 8380416 := by decide +kernel
theorem meet {t b : Nat} (ht : t < 8) (hb : b < 2 ^ t) : Cg (zt (2 ^ t + b) * zt (2 * 2 ^ t - 1 - b)) (-1) := Cg.of_emod (by rw [roots_meet t ht b hb]; rfl)
/-- One layer, and the same one back: twice what was. -/
theorem back_one {t : Nat} (ht : t < 8) {f g : Nat → Int} {c : Int} (h : ∀ i, i < 256 → Cg (g i) (c * lay (2 ^ t) (128 / 2 ^ t) f i)) : ∀ i, i < 256 → Cg (ilay (2 ^ t) (128 / 2 ^ t) g i) (2 * c * f i) := by
  intro i hi
  obtain ⟨h256, _⟩ := pow_tab t ht
  have hm := fun b (hb : b < 2 ^ t) => meet ht hb
  generalize 128 / 2 ^ t = n at *
  generalize 2 ^ t = kb at *
  obtain ⟨b, j, hb, hj, hij⟩ := place h256 hi
  obtain ⟨l1, l2⟩ := place_lt h256 hb hj
  have e1 := (h _ l1).trans ((Cg.refl c).mul (lay_lowc hj))
  have e2 := (h _ l2).trans ((Cg.refl c).mul (lay_highc hj))
  have hz := hm b hb
  rcases hij with rfl | rfl
  · refine (ilay_lowc hj).trans ((e1.add e2).trans (Cg.of_eq ?_))
    generalize f (2 * n * b + j) = x
    generalize f (2 * n * b + n + j) = y
    generalize zt (kb + b) = z
    grind
  · refine (ilay_highc hj).trans (((Cg.refl _).mul (e2.sub e1)).trans ?_)
    generalize f (2 * n * b + j) = x
    generalize f (2 * n * b + n + j) = y
    generalize zt (kb + b) = z at *
    generalize zt (2 * kb - 1 - b) = z' at *
    refine (Cg.of_eq (show _ = (z * z') * (-2 * c * y) by grind)).trans ((hz.mul (Cg.refl _)).trans (Cg.of_eq ?_))
    grind
theorem forth_one {t : Nat} (ht : t < 8) {f g : Nat → Int} {c : Int} (h : ∀ i, i < 256 → Cg (g i) (c * ilay (2 ^ t) (128 / 2 ^ t) f i)) : ∀ i, i < 256 → Cg (lay (2 ^ t) (128 / 2 ^ t) g i) (2 * c * f i) := by
  intro i hi
  obtain ⟨h256, _⟩ := pow_tab t ht
  have hm := fun b (hb : b < 2 ^ t) => meet ht hb
  generalize 128 / 2 ^ t = n at *
  generalize 2 ^ t = kb at *
  obtain ⟨b, j, hb, hj, hij⟩ := place h256 hi
  obtain ⟨l1, l2⟩ := place_lt h256 hb hj
  have e1 := (h _ l1).trans ((Cg.refl c).mul (ilay_lowc hj))
  have e2 := (h _ l2).trans ((Cg.refl c).mul (ilay_highc hj))
  have hz := hm b hb
  rcases hij with rfl | rfl
  · refine (lay_lowc hj).trans ((e1.add ((Cg.refl _).mul e2)).trans ?_)
    generalize f (2 * n * b + j) = x
    generalize f (2 * n * b + n + j) = y
    generalize zt (kb + b) = z at *
    generalize zt (2 * kb - 1 - b) = z' at *
    refine (Cg.of_eq (show _ = c * (x + y) + (z * z') * (c * (y - x)) by grind)).trans (((Cg.refl _).add (hz.mul (Cg.refl _))).trans (Cg.of_eq ?_))
    grind
  · refine (lay_highc hj).trans ((e1.sub ((Cg.refl _).mul e2)).trans ?_)
    generalize f (2 * n * b + j) = x
    generalize f (2 * n * b + n + j) = y
    generalize zt (kb + b) = z at *
    generalize zt (2 * kb - 1 - b) = z' at *
    refine (Cg.of_eq (show _ = c * (x + y) - (z * z') * (c * (y - x)) by grind)).trans (((Cg.refl _).sub (hz.mul (Cg.refl _))).trans (Cg.of_eq ?_))
    grind
theorem pows : ∀ t, t < 8 → 128 / 2 ^ t = 2 ^ (7 - t) ∧ 2 ^ t = 128 / 2 ^ (7 - t) := by decide
theorem it_ntt (f : Nat → Int) : ∀ t, t ≤ 8 → ∀ i, i < 256 → Cg (it (ntt f) t i) (2 ^ t * nt f (8 - t) i)
  | 0, _, i, _ => by
    rw [Int.pow_zero, Int.one_mul]; exact Cg.mod _
  | t + 1, ht, i, hi => by
    obtain ⟨p1, p2⟩ := pows t (by omega)
    have ih := it_ntt f t (by omega)
    have e : 8 - t = (7 - t) + 1 := by omega
    rw [e] at ih
    rw [show 8 - (t + 1) = 7 - t by omega]
    show Cg (ilay (128 / 2 ^ t) (2 ^ t) (it (ntt f) t) i) _
    rw [p1, p2, Int.pow_succ, Int.mul_comm _ 2]
    exact back_one (by omega) (fun i hi => ih i hi) i hi
theorem nt_intt (f : Nat → Int) : ∀ t, t ≤ 8 → ∀ i, i < 256 → Cg (nt (intt f) t i) (2 ^ t * 8347681 * it f (8 - t) i)
  | 0, _, i, _ => by
    rw [Int.pow_zero, Int.one_mul, Int.mul_comm]; exact (Cg.mod _).trans (Cg.mod _)
  | t + 1, ht, i, hi => by
    obtain ⟨p1, p2⟩ := pows t (by omega)
    obtain ⟨p3, p4⟩ := pows (7 - t) (by omega)
    have ih := nt_intt f t (by omega)
    have e : 8 - t = (7 - t) + 1 := by omega
    rw [e] at ih
    rw [show 8 - (t + 1) = 7 - t by omega]
    have e2 : ∀ i, it f (7 - t + 1) i = ilay (2 ^ t) (128 / 2 ^ t) (it f (7 - t)) i := fun i => by
      show ilay (128 / 2 ^ (7 - t)) (2 ^ (7 - t)) _ i = _
      rw [← p2, ← p1]
    show Cg (lay (2 ^ t) (128 / 2 ^ t) (nt (intt f) t) i) _
    rw [Int.pow_succ, Int.mul_comm _ 2, Int.mul_assoc 2]
    exact forth_one (by omega) (fun i hi => by rw [← e2]; exact ih i hi) i hi
theorem intt_ntt (f : Nat → Int) (i : Nat) (hi : i < 256) : intt (ntt f) i = f i % 8380417 := by
  have h := it_ntt f 8 (by omega) i hi
  refine Cg.eq ?_ (In.intt i) ⟨Int.emod_nonneg _ (by decide), Int.emod_lt_of_pos _ (by decide)⟩
  refine ((h.mul (Cg.refl 8347681)).modl).trans ?_
  show Cg (2 ^ 8 * (f i % 8380417) * 8347681) _
  exact ⟨255 * (f i % 8380417), by rw [show ((2 : Int) ^ 8) = 256 by decide]; omega⟩
theorem ntt_intt (f : Nat → Int) (i : Nat) (hi : i < 256) : ntt (intt f) i = f i % 8380417 := by
  have h := nt_intt f 8 (by omega) i hi
  refine Cg.eq ?_ (In.ntt i) ⟨Int.emod_nonneg _ (by decide), Int.emod_lt_of_pos _ (by decide)⟩
  refine h.trans ?_
  show Cg (2 ^ 8 * 8347681 * (f i % 8380417)) _
  exact ⟨255 * (f i % 8380417), by rw [show ((2 : Int) ^ 8) = 256 by decide]; omega⟩
theorem cen_back (x : Int) (h : 0 ≤ x ∧ x < 8380417) : cen x % 8380417 = x := by unfold cen; split <;> omega
end Go.Pl

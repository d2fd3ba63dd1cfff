/- Sums of polynomials, and sizes. -/
import Derived.Test.YtdndlcghoibppaaPm
namespace Go.Pl
open Go.Lg (up fl)
theorem lay_add {t : Nat} (ht : t < 8) {f g h : Nat → Int} (hh : ∀ i, i < 256 → Cg (h i) (f i + g i)) : ∀ i, i < 256 → Cg (lay (2 ^ t) (128 / 2 ^ t) h i) (lay (2 ^ t) (128 / 2 ^ t) f i + lay (2 ^ t) (128 / 2 ^ t) g i) := by
  intro i hi
  obtain ⟨h256, _⟩ := pow_tab t ht
  generalize 128 / 2 ^ t = n at *
  generalize 2 ^ t = kb at *
  obtain ⟨b, j, hb, hj, hij⟩ := place h256 hi
  obtain ⟨l1, l2⟩ := place_lt h256 hb hj
  have e1 := hh _ l1
  have e2 := hh _ l2
  rcases hij with rfl | rfl
  · refine (lay_lowc hj).trans ((e1.add ((Cg.refl _).mul e2)).trans (Cg.trans (Cg.of_eq ?_) ((lay_lowc hj).add (lay_lowc hj)).symm))
    grind
  · refine (lay_highc hj).trans ((e1.sub ((Cg.refl _).mul e2)).trans (Cg.trans (Cg.of_eq ?_) ((lay_highc hj).add (lay_highc hj)).symm))
    grind
theorem nt_add {f g h : Nat → Int} (hh : ∀ i, i < 256 → Cg (h i) (f i + g i)) : ∀ t, t ≤ 8 → ∀ i, i < 256 → Cg (nt h t i) (nt f t i + nt g t i)
  | 0, _ => fun i hi => (Cg.mod _).trans ((hh i hi).trans ((Cg.mod _).add (Cg.mod _)).symm)
  | t + 1, ht => lay_add (by omega) (nt_add hh t (by omega))
theorem ntt_add (f g : Nat → Int) : ∀ i, i < 256 → ntt (fun i => (f i % 8380417 + g i % 8380417) % 8380417) i = (ntt f i % 8380417 + ntt g i % 8380417) % 8380417 := fun i hi => by
  refine Cg.eq ?_ (In.ntt i) ⟨Int.emod_nonneg _ (by decide), Int.emod_lt_of_pos _ (by decide)⟩
  refine (nt_add (f := f) (g := g) (fun i _ => (Cg.mod _).trans ((Cg.mod _).add (Cg.mod _))) 8 (Nat.le_refl 8) i hi).trans ?_
  exact (((Cg.mod _).add (Cg.mod _)).modl).symm
theorem big_nn {f : Nat → Int} : ∀ n, 0 ≤ big f n
  | 0 => Int.le_refl 0
  | n + 1 => by have := big_nn (f := f) n; unfold big; omega
theorem big_ge {f : Nat → Int} : ∀ {n i : Nat}, i < n → f i ≤ big f n ∧ -f i ≤ big f n
  | n + 1, i, h => by
    unfold big
    rcases Nat.lt_or_ge i n with h' | h'
    · have := big_ge (f := f) h'; omega
    · have : i = n := by omega
      subst this; omega
theorem big_le {f : Nat → Int} {m : Int} (hm : 0 ≤ m) : ∀ {n : Nat}, (∀ i, i < n → f i ≤ m ∧ -f i ≤ m) → big f n ≤ m
  | 0, _ => hm
  | n + 1, h => by
    have h1 := big_le hm (n := n) fun i hi => h i (by omega)
    have h2 := h n (by omega)
    unfold big; omega
theorem big_at {f : Nat → Int} : ∀ {n : Nat}, 0 < n → ∃ i, i < n ∧ (f i = big f n ∨ -f i = big f n)
  | n + 1, _ => by
    rcases Nat.eq_zero_or_pos n with e | e
    · subst e; exact ⟨0, by omega, by unfold big big; omega⟩
    · obtain ⟨i, hi, hf⟩ := big_at (f := f) e
      unfold big
      by_cases h : f n ≤ big f n ∧ -f n ≤ big f n
      · exact ⟨i, by omega, by omega⟩
      · exact ⟨n, by omega, by omega⟩
theorem big_cen (f : Nat → Int) : 0 ≤ big (fun i => cen (f i % 8380417)) 256 ∧ big (fun i => cen (f i % 8380417)) 256 ≤ 4190208 :=
  ⟨big_nn 256, big_le (by decide) fun i _ => by have := cen_bd (x := f i % 8380417) ⟨Int.emod_nonneg _ (by decide), Int.emod_lt_of_pos _ (by decide)⟩; omega⟩
theorem big_add (f g : Nat → Int) : big (fun i => cen ((f i % 8380417 + g i % 8380417) % 8380417 % 8380417)) 256 ≤ big (fun i => cen (f i % 8380417)) 256 + big (fun i => cen (g i % 8380417)) 256 := by
  have n1 := big_nn (f := fun i => cen (f i % 8380417)) 256
  have n2 := big_nn (f := fun i => cen (g i % 8380417)) 256
  refine big_le (by omega) fun i hi => ?_
  have h1 := big_ge (f := fun i => cen (f i % 8380417)) hi
  have h2 := big_ge (f := fun i => cen (g i % 8380417)) hi
  simp only [cen] at h1 h2 ⊢
  generalize big _ _ = x at *
  generalize big _ _ = y at *
  generalize f i = a at *
  generalize g i = b at *
  omega
theorem big_neg {f g : Nat → Int} (h : ∀ i, i < 256 → g i = -f i) : big g 256 = big f 256 := by
  have n1 := big_nn (f := f) 256
  have n2 := big_nn (f := g) 256
  have a1 : big g 256 ≤ big f 256 := big_le n1 fun i hi => by have := big_ge (f := f) hi; have := h i hi; omega
  have a2 : big f 256 ≤ big g 256 := big_le n2 fun i hi => by have := big_ge (f := g) hi; have := h i hi; omega
  omega
end Go.Pl

/- The transform's layers, as loops make them. -/
import Derived.Test.YtdndlcghoibppaaPl
import Derived.Test.YtdndlcghoibppaaAr
namespace Go.Pl
open Go.Lg (up fl)
def In (f : Nat → Int) : Prop := ∀ i, 0 ≤ f i ∧ f i < 8380417
/-- One layer of the transform: blocks of 2 n numbers, the first one with root kb. -/
def lay (kb n : Nat) (f : Nat → Int) : Nat → Int := fun i =>
  if i % (2 * n) < n then (f i + zt (kb + i / (2 * n)) * f (i + n) % 8380417) % 8380417
  else (f (i - n) - zt (kb + i / (2 * n)) * f i % 8380417 + 8380417) % 8380417
/-- One layer of the way back. -/
def ilay (kb n : Nat) (f : Nat → Int) : Nat → Int := fun i =>
  if i % (2 * n) < n then (f i + f (i + n)) % 8380417
  else zt (2 * kb - 1 - i / (2 * n)) * (f i - f (i - n) + 8380417) % 8380417
/-- A layer l of f, of which the blocks ahead of s are done, and j steps of the block at s. -/
def inn (l : Nat → Int) (n : Nat) (f : Nat → Int) (s j : Nat) : Nat → Int := fun i => if i < s + j ∨ (s + n ≤ i ∧ i < s + n + j) then l i else f i
theorem In.lay {f : Nat → Int} (kb n : Nat) : In (lay kb n f) := fun i => by
  unfold Pl.lay
  split <;> exact ⟨Int.emod_nonneg _ (by decide), Int.emod_lt_of_pos _ (by decide)⟩
theorem In.ilay {f : Nat → Int} (kb n : Nat) : In (ilay kb n f) := fun i => by
  unfold Pl.ilay
  split <;> exact ⟨Int.emod_nonneg _ (by decide), Int.emod_lt_of_pos _ (by decide)⟩
theorem In.inn {f l : Nat → Int} (hf : In f) (hl : In l) (n s j : Nat) : In (inn l n f s j) := fun i => by
  unfold Pl.inn
  split
  · exact hl i
  · exact hf i
section
variable {l f : Nat → Int} {n s j : Nat}
theorem inn_zero : inn l n f s 0 = fl l f s := by
  funext i
  unfold inn fl
  by_cases h : i < s
  · rw [if_pos h, if_pos (Or.inl (by omega))]
  · rw [if_neg h, if_neg (by omega)]
theorem inn_full : inn l n f s n = fl l f (s + 2 * n) := by
  funext i
  unfold inn fl
  by_cases h : i < s + 2 * n
  · rw [if_pos h, if_pos (by omega)]
  · rw [if_neg h, if_neg (by omega)]
theorem inn_low (hj : j < n) : inn l n f s j (s + j) = f (s + j) := by unfold inn; rw [if_neg (by omega)]
theorem inn_high : inn l n f s j (s + n + j) = f (s + n + j) := by unfold inn; rw [if_neg (by omega)]
theorem inn_succ (hj : j < n) {v1 v2 : Int} (h1 : v1 = l (s + j)) (h2 : v2 = l (s + n + j)) : up (up (inn l n f s j) (s + j) v1) (s + n + j) v2 = inn l n f s (j + 1) := by
  subst h1 h2
  funext i
  unfold up inn
  by_cases e2 : i = s + n + j
  · subst e2; rw [if_pos rfl, if_pos (by omega)]
  · rw [if_neg e2]
    by_cases e1 : i = s + j
    · subst e1; rw [if_pos rfl, if_pos (by omega)]
    · rw [if_neg e1]
      by_cases h : i < s + j ∨ (s + n ≤ i ∧ i < s + n + j)
      · rw [if_pos h, if_pos (by omega)]
      · rw [if_neg h, if_neg (by omega)]
end
theorem at_low {n b j : Nat} (hj : j < n) : (2 * n * b + j) % (2 * n) = j ∧ (2 * n * b + j) / (2 * n) = b :=
  ⟨by rw [Nat.mul_add_mod, Nat.mod_eq_of_lt (by omega)], by rw [Nat.mul_add_div (by omega), Nat.div_eq_of_lt (by omega)]; rfl⟩
theorem at_high {n b j : Nat} (hj : j < n) : (2 * n * b + n + j) % (2 * n) = n + j ∧ (2 * n * b + n + j) / (2 * n) = b := by
  rw [Nat.add_assoc]
  exact ⟨by rw [Nat.mul_add_mod, Nat.mod_eq_of_lt (by omega)], by rw [Nat.mul_add_div (by omega), Nat.div_eq_of_lt (by omega)]; rfl⟩
theorem lay_low {f : Nat → Int} {kb n b j : Nat} (hj : j < n) : lay kb n f (2 * n * b + j) = (f (2 * n * b + j) + zt (kb + b) * f (2 * n * b + n + j) % 8380417) % 8380417 := by
  unfold lay
  rw [(at_low hj).1, (at_low hj).2, if_pos hj, show 2 * n * b + j + n = 2 * n * b + n + j by omega]
theorem lay_high {f : Nat → Int} {kb n b j : Nat} (hj : j < n) : lay kb n f (2 * n * b + n + j) = (f (2 * n * b + j) - zt (kb + b) * f (2 * n * b + n + j) % 8380417 + 8380417) % 8380417 := by
  unfold lay
  rw [(at_high hj).1, (at_high hj).2, if_neg (by omega), show 2 * n * b + n + j - n = 2 * n * b + j by omega]
theorem ilay_low {f : Nat → Int} {kb n b j : Nat} (hj : j < n) : ilay kb n f (2 * n * b + j) = (f (2 * n * b + j) + f (2 * n * b + n + j)) % 8380417 := by
  unfold ilay
  rw [(at_low hj).1, if_pos hj, show 2 * n * b + j + n = 2 * n * b + n + j by omega]
theorem ilay_high {f : Nat → Int} {kb n b j : Nat} (hj : j < n) : ilay kb n f (2 * n * b + n + j) = zt (2 * kb - 1 - b) * (f (2 * n * b + n + j) - f (2 * n * b + j) + 8380417) % 8380417 := by
  unfold ilay
  rw [(at_high hj).1, (at_high hj).2, if_neg (by omega), show 2 * n * b + n + j - n = 2 * n * b + j by omega]
/-- The transform's layers, one behind the other. -/
def nt (f : Nat → Int) : Nat → Nat → Int
  | 0 => fun i => f i % 8380417
  | t + 1 => lay (2 ^ t) (128 / 2 ^ t) (nt f t)
def it (f : Nat → Int) : Nat → Nat → Int
  | 0 => fun i => f i % 8380417
  | t + 1 => ilay (128 / 2 ^ t) (2 ^ t) (it f t)
def ntt (f : Nat → Int) : Nat → Int := nt f 8
def intt (f : Nat → Int) : Nat → Int := fun i => it f 8 i * 8347681 % 8380417
theorem In.nt {f : Nat → Int} : ∀ t, In (nt f t)
  | 0 => fun i => ⟨Int.emod_nonneg _ (by decide), Int.emod_lt_of_pos _ (by decide)⟩
  | _ + 1 => In.lay _ _
theorem In.it {f : Nat → Int} : ∀ t, In (it f t)
  | 0 => fun i => ⟨Int.emod_nonneg _ (by decide), Int.emod_lt_of_pos _ (by decide)⟩
  | _ + 1 => In.ilay _ _
theorem In.ntt {f : Nat → Int} : In (ntt f) := In.nt 8
theorem In.intt {f : Nat → Int} : In (intt f) := fun i => ⟨Int.emod_nonneg _ (by decide), Int.emod_lt_of_pos _ (by decide)⟩
/-- What the powers of two do, for the loops' bounds. -/
theorem pow_tab : ∀ t, t < 8 → 2 * (128 / 2 ^ t) * 2 ^ t = 256 ∧ 1 ≤ 128 / 2 ^ t ∧ 1 ≤ 2 ^ t ∧ 128 / 2 ^ t / 2 = 128 / 2 ^ (t + 1) ∧ 2 ^ t ≤ 128 ∧ 128 / 2 ^ t ≤ 128 := by decide
/-- The transform's numbers of blocks, and their halves' lengths. -/
theorem levels (f : Nat → Int) : ∃ (N K : Nat → Nat), N 0 = 128 ∧ K 0 = 1 ∧ N 8 = 0 ∧ K 8 = 256 ∧ (∀ t, t < 8 → 2 * N t * K t = 256 ∧ 1 ≤ N t ∧ 1 ≤ K t ∧ N (t + 1) = N t / 2 ∧ K (t + 1) = 2 * K t ∧ K t ≤ 128 ∧ N t ≤ 128 ∧ (t = 7 → N t = 1) ∧ (t ≠ 7 → N t = 2 * N (t + 1))) ∧
    (∀ t, nt f (t + 1) = lay (K t) (N t) (nt f t)) ∧ (∀ t, it f (t + 1) = ilay (N t) (K t) (it f t)) :=
  ⟨fun t => 128 / 2 ^ t, fun t => 2 ^ t, rfl, rfl, rfl, rfl, by decide, fun _ => rfl, fun _ => rfl⟩
/-- Where the blocks of a layer begin. -/
theorem starts (n k : Nat) (h : 2 * n * k = 256) : ∃ S : Nat → Nat, (∀ b, S b = 2 * n * b) ∧ S 0 = 0 ∧ (∀ b, S (b + 1) = S b + 2 * n) ∧ (∀ b, b < k → S b + 2 * n ≤ 256) ∧ S k = 256 :=
  ⟨fun b => 2 * n * b, fun _ => rfl, rfl, fun b => by show 2 * n * (b + 1) = _; rw [Nat.mul_succ], fun b hb => by
    have := Nat.mul_le_mul_left (2 * n) (show b + 1 ≤ k from hb)
    rw [Nat.mul_succ, h] at this; exact this, h⟩
end Go.Pl

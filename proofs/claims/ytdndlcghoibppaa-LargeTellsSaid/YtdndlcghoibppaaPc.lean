/- Numbers that differ by a multiple of q; sums. -/
namespace Go.Pl
def Cg (a b : Int) : Prop := ∃ k, a = b + 8380417 * k
namespace Cg
variable {a b c d : Int}
theorem refl (a : Int) : Cg a a := ⟨0, by omega⟩
theorem of_eq (h : a = b) : Cg a b := h ▸ refl a
theorem symm (h : Cg a b) : Cg b a := by obtain ⟨k, h⟩ := h; exact ⟨-k, by omega⟩
theorem trans (h : Cg a b) (h' : Cg b c) : Cg a c := by obtain ⟨k, h⟩ := h; obtain ⟨l, h'⟩ := h'; exact ⟨k + l, by omega⟩
theorem add (h : Cg a b) (h' : Cg c d) : Cg (a + c) (b + d) := by obtain ⟨k, h⟩ := h; obtain ⟨l, h'⟩ := h'; exact ⟨k + l, by omega⟩
theorem sub (h : Cg a b) (h' : Cg c d) : Cg (a - c) (b - d) := by obtain ⟨k, h⟩ := h; obtain ⟨l, h'⟩ := h'; exact ⟨k - l, by omega⟩
theorem neg (h : Cg a b) : Cg (-a) (-b) := by obtain ⟨k, h⟩ := h; exact ⟨-k, by omega⟩
theorem mul (h : Cg a b) (h' : Cg c d) : Cg (a * c) (b * d) := by
  obtain ⟨k, h⟩ := h; obtain ⟨l, h'⟩ := h'
  exact ⟨b * l + d * k + 8380417 * k * l, by subst h h'; grind⟩
theorem mod (a : Int) : Cg (a % 8380417) a := ⟨-(a / 8380417), by have := Int.emod_add_mul_ediv a 8380417; omega⟩
theorem modl (h : Cg a b) : Cg (a % 8380417) b := (mod a).trans h
theorem modr (h : Cg a b) : Cg a (b % 8380417) := h.trans (mod b).symm
theorem q : Cg (a + 8380417) a := ⟨1, by omega⟩
theorem eq (h : Cg a b) (ha : 0 ≤ a ∧ a < 8380417) (hb : 0 ≤ b ∧ b < 8380417) : a = b := by obtain ⟨k, h⟩ := h; omega
theorem emod (h : Cg a b) : a % 8380417 = b % 8380417 := by obtain ⟨k, h⟩ := h; omega
theorem of_emod (h : a % 8380417 = b % 8380417) : Cg a b := ⟨a / 8380417 - b / 8380417, by omega⟩
theorem pow (h : Cg a b) : ∀ n : Nat, Cg (a ^ n) (b ^ n)
  | 0 => by simp only [Int.pow_zero]; exact refl 1
  | n + 1 => by rw [Int.pow_succ, Int.pow_succ]; exact (h.pow n).mul h
end Cg
/-- A sum of the first n. -/
def sm (n : Nat) (g : Nat → Int) : Int := match n with
  | 0 => 0
  | n + 1 => sm n g + g n
theorem sm_zero (g : Nat → Int) : sm 0 g = 0 := rfl
theorem sm_succ (n : Nat) (g : Nat → Int) : sm (n + 1) g = sm n g + g n := rfl
theorem sm_cg {g h : Nat → Int} : ∀ n, (∀ i, i < n → Cg (g i) (h i)) → Cg (sm n g) (sm n h)
  | 0, _ => Cg.refl 0
  | n + 1, hh => (sm_cg n fun i hi => hh i (by omega)).add (hh n (by omega))
theorem sm_eq {g h : Nat → Int} : ∀ n, (∀ i, i < n → g i = h i) → sm n g = sm n h
  | 0, _ => rfl
  | n + 1, hh => by rw [sm_succ, sm_succ, sm_eq n fun i hi => hh i (by omega), hh n (by omega)]
theorem sm_add (g h : Nat → Int) : ∀ n, sm n g + sm n h = sm n fun i => g i + h i
  | 0 => rfl
  | n + 1 => by rw [sm_succ, sm_succ, sm_succ, ← sm_add g h n]; omega
theorem sm_mul (c : Int) (g : Nat → Int) : ∀ n, c * sm n g = sm n fun i => c * g i
  | 0 => Int.mul_zero c
  | n + 1 => by rw [sm_succ, sm_succ, ← sm_mul c g n, Int.mul_add]
theorem sm_two (g : Nat → Int) : ∀ n, sm (2 * n) g = sm n fun i => g (2 * i) + g (2 * i + 1)
  | 0 => rfl
  | n + 1 => by rw [show 2 * (n + 1) = 2 * n + 1 + 1 by omega, sm_succ, sm_succ, sm_succ, sm_two g n]; omega
theorem sm_none {g : Nat → Int} : ∀ n, (∀ i, i < n → g i = 0) → sm n g = 0
  | 0, _ => rfl
  | n + 1, h => by rw [sm_succ, sm_none n fun i hi => h i (by omega), h n (by omega)]; rfl
end Go.Pl

/- Transforms are values at the roots; products of transforms are transforms of products. -/
import Derived.Test.YtdndlcghoibppaaPm
namespace Go.Pl
open Go.Lg (up fl)
/-- The root that belongs to block b behind t layers. -/
def cr : Nat → Nat → Int
  | 0, _ => -1
  | t + 1, b => if b % 2 = 0 then zt (2 ^ t + b / 2) else -zt (2 ^ t + b / 2)
theorem root_sq : ∀ t, t < 8 → ∀ b, b < 2 ^ t → (zt (2 ^ t + b) * zt (2 ^ t + b) - cr t b) % 8380417 = 0 := by decide +kernel
theorem root_sqc {t b : Nat} (ht : t < 8) (hb : b < 2 ^ t) : Cg (zt (2 ^ t + b) * zt (2 ^ t + b)) (cr t b) := by
  have := root_sq t ht b hb
  exact ⟨(zt (2 ^ t + b) * zt (2 ^ t + b) - cr t b) / 8380417, by omega⟩
theorem pow_sq (w : Int) : ∀ u : Nat, (w * w) ^ u = w ^ (2 * u)
  | 0 => by simp
  | u + 1 => by rw [Int.pow_succ, pow_sq w u, show 2 * (u + 1) = 2 * u + 1 + 1 by omega, Int.pow_succ, Int.pow_succ, Int.mul_assoc]
/-- Two halves of one block make the sum of twice the length. -/
theorem two_halves {x y w C : Int} {K n r : Nat} {f : Nat → Int} (hw : Cg (w * w) C) (hx : Cg x (sm K fun u => f (r + 2 * n * u) * C ^ u)) (hy : Cg y (sm K fun u => f (n + r + 2 * n * u) * C ^ u)) :
    Cg (x + w * y) (sm (2 * K) fun v => f (r + n * v) * w ^ v) := by
  refine (hx.add ((Cg.refl w).mul hy)).trans ?_
  rw [sm_mul, sm_add, sm_two]
  refine sm_cg K fun u _ => ?_
  have e1 : r + n * (2 * u) = r + 2 * n * u := by grind
  have e2 : r + n * (2 * u + 1) = n + r + 2 * n * u := by grind
  rw [e1, e2]
  have hc : Cg (C ^ u) (w ^ (2 * u)) := pow_sq w u ▸ (hw.symm.pow u)
  refine ((Cg.refl _).mul hc).add ?_
  refine ((Cg.refl w).mul ((Cg.refl _).mul hc)).trans (Cg.of_eq ?_)
  rw [Int.pow_succ]
  generalize w ^ (2 * u) = p
  generalize f (n + r + 2 * n * u) = g
  grind
theorem pow_tab2 : ∀ t, t < 8 → 256 / 2 ^ t = 2 * (128 / 2 ^ t) ∧ 256 / 2 ^ (t + 1) = 128 / 2 ^ t := by decide
theorem nt_ev (f : Nat → Int) : ∀ t, t ≤ 8 → ∀ b, b < 2 ^ t → ∀ r, r < 256 / 2 ^ t → Cg (nt f t (256 / 2 ^ t * b + r)) (sm (2 ^ t) fun u => f (r + 256 / 2 ^ t * u) * cr t b ^ u)
  | 0, _ => fun b hb r hr => by
    have : b = 0 := by simpa using hb
    subst this
    simp only [Nat.pow_zero, Nat.div_one, Nat.mul_zero, Nat.zero_add]
    refine (Cg.mod _).trans (Cg.of_eq ?_)
    simp [sm]
  | t + 1, ht => fun b' hb' r hr => by
    have ih := nt_ev f t (by omega)
    obtain ⟨p1, p2⟩ := pow_tab2 t (by omega)
    rw [p2] at hr ⊢
    rw [p1] at ih
    have hsq := fun b hb => root_sqc (t := t) (b := b) (by omega) hb
    have hcr : cr (t + 1) b' = if b' % 2 = 0 then zt (2 ^ t + b' / 2) else -zt (2 ^ t + b' / 2) := rfl
    have hnt : nt f (t + 1) = lay (2 ^ t) (128 / 2 ^ t) (nt f t) := rfl
    rw [hcr, hnt, show (2 : Nat) ^ (t + 1) = 2 * 2 ^ t by rw [Nat.pow_succ]; omega]
    rw [show (2 : Nat) ^ (t + 1) = 2 * 2 ^ t by rw [Nat.pow_succ]; omega] at hb'
    generalize 128 / 2 ^ t = n at *
    generalize 2 ^ t = K at *
    generalize nt f t = G at *
    have hbK : b' / 2 < K := by omega
    have hx := ih (b' / 2) hbK r (by omega)
    have hy := ih (b' / 2) hbK (n + r) (by omega)
    have hq := hsq (b' / 2) hbK
    by_cases he : b' % 2 = 0
    · rw [if_pos he]
      have e : n * b' + r = 2 * n * (b' / 2) + r := by
        have : b' = 2 * (b' / 2) := by omega
        generalize b' / 2 = b at *
        subst this; grind
      rw [e]
      refine (lay_lowc hr).trans ?_
      rw [Nat.add_assoc (2 * n * (b' / 2)) n r]
      exact two_halves hq hx hy
    · rw [if_neg he]
      have e : n * b' + r = 2 * n * (b' / 2) + n + r := by
        have : b' = 2 * (b' / 2) + 1 := by omega
        generalize b' / 2 = b at *
        subst this; grind
      rw [e]
      refine (lay_highc hr).trans ?_
      rw [Nat.add_assoc (2 * n * (b' / 2)) n r, Int.sub_eq_add_neg, ← Int.neg_mul]
      exact two_halves (by rw [Int.neg_mul_neg]; exact hq) hx hy
/-- A polynomial's value. -/
def evl (f : Nat → Int) (w : Int) : Int := sm 256 fun u => f u * w ^ u
theorem ntt_ev (f : Nat → Int) {b : Nat} (hb : b < 256) : Cg (ntt f b) (evl f (cr 8 b)) := by
  have h := nt_ev f 8 (Nat.le_refl 8) b hb 0 (by decide)
  have e : (256 : Nat) / 2 ^ 8 = 1 := by decide
  rw [e] at h
  simp only [Nat.one_mul, Nat.add_zero, Nat.zero_add] at h
  exact h
theorem cr_sq {t b : Nat} (ht : t < 8) (hb : b / 2 < 2 ^ t) : Cg (cr (t + 1) b * cr (t + 1) b) (cr t (b / 2)) := by
  have hcr : cr (t + 1) b = if b % 2 = 0 then zt (2 ^ t + b / 2) else -zt (2 ^ t + b / 2) := rfl
  rw [hcr]
  split
  · exact root_sqc ht hb
  · rw [Int.neg_mul_neg]; exact root_sqc ht hb
theorem cr_pow : ∀ t, t ≤ 8 → ∀ b, b < 2 ^ t → Cg (cr t b ^ (2 ^ t)) (-1)
  | 0, _ => fun b _ => Cg.of_eq (by simp [cr])
  | t + 1, ht => fun b hb => by
    have hb2 : b / 2 < 2 ^ t := by rw [Nat.pow_succ] at hb; omega
    rw [Nat.pow_succ, Nat.mul_comm, ← pow_sq]
    exact ((cr_sq (by omega) hb2).pow _).trans (cr_pow t (by omega) _ hb2)
/-- The root of place b: its power is less one. -/
theorem cr_root {b : Nat} (hb : b < 256) : Cg (cr 8 b ^ 256) (-1) := cr_pow 8 (Nat.le_refl 8) b hb
theorem ntt_mul {f g p : Nat → Int} (h : ∀ w, Cg (w ^ 256) (-1) → Cg (evl p w) (evl f w * evl g w)) : ∀ i, i < 256 → ntt f i % 8380417 * (ntt g i % 8380417) % 8380417 = ntt p i := fun i hi => by
  refine Cg.eq ?_ ⟨Int.emod_nonneg _ (by decide), Int.emod_lt_of_pos _ (by decide)⟩ (In.ntt i)
  refine (((Cg.mod _).mul (Cg.mod _)).modl).trans (((ntt_ev f hi).mul (ntt_ev g hi)).trans ?_)
  exact ((ntt_ev p hi).trans (h _ (cr_root hi))).symm
theorem evl_up {f : Nat → Int} {p : Nat} {x y w : Int} (hp : p < 256) (hx : Cg x (f p + y)) : Cg (evl (up f p x) w) (evl f w + y * w ^ p) := by
  unfold evl
  have key : ∀ n, Cg (sm n fun u => up f p x u * w ^ u) (sm n (fun u => f u * w ^ u) + if p < n then y * w ^ p else 0) := by
    intro n
    induction n with
    | zero => exact Cg.of_eq (by simp [sm])
    | succ n ih =>
      rw [sm_succ, sm_succ]
      refine (ih.add (Cg.refl _)).trans ?_
      by_cases e : n = p
      · subst e
        rw [if_neg (by omega), if_pos (by omega)]
        have : up f n x n = x := by unfold up; rw [if_pos rfl]
        rw [this]
        refine ((Cg.refl _).add (hx.mul (Cg.refl _))).trans (Cg.of_eq ?_)
        rw [Int.add_mul]; omega
      · have : up f p x n = f n := by unfold up; rw [if_neg e]
        rw [this]
        by_cases h1 : p < n
        · rw [if_pos h1, if_pos (by omega)]; exact Cg.of_eq (by omega)
        · rw [if_neg h1, if_neg (by omega)]; exact Cg.of_eq (by omega)
  have := key 256
  rwa [if_pos hp] at this
/-- One step of the product: number i of the one times number k of the other. -/
def pst (a b : Nat → Int) (i k : Nat) (c : Nat → Int) : Nat → Int :=
  if i + k < 256 then up c (i + k) ((c (i + k) + a i * b k % 8380417) % 8380417) else up c (i + k - 256) ((c (i + k - 256) - a i * b k % 8380417) % 8380417)
def prow (a b : Nat → Int) (i : Nat) (c : Nat → Int) : Nat → Nat → Int
  | 0 => c
  | k + 1 => pst a b i k (prow a b i c k)
def prd (a b : Nat → Int) : Nat → Nat → Int
  | 0 => fun _ => 0
  | i + 1 => prow a b i (prd a b i) 256
theorem In.pst {a b c : Nat → Int} {i k : Nat} (h : In c) : In (pst a b i k c) := fun j => by
  unfold Pl.pst
  split <;> unfold up <;> split
  · exact ⟨Int.emod_nonneg _ (by decide), Int.emod_lt_of_pos _ (by decide)⟩
  · exact h j
  · exact ⟨Int.emod_nonneg _ (by decide), Int.emod_lt_of_pos _ (by decide)⟩
  · exact h j
theorem In.prow {a b c : Nat → Int} {i : Nat} (h : In c) : ∀ k, In (prow a b i c k)
  | 0 => h
  | k + 1 => In.pst (In.prow h k)
theorem In.prd {a b : Nat → Int} : ∀ i, In (prd a b i)
  | 0 => fun _ => ⟨Int.le_refl 0, (by decide : (0 : Int) < 8380417)⟩
  | i + 1 => In.prow (In.prd i) 256
section
variable {a b : Nat → Int} {w : Int} (hw : Cg (w ^ 256) (-1))
include hw
theorem pst_ev {i k : Nat} (hi : i < 256) (hk : k < 256) (c : Nat → Int) : Cg (evl (pst a b i k c) w) (evl c w + a i * w ^ i * (b k * w ^ k)) := by
  unfold pst
  by_cases h : i + k < 256
  · rw [if_pos h]
    refine (evl_up h (y := a i * b k) ((Cg.mod _).trans ((Cg.refl _).add (Cg.mod _)))).trans (Cg.of_eq ?_)
    rw [Int.pow_add]; generalize w ^ i = p; generalize w ^ k = r; grind
  · rw [if_neg h]
    have hs : ∀ x y : Int, Cg ((x - y % 8380417) % 8380417) (x + -y) := fun x y => ((Cg.refl x).sub (Cg.mod y)).modl.trans (Cg.of_eq (Int.sub_eq_add_neg ..))
    refine (evl_up (by omega) (y := -(a i * b k)) (hs _ _)).trans ?_
    refine (Cg.refl _).add ?_
    have e : w ^ i * w ^ k = w ^ (i + k - 256) * w ^ 256 := by
      have h3 : i + k - 256 + 256 = i + k := by omega
      rw [← Int.pow_add, ← Int.pow_add, h3]
    have e2 : a i * b k * (w ^ i * w ^ k) = a i * w ^ i * (b k * w ^ k) := by
      generalize w ^ i = p
      generalize w ^ k = r
      grind
    rw [← e2, e]
    refine Cg.trans (Cg.of_eq ?_) ((Cg.refl (a i * b k)).mul ((Cg.refl _).mul hw.symm))
    generalize w ^ (i + k - 256) = p
    generalize a i * b k = x
    grind
theorem prow_ev {i : Nat} (hi : i < 256) (c : Nat → Int) : ∀ k, k ≤ 256 → Cg (evl (prow a b i c k) w) (evl c w + a i * w ^ i * sm k fun k => b k * w ^ k)
  | 0, _ => Cg.of_eq (by simp [prow, sm])
  | k + 1, hk => by
    refine (pst_ev hw hi (by omega) _).trans (((prow_ev hi c k (by omega)).add (Cg.refl _)).trans (Cg.of_eq ?_))
    rw [sm_succ, Int.mul_add, Int.add_assoc]
theorem prd_ev : ∀ i, i ≤ 256 → Cg (evl (prd a b i) w) ((sm i fun i => a i * w ^ i) * evl b w)
  | 0, _ => Cg.of_eq (by
      have : evl (prd a b 0) w = 0 := sm_none _ fun i _ => Int.zero_mul _
      rw [this, sm_zero, Int.zero_mul])
  | i + 1, hi => by
    refine (prow_ev hw (by omega) _ 256 (Nat.le_refl _)).trans (((prd_ev i (by omega)).add (Cg.refl _)).trans (Cg.of_eq ?_))
    rw [sm_succ _ (fun i => a i * w ^ i), Int.add_mul]; rfl
end
theorem evl_cg {f g : Nat → Int} {w : Int} (h : ∀ i, i < 256 → Cg (f i) (g i)) : Cg (evl f w) (evl g w) := sm_cg 256 fun i hi => (h i hi).mul (Cg.refl _)
/-- The product that the reference computes: its transform is the product of the transforms. -/
theorem ntt_prd (f g : Nat → Int) : ∀ i, i < 256 → ntt f i % 8380417 * (ntt g i % 8380417) % 8380417 = ntt (prd (fun i => f i % 8380417) (fun i => g i % 8380417) 256) i :=
  ntt_mul fun _ hw => (prd_ev hw 256 (Nat.le_refl _)).trans ((evl_cg fun _ _ => Cg.mod _).mul (evl_cg fun _ _ => Cg.mod _))
/-- The shift by one place. -/
def shf (f : Nat → Int) : Nat → Int := fun i => if i = 0 then (8380417 - f 255) % 8380417 else f (i - 1)
theorem sm_shift (g : Nat → Int) : ∀ n, sm (n + 1) g = g 0 + sm n fun i => g (i + 1)
  | 0 => by simp [sm]
  | n + 1 => by rw [sm_succ, sm_shift g n, sm_succ]; omega
theorem shf_ev (f : Nat → Int) {w : Int} (hw : Cg (w ^ 256) (-1)) : Cg (evl (shf f) w) (evl f w * w) := by
  unfold evl
  rw [sm_shift, sm_succ _ (fun u => f u * w ^ u)]
  have e0 : Cg (shf f 0 * w ^ 0) (-f 255) := by
    have : shf f 0 = (8380417 - f 255) % 8380417 := rfl
    rw [this, Int.pow_zero, Int.mul_one]
    exact (Cg.mod _).trans ⟨1, by omega⟩
  have e1 : sm 255 (fun i => shf f (i + 1) * w ^ (i + 1)) = (sm 255 fun u => f u * w ^ u) * w := by
    rw [Int.mul_comm, sm_mul]
    refine sm_eq 255 fun i _ => ?_
    have : shf f (i + 1) = f i := rfl
    rw [this, Int.pow_succ]; generalize w ^ i = p; grind
  rw [e1, Int.add_mul, Int.mul_assoc, ← Int.pow_succ, Int.add_comm]
  refine (Cg.refl _).add (e0.trans ?_)
  refine Cg.trans (Cg.of_eq ?_) ((Cg.refl (f 255)).mul hw.symm)
  omega
theorem evl_x {w : Int} : evl (up (fun _ => 0) 1 1) w = w := by
  unfold evl
  have key : ∀ n, sm (n + 2) (fun u => up (fun _ => 0) 1 1 u * w ^ u) = w := by
    intro n
    induction n with
    | zero => simp [sm, up, Int.pow_succ]
    | succ n ih => rw [sm_succ, ih]; simp [up]
  exact key 254
theorem evl_c {w c : Int} : evl (up (fun _ => 0) 0 c) w = c := by
  unfold evl
  have key : ∀ n, sm (n + 1) (fun u => up (fun _ => 0) 0 c u * w ^ u) = c := by
    intro n
    induction n with
    | zero => simp [sm, up]
    | succ n ih => rw [sm_succ, ih]; simp [up]
  exact key 255
theorem ntt_shf (f : Nat → Int) : ∀ i, i < 256 → ntt f i % 8380417 * (ntt (up (fun _ => 0) 1 1) i % 8380417) % 8380417 = ntt (shf fun i => f i % 8380417) i :=
  ntt_mul fun w hw => by rw [evl_x]; exact (shf_ev _ hw).trans ((evl_cg fun i _ => Cg.mod _).mul (Cg.refl _))
theorem ntt_con (f : Nat → Int) (c : Int) : ∀ i, i < 256 → ntt f i % 8380417 * (ntt (up (fun _ => 0) 0 c) i % 8380417) % 8380417 = ntt (fun i => f i % 8380417 * (c % 8380417) % 8380417) i :=
  ntt_mul fun w _ => by
    rw [evl_c, Int.mul_comm]
    unfold evl
    rw [sm_mul]
    refine sm_cg 256 fun i _ => ?_
    refine (((Cg.mod _).trans ((Cg.mod _).mul (Cg.mod _))).mul (Cg.refl _)).trans (Cg.of_eq ?_)
    generalize w ^ i = p; grind
end Go.Pl

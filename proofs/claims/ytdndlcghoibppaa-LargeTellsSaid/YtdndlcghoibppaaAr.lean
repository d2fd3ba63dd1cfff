/- Arrays of whole numbers as functions of a place. -/
import Derived.Test.YtdndlcghoibppaaSt
namespace Go.Lg
open Go
def ar (n : Nat) (k : IntKind) (f : Nat → Int) : Array Value := Array.ofFn fun i : Fin n => Value.int k (f i.1)
def up (f : Nat → Int) (i : Nat) (x : Int) : Nat → Int := fun j => if j = i then x else f j
section
variable {n : Nat} {k : IntKind} {f g : Nat → Int}
abbrev I64 (a : Int) : Prop := -9223372036854775808 ≤ a ∧ a ≤ 9223372036854775807
theorem ar_size : (ar n k f).size = n := by simp [ar]
theorem ar_size' : n = (ar n k f).size := ar_size.symm
theorem ar_sizes {k' : IntKind} : (ar n k f).size = (ar n k' g).size := by rw [ar_size, ar_size]
theorem ar_get {i : Nat} (h : i < n) : (ar n k f)[i]? = some (.int k (f i)) := by simp [ar, h]
theorem ar_geti {i : Nat} (h : i < n) : (ar n k f)[((i : Nat) : Int).toNat]? = some (.int k (f i)) := by rw [Int.toNat_natCast]; exact ar_get h
theorem ar_getz {z : Int} (h0 : 0 ≤ z) (h : z < (n : Int)) : (ar n k f)[z.toNat]? = some (.int k (f z.toNat)) := ar_get (by omega)
theorem ar_set {i : Nat} {x : Int} : (ar n k f).setIfInBounds i (.int k x) = ar n k (up f i x) := by
  apply Array.ext_getElem?
  intro j
  rw [Array.getElem?_setIfInBounds]
  by_cases h : i = j
  · subst h
    rw [if_pos rfl, ar_size]
    by_cases hi : i < n
    · rw [if_pos hi, ar_get hi]; simp [up]
    · rw [if_neg hi, Array.getElem?_eq_none (by rw [ar_size]; omega)]
  · rw [if_neg h]
    by_cases hj : j < n
    · rw [ar_get hj, ar_get hj]; simp only [up]; rw [if_neg (fun e => h e.symm)]
    · rw [Array.getElem?_eq_none (by rw [ar_size]; omega), Array.getElem?_eq_none (by rw [ar_size]; omega)]
theorem ar_one : (ar n k f).all (·.oneCell') = true := by
  rw [Array.all_eq_true]
  intro i hi
  have h := ar_get (k := k) (f := f) (show i < n by rw [ar_size] at hi; exact hi)
  rw [Array.getElem?_eq_getElem hi] at h
  rw [Option.some.inj h]; rfl
theorem ar_ext (h : ∀ i, i < n → f i = g i) : ar n k f = ar n k g := by
  apply Array.ext_getElem?
  intro j
  by_cases hj : j < n
  · rw [ar_get hj, ar_get hj, h j hj]
  · rw [Array.getElem?_eq_none (by rw [ar_size]; omega), Array.getElem?_eq_none (by rw [ar_size]; omega)]
theorem ar_inj (h : ar n k f = ar n k g) : ∀ i, i < n → f i = g i := fun i hi => by
  have h1 := ar_get (k := k) (f := f) hi
  rw [h, ar_get hi] at h1
  simpa using h1.symm
/-- The first i places of one, the others of another. -/
def fl (h g : Nat → Int) (i : Nat) : Nat → Int := fun j => if j < i then h j else g j
theorem fl_zero {h : Nat → Int} : fl h g 0 = g := by funext j; simp [fl]
theorem fl_succ {h : Nat → Int} {i : Nat} {x : Int} (hx : x = h i) : up (fl h g i) i x = fl h g (i + 1) := by
  subst hx
  funext j
  simp only [up, fl]
  by_cases h1 : j = i
  · subst h1; simp
  · rw [if_neg h1]
    by_cases h2 : j < i
    · rw [if_pos h2, if_pos (by omega)]
    · rw [if_neg h2, if_neg (by omega)]
theorem fl_all {h : Nat → Int} : ar n k (fl h g n) = ar n k h := ar_ext fun i hi => by simp [fl, hi]
end
attribute [irreducible] ar
end Go.Lg

/- Two arrays of numbers held against each other. -/
import Derived.Test.YtdndlcghoibppaaAr
namespace Go.Lg
open Go
section
variable {P : Program} {n : Nat} {F : Gh} {E : World} {vs : VS} {hs : HS}
variable {d : Option Nat} {ty : TypeId} {pos : String} {af : Array Edge} {g : Option (Nat × Bool)}
theorem forIn_pass {β : Type} (f : Nat → β → Sem (ForInStep β)) (b : β) (w : World) (m : Nat) (h : ∀ i, i < m → (f i b).run P w = .ok (.yield b) w) : (forIn [0:m] b f : Sem β).run P w = .ok b w := by
  rw [Std.Legacy.Range.forIn_eq_forIn_range']
  have key : ∀ (l : List Nat), (∀ i ∈ l, i < m) → (forIn l b f : Sem β).run P w = .ok b w := by
    intro l
    induction l with
    | nil => intro _; rfl
    | cons a l ih =>
      intro hl
      rw [List.forIn_cons, Sem.run_bind, h a (hl a List.mem_cons_self)]
      exact ih fun i hi => hl i (List.mem_cons_of_mem _ hi)
  refine key _ fun i hi => ?_
  simp [List.mem_range', Std.Legacy.Range.size] at hi
  omega
theorem run_equalIn_arr (T : TT P) {t e : TypeId} {k : IntKind} {len : Nat} {xt xe : TI} (h1 : getT T.l t = some xt) (h1' : xt.desc = .array len e) (h2 : getT T.l e = some xe) (h2' : xe.desc = .int k) (h2s : xe.size = 1)
    {a b : Nat → Int} (hab : ∀ i, i < len → a i = b i) (dp : Nat) (w : World) : (Op.equalIn (dp + 2) t (.agg (ar len k a)) (.agg (ar len k b))).run P w = .ok true w := by
  rw [Op.equalIn]
  simp only [Sem.run_bind, run_underlying (T.ok _ _ h1).1, h1', Result.andThen_ok, TI.run_size (T.ok _ _ h2), h2s, Nat.mul_one]
  rw [forIn_pass (b := ((none, ()) : Option Bool × Unit)) (h := fun i hi => ?_)]
  · rfl
  · have hp : ∀ c : Nat → Int, (part e (ar len k c) i).run P w = .ok (.int k (c i)) w := fun c => part_one T h2 (by rw [h2']; rfl) (ar_get hi) w
    simp only [Sem.run_bind, hp, Result.andThen_ok, Op.equalIn, run_underlying (T.ok _ _ h2).1, h2', hab i hi]
    simp
theorem yl_eqa (T : TT P) {t e yt : TypeId} {x y : Operand} {k : IntKind} {len : Nat} {xt xe : TI} (h1 : getT T.l t = some xt) (h1' : xt.desc = .array len e) (h2 : getT T.l e = some xe) (h2' : xe.desc = .int k) (h2s : xe.size = 1)
    (hg : P.eqGuardType P.depth t = false) {a b : Nat → Int} (hx : ev vs x = some (.agg (ar len k a))) (hy : ev vs y = some (.agg (ar len k b))) (hab : ∀ i, i < len → a i = b i) : Yl P n F E vs hs ⟨d, .binOp .eql t x y yt, ty, pos, af, g⟩ (.bool true) := fun A w ha _ => by
  have h : (Op.equalIn Op.maxDepth t (.agg (ar len k a)) (.agg (ar len k b))).run P w = .ok true w := run_equalIn_arr T h1 h1' h2 h2' h2s hab 9998 w
  simp only [execOp, ha.eval hx, ha.eval hy, Sem.run_bind, eqGuard, binOp, Op.equal]
  simp [hg, h]
end
end Go.Lg

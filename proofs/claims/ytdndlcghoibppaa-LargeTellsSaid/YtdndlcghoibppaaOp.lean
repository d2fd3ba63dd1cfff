/- What each operation yields, or does to the blocks of a call's own. -/
import Derived.Test.YtdndlcghoibppaaDr
namespace Go.Lg
open Go

structure TI where
  desc : TypeDesc
  size : Nat
  bytes : Nat
  zero : Value
def TI.is (P : Program) (t : Nat) (x : TI) : Prop := P.underlying t = some x.desc ∧ (P.info? t).map (fun i => (i.size, i.bytes, i.zero)) = some (x.size, x.bytes, some x.zero)
def getT : List (Nat × TI) → Nat → Option TI
  | [], _ => none
  | (k, v) :: r, t => bif Nat.beq k t then some v else getT r t
/-- What is known of a program's types. -/
structure TT (P : Program) where
  l : List (Nat × TI)
  ok : ∀ t x, getT l t = some x → TI.is P t x
theorem getT_nil {P : Program} : ∀ t x, getT [] t = some x → TI.is P t x := fun t x h => by simp [getT] at h
theorem getT_cons {P : Program} {k : Nat} {v : TI} {r : List (Nat × TI)} (hv : TI.is P k v) (hr : ∀ t x, getT r t = some x → TI.is P t x) : ∀ t x, getT ((k, v) :: r) t = some x → TI.is P t x := by
  intro t x h
  simp only [getT] at h
  cases hb : Nat.beq k t with
  | true =>
    have e : k = t := Nat.eq_of_beq_eq_true hb
    subst e
    simp only [hb, cond_true, Option.some.injEq] at h
    exact h ▸ hv
  | false => simp only [hb, cond_false] at h; exact hr t x h
def aggD : TypeDesc → Bool
  | .struct _ | .array _ _ => true
  | _ => false
theorem run_isAgg' {P : Program} {t : TypeId} {d : TypeDesc} (h : P.underlying t = some d) (w : World) : (isAgg t).run P w = .ok (aggD d) w := by
  unfold isAgg
  rw [Sem.run_bind, run_underlying h w]
  cases d <;> rfl
theorem TI.size_eq {P : Program} {t : Nat} {x : TI} (h : TI.is P t x) : (P.info? t).map (·.size) = some x.size := by
  have := h.2
  cases hi : P.info? t with
  | none => simp [hi] at this
  | some i => simp [hi] at this; simp [this.1]
theorem TI.run_size {P : Program} {t : Nat} {x : TI} (h : TI.is P t x) (w : World) : (sizeOf t).run P w = .ok x.size w := by
  have := h.2
  cases hi : P.info? t with
  | none => simp [hi] at this
  | some i => simp [hi] at this; simp [sizeOf, typeInfo, hi, this.1]
theorem TI.run_zero {P : Program} {t : Nat} {x : TI} (h : TI.is P t x) (w : World) : (zeroValue t).run P w = .ok x.zero w := by
  have := h.2
  cases hi : P.info? t with
  | none => simp [hi] at this
  | some i => simp [hi] at this; simp [zeroValue, typeInfo, hi, this.2.2]

section
variable {P : Program} {n : Nat} {F : Gh} {E : World} {vs : VS} {hs : HS} {Q : Exit → Act → World → Prop} {ops : Array Oper}
variable {d : Option Nat} {ty : TypeId} {pos : String} {af : Array Edge} {g : Option (Nat × Bool)}

/-! ### Numbers -/
theorem yl_neg {t : TypeId} {x : Operand} {k : IntKind} {a : Int} (hx : ev vs x = some (.int k a)) : Yl P n F E vs hs ⟨d, .unOp .neg t x, ty, pos, af, g⟩ (.int k (k.wrap (0 - a))) := fun A w ha _ => by
  simp only [execOp, ha.eval hx]; rfl
theorem yl_not {t : TypeId} {x : Operand} {b : Bool} (hx : ev vs x = some (.bool b)) : Yl P n F E vs hs ⟨d, .unOp .not t x, ty, pos, af, g⟩ (.bool (!b)) := fun A w ha _ => by
  simp only [execOp, ha.eval hx]; rfl
theorem yl_conv (T : TT P) {s u : TypeId} {x : Operand} {k k' : IntKind} {a : Int} {i j : TI} (hx : ev vs x = some (.int k a)) (h1 : getT T.l s = some i) (h2 : getT T.l u = some j) (h3 : j.desc = .int k') :
    Yl P n F E vs hs ⟨d, .convert s u x, ty, pos, af, g⟩ (.int k' (k'.wrap a)) := fun A w ha _ => by
  simp only [execOp, ha.eval hx, convert, Sem.run_bind, run_underlying (T.ok _ _ h1).1, run_underlying (T.ok _ _ h2).1, h3, Result.andThen_ok]
  cases i.desc <;> rfl
theorem yl_shr {t yt : TypeId} {x y : Operand} {k k' : IntKind} {a b : Int} (hx : ev vs x = some (.int k a)) (hy : ev vs y = some (.int k' b)) (hb : 0 ≤ b) :
    Yl P n F E vs hs ⟨d, .binOp .shr t x y yt, ty, pos, af, g⟩ (.int k (a.fdiv (2 ^ min b.toNat k.bits))) := fun A w ha _ => by
  have h : ¬ b < 0 := by omega
  simp only [execOp, ha.eval hx, ha.eval hy, Sem.run_bind, run_eqGuard_int, binOp, Op.shift, h, if_false, Result.andThen_ok]
  rfl
theorem yl_shl {t yt : TypeId} {x y : Operand} {k k' : IntKind} {a b : Int} (hx : ev vs x = some (.int k a)) (hy : ev vs y = some (.int k' b)) (hb : 0 ≤ b) :
    Yl P n F E vs hs ⟨d, .binOp .shl t x y yt, ty, pos, af, g⟩ (.int k (k.wrap (a * 2 ^ min b.toNat k.bits))) := fun A w ha _ => by
  have h : ¬ b < 0 := by omega
  simp only [execOp, ha.eval hx, ha.eval hy, Sem.run_bind, run_eqGuard_int, binOp, Op.shift, h, if_false, Result.andThen_ok]
  rfl
theorem wrap64_id {a : Int} (h1 : -9223372036854775808 ≤ a) (h2 : a ≤ 9223372036854775807) : IntKind.i64.wrap a = a := by
  have e1 : IntKind.i64.bits = 64 := rfl
  have e2 : IntKind.i64.signed = true := rfl
  simp only [IntKind.wrap, e1, e2, Bool.true_and]
  have p1 : (2 : Int) ^ 64 = 18446744073709551616 := by decide
  have p2 : (2 : Int) ^ (64 - 1) = 9223372036854775808 := by decide
  rw [p1, p2]
  split <;> rename_i h <;> simp only [decide_eq_true_eq] at h <;> omega
theorem add64 {a b : Int} (h1 : -9223372036854775808 ≤ a + b) (h2 : a + b ≤ 9223372036854775807) : bi .add .i64 a b = some (.int .i64 (a + b)) := by simp only [bi, wrap64_id h1 h2]
theorem sub64 {a b : Int} (h1 : -9223372036854775808 ≤ a - b) (h2 : a - b ≤ 9223372036854775807) : bi .sub .i64 a b = some (.int .i64 (a - b)) := by simp only [bi, wrap64_id h1 h2]
theorem mul64 {a b : Int} (h1 : -9223372036854775808 ≤ a * b) (h2 : a * b ≤ 9223372036854775807) : bi .mul .i64 a b = some (.int .i64 (a * b)) := by simp only [bi, wrap64_id h1 h2]
theorem rem64 {a b : Int} (hb : b ≠ 0) (ha : 0 ≤ a) : bi .rem .i64 a b = some (.int .i64 (a % b)) := by simp only [bi, if_neg hb, Int.tmod_eq_emod_of_nonneg ha]
theorem quo64 {a b : Int} (hb : 0 < b) (ha : 0 ≤ a) (h2 : a ≤ 9223372036854775807) : bi .quo .i64 a b = some (.int .i64 (a / b)) := by
  have h1 : 0 ≤ a / b := Int.ediv_nonneg ha (Int.le_of_lt hb)
  have h3 : a / b ≤ a := Int.ediv_le_self b ha
  simp only [bi, if_neg (Int.ne_of_gt hb), Int.tdiv_eq_ediv_of_nonneg ha, wrap64_id (show -9223372036854775808 ≤ a / b by omega) (show a / b ≤ 9223372036854775807 by omega)]
theorem neg64 {a : Int} {t : TypeId} {x : Operand} (hx : ev vs x = some (.int .i64 a)) (h1 : -9223372036854775808 ≤ 0 - a) (h2 : 0 - a ≤ 9223372036854775807) : Yl P n F E vs hs ⟨d, .unOp .neg t x, ty, pos, af, g⟩ (.int .i64 (-a)) := by
  have := yl_neg (P := P) (n := n) (F := F) (E := E) (hs := hs) (d := d) (ty := ty) (pos := pos) (af := af) (g := g) (t := t) hx
  rwa [wrap64_id h1 h2, Int.zero_sub] at this
section
variable {t yt : TypeId} {x y : Operand} {a b : Int} (hx : ev vs x = some (.int .i64 a)) (hy : ev vs y = some (.int .i64 b))
include hx hy
theorem yl_add64 (h1 : -9223372036854775808 ≤ a + b) (h2 : a + b ≤ 9223372036854775807) : Yl P n F E vs hs ⟨d, .binOp .add t x y yt, ty, pos, af, g⟩ (.int .i64 (a + b)) := yl_bin hx hy (add64 h1 h2)
theorem yl_sub64 (h1 : -9223372036854775808 ≤ a - b) (h2 : a - b ≤ 9223372036854775807) : Yl P n F E vs hs ⟨d, .binOp .sub t x y yt, ty, pos, af, g⟩ (.int .i64 (a - b)) := yl_bin hx hy (sub64 h1 h2)
theorem yl_mul64 (h1 : -9223372036854775808 ≤ a * b) (h2 : a * b ≤ 9223372036854775807) : Yl P n F E vs hs ⟨d, .binOp .mul t x y yt, ty, pos, af, g⟩ (.int .i64 (a * b)) := yl_bin hx hy (mul64 h1 h2)
theorem yl_rem64 (h1 : b ≠ 0) (h2 : 0 ≤ a) : Yl P n F E vs hs ⟨d, .binOp .rem t x y yt, ty, pos, af, g⟩ (.int .i64 (a % b)) := yl_bin hx hy (rem64 h1 h2)
theorem yl_quo64 (h1 : 0 < b) (h2 : 0 ≤ a) (h3 : a ≤ 9223372036854775807) : Yl P n F E vs hs ⟨d, .binOp .quo t x y yt, ty, pos, af, g⟩ (.int .i64 (a / b)) := yl_bin hx hy (quo64 h1 h2 h3)
end
theorem bln {op : BinOp} {k : IntKind} {a b : Int} {c c' : Bool} (h : bi op k a b = some (.bool c)) (e : c = c') : bi op k a b = some (.bool c') := e ▸ h

theorem yl_cmpT {op : BinOp} {t yt : TypeId} {x y : Operand} {k : IntKind} {a b : Int} {c : Bool} (hx : ev vs x = some (.int k a)) (hy : ev vs y = some (.int k b)) (hv : bi op k a b = some (.bool c)) (hc : c = true) : Yl P n F E vs hs ⟨d, .binOp op t x y yt, ty, pos, af, g⟩ (.bool true) :=
  yl_bin hx hy (hc ▸ hv)
theorem yl_cmpF {op : BinOp} {t yt : TypeId} {x y : Operand} {k : IntKind} {a b : Int} {c : Bool} (hx : ev vs x = some (.int k a)) (hy : ev vs y = some (.int k b)) (hv : bi op k a b = some (.bool c)) (hc : c = false) : Yl P n F E vs hs ⟨d, .binOp op t x y yt, ty, pos, af, g⟩ (.bool false) :=
  yl_bin hx hy (hc ▸ hv)

/-! ### pick, tuples -/
theorem yl_pick_t {c x y : Operand} {v : Value} (hc : ev vs c = some (.bool true)) (hx : ev vs x = some v) : Yl P n F E vs hs ⟨d, .pick c x y, ty, pos, af, g⟩ v := fun A w ha _ => by
  simp only [execOp, ha.eval hc, ha.eval hx]; rfl
theorem yl_pick_f {c x y : Operand} {v : Value} (hc : ev vs c = some (.bool false)) (hy : ev vs y = some v) : Yl P n F E vs hs ⟨d, .pick c x y, ty, pos, af, g⟩ v := fun A w ha _ => by
  simp only [execOp, ha.eval hc, ha.eval hy]; rfl
theorem yl_pick {c x y : Operand} {t b1 b2 : Bool} (hc : ev vs c = some (.bool t)) (hx : ev vs x = some (.bool b1)) (hy : ev vs y = some (.bool b2)) :
    Yl P n F E vs hs ⟨d, .pick c x y, ty, pos, af, g⟩ (.bool (if t then b1 else b2)) := fun A w ha _ => by
  cases t <;> simp only [execOp, ha.eval hc, ha.eval hx, ha.eval hy] <;> rfl
theorem yl_extract {x : Operand} {i : Nat} {ws : Array Value} {v : Value} (hx : ev vs x = some (.tuple ws)) (hv : ws[i]? = some v) : Yl P n F E vs hs ⟨d, .extract x i, ty, pos, af, g⟩ v := fun A w ha _ => by
  simp only [execOp, ha.eval hx, Instr.extract, hv]; rfl

/-! ### Arrays as values -/
theorem part_one {t : TypeId} {x : TI} (T : TT P) (h : getT T.l t = some x) (ha : aggD x.desc = false) {cs : Array Value} {o : Nat} {v : Value} (hv : cs[o]? = some v) (w : World) : (part t cs o).run P w = .ok v w := by
  simp [part, Sem.run_bind, run_isAgg' (T.ok _ _ h).1, ha, hv]
theorem yl_index (T : TT P) {t e : TypeId} {x i : Operand} {k : IntKind} {z : Int} {len : Nat} {cs : Array Value} {v : Value} {xt xe : TI} (h1 : getT T.l t = some xt) (h1' : xt.desc = .array len e) (h2 : getT T.l e = some xe) (h2' : aggD xe.desc = false) (h2s : xe.size = 1)
    (hx : ev vs x = some (.agg cs)) (hi : ev vs i = some (.int k z)) (hz : 0 ≤ z ∧ z < (len : Int)) {j' : Nat} (hoj : z.toNat = j') (hv : cs[j']? = some v) : Yl P n F E vs hs ⟨d, .index t x i, ty, pos, af, g⟩ v := fun A w ha _ => by
  subst hoj
  have hv' : cs[z.toNat * xe.size]? = some v := by rw [h2s, Nat.mul_one]; exact hv
  simp only [execOp, ha.eval hx, ha.eval hi, Instr.index, asIntOf, Sem.run_bind, Sem.run_pure, Result.andThen_ok, run_underlying (T.ok _ _ h1).1, h1']
  rw [if_pos hz]
  simp only [Sem.run_bind, TI.run_size (T.ok _ _ h2), Result.andThen_ok, part_one T h2 h2' hv']

theorem forIn_range_ok {β : Type} (f : Nat → β → Sem (ForInStep β)) (b : β) (w : World) (h : ∀ i, (f i b).run P w = .ok (.yield b) w) (k : Nat) : (forIn [0:k] b f : Sem β).run P w = .ok b w := by
  rw [Std.Legacy.Range.forIn_eq_forIn_range']
  generalize List.range' _ _ _ = l
  induction l with
  | nil => rfl
  | cons a l ih => rw [List.forIn_cons, Sem.run_bind, h a]; exact ih

theorem tn_add (a b : Nat) : ((a : Int) + (b : Int)).toNat = a + b := by omega
theorem tn_num (m : Nat) : (@OfNat.ofNat Int m (@instOfNat m)).toNat = @OfNat.ofNat Nat m (instOfNatNat m) := rfl
/-! ### Addresses -/
theorem yl_idxp (T : TT P) {t e : TypeId} {x i : Operand} {k : IntKind} {j len b : Nat} {xt xe : TI} (h1 : getT T.l t = some xt) (h1' : xt.desc = .array len e) (h2 : getT T.l e = some xe) (h2s : xe.size = 1)
    (hx : ev vs x = some (.pointer (some ⟨b, 0, none⟩))) (hi : ev vs i = some (.int k (j : Int))) (hj : j < len) : Yl P n F E vs hs ⟨d, .indexAddr t x i, ty, pos, af, g⟩ (.pointer (some ⟨b, j, none⟩)) := fun A w ha _ => by
  have hz : (0 : Int) ≤ (j : Int) ∧ (j : Int) < (len : Int) := ⟨by omega, by omega⟩
  have e0 : (⟨b, 0, none⟩ : Addr).add (((j : Int)).toNat * xe.size) = ⟨b, j, none⟩ := by
    rw [h2s]; unfold Addr.add; split <;> simp_all
  simp only [execOp, ha.eval hx, ha.eval hi, Instr.indexAt, asIntOf, Sem.run_bind, Sem.run_pure, Result.andThen_ok, run_underlying (T.ok _ _ h1).1, h1', Instr.sureAddr]
  rw [if_pos hz]
  simp only [Sem.run_bind, TI.run_size (T.ok _ _ h2), Result.andThen_ok, Sem.run_pure, e0]
theorem yl_idxpz (T : TT P) {t e : TypeId} {x i : Operand} {k : IntKind} {z : Int} {len b : Nat} {xt xe : TI} (h1 : getT T.l t = some xt) (h1' : xt.desc = .array len e) (h2 : getT T.l e = some xe) (h2s : xe.size = 1)
    (hx : ev vs x = some (.pointer (some ⟨b, 0, none⟩))) (hi : ev vs i = some (.int k z)) {j' : Nat} (ho : z.toNat = j') (hz0 : 0 ≤ z) (hj : z < (len : Int)) : Yl P n F E vs hs ⟨d, .indexAddr t x i, ty, pos, af, g⟩ (.pointer (some ⟨b, j', none⟩)) := by
  subst ho
  obtain ⟨j, rfl⟩ := Int.eq_ofNat_of_zero_le hz0
  exact yl_idxp T h1 h1' h2 h2s hx hi (by omega)
theorem yl_idxs (T : TT P) {t e : TypeId} {x i : Operand} {k : IntKind} {j len cap b o : Nat} {xt xe : TI} (h1 : getT T.l t = some xt) (h1' : xt.desc = .slice e) (h2 : getT T.l e = some xe) (h2s : xe.size = 1)
    (hx : ev vs x = some (.slice (some ⟨b, o, none⟩) len cap)) (hi : ev vs i = some (.int k (j : Int))) (hj : j < len) : Yl P n F E vs hs ⟨d, .indexAddr t x i, ty, pos, af, g⟩ (.pointer (some ⟨b, o + j, none⟩)) := fun A w ha _ => by
  have hz : (0 : Int) ≤ (j : Int) ∧ (j : Int) < (len : Int) := ⟨by omega, by omega⟩
  have e0 : (⟨b, o, none⟩ : Addr).add (((j : Int)).toNat * xe.size) = ⟨b, o + j, none⟩ := by
    rw [h2s]; unfold Addr.add; split <;> simp_all
  simp only [execOp, ha.eval hx, ha.eval hi, Instr.indexAt, asIntOf, Sem.run_bind, Sem.run_pure, Result.andThen_ok, run_underlying (T.ok _ _ h1).1, h1']
  rw [if_pos hz]
  simp only [Sem.run_bind, TI.run_size (T.ok _ _ h2), Result.andThen_ok, Sem.run_pure, e0]
theorem yl_idxsz (T : TT P) {t e : TypeId} {x i : Operand} {k : IntKind} {z : Int} {len cap b o : Nat} {xt xe : TI} (h1 : getT T.l t = some xt) (h1' : xt.desc = .slice e) (h2 : getT T.l e = some xe) (h2s : xe.size = 1)
    (hx : ev vs x = some (.slice (some ⟨b, o, none⟩) len cap)) (hi : ev vs i = some (.int k z)) {j' : Nat} (ho : z.toNat = j') (hz0 : 0 ≤ z) (hj : z < (len : Int)) : Yl P n F E vs hs ⟨d, .indexAddr t x i, ty, pos, af, g⟩ (.pointer (some ⟨b, o + j', none⟩)) := by
  subst ho
  obtain ⟨j, rfl⟩ := Int.eq_ofNat_of_zero_le hz0
  exact yl_idxs T h1 h1' h2 h2s hx hi (by omega)
theorem yl_slicep (T : TT P) {t e : TypeId} {x lo hi : Operand} {k k' : IntKind} {l h len b : Nat} {xt xe : TI} (h1 : getT T.l t = some xt) (h1' : xt.desc = .array len e) (h2 : getT T.l e = some xe) (h2s : xe.size = 1)
    (hx : ev vs x = some (.pointer (some ⟨b, 0, none⟩))) (hl : ev vs lo = some (.int k (l : Int))) (hh : ev vs hi = some (.int k' (h : Int))) (h3 : l ≤ h) (h4 : h ≤ len) (h5 : l < len) :
    Yl P n F E vs hs ⟨d, .slice t x (some lo) (some hi) none, ty, pos, af, g⟩ (.slice (some ⟨b, l, none⟩) (h - l) (len - l)) := fun A w ha _ => by
  have hz : (0 : Int) ≤ (h : Int) ∧ (h : Int) ≤ (len : Int) := ⟨by omega, by omega⟩
  have hy : (0 : Int) ≤ (l : Int) ∧ (l : Int) ≤ (h : Int) := ⟨by omega, by omega⟩
  have e0 : (⟨b, 0, none⟩ : Addr).add (l * xe.size) = ⟨b, l, none⟩ := by
    rw [h2s]; unfold Addr.add; split <;> simp_all
  have e1 : ¬ len = l := by omega
  simp only [execOp, ha.eval hx, Option.map_some, Option.map_none, ha.eval hl, ha.eval hh, Instr.sliceAt, Sem.run_bind, Result.andThen_ok, run_underlying (T.ok _ _ h1).1, h1', Instr.sureAddr, Instr.sliceBounds, Instr.sliceBound, asIntOf, Sem.run_pure]
  rw [if_pos hz]
  simp only [Result.andThen_ok, Sem.run_pure, Int.toNat_natCast]
  rw [if_pos hy]
  simp only [Result.andThen_ok, Sem.run_pure, TI.run_size (T.ok _ _ h2), e0, if_neg e1]

theorem yl_slicepz (T : TT P) {t e : TypeId} {x lo hi : Operand} {k k' : IntKind} {zl zh : Int} {len b : Nat} {xt xe : TI} (h1 : getT T.l t = some xt) (h1' : xt.desc = .array len e) (h2 : getT T.l e = some xe) (h2s : xe.size = 1)
    (hx : ev vs x = some (.pointer (some ⟨b, 0, none⟩))) (hl : ev vs lo = some (.int k zl)) (hh : ev vs hi = some (.int k' zh)) {l' h' : Nat} (hol : zl.toNat = l') (hoh : zh.toNat = h') (h0 : 0 ≤ zl) (h3 : zl ≤ zh) (h4 : zh ≤ (len : Int)) (h5 : zl < (len : Int)) :
    Yl P n F E vs hs ⟨d, .slice t x (some lo) (some hi) none, ty, pos, af, g⟩ (.slice (some ⟨b, l', none⟩) (h' - l') (len - l')) := by
  subst hol hoh
  obtain ⟨l, rfl⟩ := Int.eq_ofNat_of_zero_le h0
  obtain ⟨h, rfl⟩ := Int.eq_ofNat_of_zero_le (Int.le_trans h0 h3)
  exact yl_slicep T h1 h1' h2 h2s hx hl hh (by omega) (by omega) (by omega)

/-! ### Reading blocks of the call's own -/
theorem Mem.cell {w : World} (hw : Mem hs F E w) {b : Nat} {t : TypeId} {cs : Array Value} (hm : (b, t, cs) ∈ hs) (o : Nat) : w.cell? ⟨b, o, none⟩ = cs[o]? := by
  simp [World.cell?, hw.own b t cs hm]
theorem yl_load1 (T : TT P) {t t' : TypeId} {x : Operand} {b o : Nat} {cs : Array Value} {v : Value} {xt : TI} (h1 : getT T.l t = some xt) (h1' : aggD xt.desc = false)
    (hx : ev vs x = some (.pointer (some ⟨b, o, none⟩))) (hm : (b, t', cs) ∈ hs) (hv : cs[o]? = some v) : Yl P n F E vs hs ⟨d, .load t x, ty, pos, af, g⟩ v := fun A w ha hw => by
  have hc : w.cell? ⟨b, o, none⟩ = some v := (hw.cell hm o).trans hv
  simp [execOp, ha.eval hx, Instr.loadAt, Instr.sureAddr, loadVar, run_isAgg' (T.ok _ _ h1).1, h1', hc]
theorem yl_loadN (T : TT P) {t t' : TypeId} {x : Operand} {b : Nat} {cs : Array Value} {xt : TI} (h1 : getT T.l t = some xt) (h1' : aggD xt.desc = true)
    (hx : ev vs x = some (.pointer (some ⟨b, 0, none⟩))) (hm : (b, t', cs) ∈ hs) {m : Nat} (hcs : cs.size = m) (hsz0 : xt.size = m) : Yl P n F E vs hs ⟨d, .load t x, ty, pos, af, g⟩ (.agg cs) := fun A w ha hw => by
  have hsz : xt.size = cs.size := hsz0.trans hcs.symm
  have h2 := T.ok _ _ h1
  have : (loadVar t ⟨b, 0, none⟩).run P w = .ok (.agg cs) w := by
    have h3 := (TI.size_eq h2).trans (by rw [hsz])
    have h4 := h2.1
    obtain ⟨ds, sz, bs, z⟩ := xt
    cases ds <;> simp only [aggD, Bool.false_eq_true] at h1' <;> exact run_loadVar_row (P := P) w b t' t cs (0, 0) _ (hw.own b t' cs hm) h4 rfl h3
  simp only [execOp, ha.eval hx, Instr.loadAt, Instr.sureAddr, Sem.run_bind, Sem.run_pure, Result.andThen_ok, this]

/-! ### builtins -/
theorem yl_len_slice (T : TT P) {x : Operand} {t e : TypeId} {a : Option Addr} {len cap : Nat} {xt : TI} (h1 : getT T.l t = some xt) (h1' : xt.desc = .slice e) (hx : ev vs x = some (.slice a len cap)) :
    Yl P n F E vs hs ⟨d, .call { callee := .builtin .len, args := #[x], argTypes := #[t] }, ty, pos, af, g⟩ (.int .i64 len) := fun A w ha hw => by
  simp [execOp, resolve, invoke, builtin, ha.eval hx, Builtin.len_, run_underlying (T.ok _ _ h1).1, h1', goInt]
theorem yl_len_array (T : TT P) {x : Operand} {t e : TypeId} {v : Value} {len : Nat} {xt : TI} (h1 : getT T.l t = some xt) (h1' : xt.desc = .array len e) (hx : ev vs x = some v) :
    Yl P n F E vs hs ⟨d, .call { callee := .builtin .len, args := #[x], argTypes := #[t] }, ty, pos, af, g⟩ (.int .i64 len) := fun A w ha hw => by
  simp [execOp, resolve, invoke, builtin, ha.eval hx, Builtin.len_, run_underlying (T.ok _ _ h1).1, h1', goInt]
theorem yl_max3 {x y z : Operand} {ts : Array TypeId} {a b c : Int} (hx : ev vs x = some (.int .i64 a)) (hy : ev vs y = some (.int .i64 b)) (hz : ev vs z = some (.int .i64 c)) :
    Yl P n F E vs hs ⟨d, .call { callee := .builtin .max, args := #[x, y, z], argTypes := ts }, ty, pos, af, g⟩ (.int .i64 (max (max a b) c)) := fun A w ha hw => by
  have e : ∀ x y : Int, (if x < y then y else x) = max x y := fun x y => by omega
  simp [execOp, resolve, invoke, builtin, ha.eval hx, ha.eval hy, ha.eval hz, Builtin.max_, Builtin.max2, e]
end
end Go.Lg

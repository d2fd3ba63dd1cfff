/- A small logic over the kit's rules for code: what is known of a frame is a list of slots, what a call owns is a list of blocks, all other memory is a frame that stays. -/
import Derived.WalkKit
import Derived.Deep.Quiet
import Derived.KernelRfl
namespace Go.Lg
open Go

abbrev VS := List (Nat × Value)
def getS : VS → Nat → Option Value
  | [], _ => none
  | (k, v) :: r, t => bif Nat.beq k t then some v else getS r t
def ev (vs : VS) : Operand → Option Value
  | .tmp t => getS vs t
  | .const v => some v
  | .global g => some (.pointer (some ⟨g, 0, none⟩))
  | .func f => some (.func (.func f) #[] #[])
abbrev HS := List (Nat × TypeId × Array Value)
abbrev Gh := Nat → Option Obj

structure RA (n : Nat) (vs : VS) (a : Act) : Prop where
  size : a.tmps.size = n
  defers : a.defers = []
  slots : ∀ t v, getS vs t = some v → a.tmps[t]? = some v

structure Mem (hs : HS) (F : Gh) (E w : World) : Prop where
  os : w.os = E.os
  tape : w.tape = E.tape
  output : w.output = E.output
  own : ∀ b t cs, (b, t, cs) ∈ hs → w.heap[b]? = some (.cells cs t (0, 0))
  nodup : (hs.map (·.1)).Nodup
  fr : ∀ k o, F k = some o → w.heap[k]? = some o
  dis : ∀ b, b ∈ hs.map (·.1) → F b = none

theorem RA.put {n : Nat} {vs : VS} {a : Act} (h : RA n vs a) {d : Nat} (hd : d < n) (v : Value) : RA n ((d, v) :: vs) (a.put (some d) v) := by
  refine ⟨by simp [Act.put, h.size], by simp [Act.put, h.defers], fun t u ht => ?_⟩
  simp only [getS] at ht
  cases hb : Nat.beq d t with
  | true =>
    have e : d = t := Nat.eq_of_beq_eq_true hb
    subst e
    simp only [hb, cond_true, Option.some.injEq] at ht
    subst ht
    simp [Act.put, h.size, hd]
  | false =>
    have e : d ≠ t := Nat.ne_of_beq_eq_false hb
    simp only [hb, cond_false] at ht
    simp [Act.put, Array.getElem?_setIfInBounds_ne e, h.slots t u ht]

theorem RA.put' {n : Nat} {vs : VS} {a : Act} (h : RA n vs a) (d : Option Nat) (v : Value) : RA n (match d with | some d => vs.filter (fun x => !Nat.beq x.1 d) | none => vs) (a.put d v) := by
  cases d with
  | none => exact h
  | some d =>
    refine ⟨by simp [Act.put, h.size], by simp [Act.put, h.defers], fun t u ht => ?_⟩
    have key : ∀ l : VS, getS (l.filter (fun x => !Nat.beq x.1 d)) t = some u → d ≠ t ∧ getS l t = some u := by
      intro l
      induction l with
      | nil => intro h; simp [getS] at h
      | cons x l ih =>
        obtain ⟨k, v⟩ := x
        intro h
        by_cases hk : Nat.beq k d = true
        · simp only [List.filter_cons, hk, Bool.not_true, Bool.false_eq_true, if_false] at h
          obtain ⟨h1, h2⟩ := ih h
          refine ⟨h1, ?_⟩
          have e : k = d := Nat.eq_of_beq_eq_true hk
          subst e
          have : Nat.beq k t = false := by
            cases hb : Nat.beq k t with
            | true => exact absurd (Nat.eq_of_beq_eq_true hb) h1
            | false => rfl
          simp [getS, this, h2]
        · have hk' : Nat.beq k d = false := by cases hq : Nat.beq k d with
            | true => exact absurd hq hk
            | false => rfl
          simp only [List.filter_cons, hk', Bool.not_false, if_true, getS] at h ⊢
          cases hb : Nat.beq k t with
          | true =>
            have e : k = t := Nat.eq_of_beq_eq_true hb
            subst e
            refine ⟨fun e => Nat.ne_of_beq_eq_false hk' e.symm, ?_⟩
            simpa [hb] using h
          | false =>
            simp only [hb, cond_false] at h ⊢
            exact ih h
    obtain ⟨h1, h2⟩ := key vs ht
    simp [Act.put, Array.getElem?_setIfInBounds_ne h1, h.slots t u h2]

theorem RA.eval {n : Nat} {vs : VS} {a : Act} (h : RA n vs a) {x : Operand} {v : Value} (hx : ev vs x = some v) : a.eval x = v := by
  cases x with
  | tmp t => simp [Act.eval, h.slots t v hx]
  | const u => simpa [ev, Act.eval] using hx
  | global g => simpa [ev, Act.eval] using hx
  | func f => simpa [ev, Act.eval] using hx

def Sub (vs' vs : VS) : Prop := ∀ t v, getS vs' t = some v → getS vs t = some v
theorem Sub.nil (vs : VS) : Sub [] vs := fun t v h => by simp [getS] at h
theorem Sub.cons {k : Nat} {v v' : Value} {r vs : VS} (h : getS vs k = some v') (hv : v' = v) (hr : Sub r vs) : Sub ((k, v) :: r) vs := by
  intro t u ht
  simp only [getS] at ht
  cases hb : Nat.beq k t with
  | true =>
    have e : k = t := Nat.eq_of_beq_eq_true hb
    subst e
    simp only [hb, cond_true, Option.some.injEq] at ht
    rw [h, hv, ht]
  | false => simp only [hb, cond_false] at ht; exact hr t u ht
theorem RA.sub {n : Nat} {vs vs' : VS} {a : Act} (h : RA n vs a) (hs : Sub vs' vs) : RA n vs' a := ⟨h.size, h.defers, fun t v ht => h.slots t v (hs t v ht)⟩

/-- Of every frame and every memory of which this is known. -/
def RW (n : Nat) (F : Gh) (E : World) (vs : VS) (hs : HS) (X : Act → World → Prop) : Prop := ∀ a w, RA n vs a → Mem hs F E w → X a w

def WC (P : Program) (n : Nat) (F : Gh) (E : World) (vs : VS) (hs : HS) (c : Code) (Q : Exit → Act → World → Prop) : Prop := RW n F E vs hs (Code.wp P c Q)
def WO (P : Program) (n : Nat) (F : Gh) (E : World) (vs : VS) (hs : HS) (ops : Array Oper) (Q : Exit → Act → World → Prop) (l : List Oper) : Prop := RW n F E vs hs (wpList P ops Q l)
def WX (n : Nat) (F : Gh) (E : World) (vs : VS) (hs : HS) (Q : Exit → Act → World → Prop) (e : Exit) : Prop := RW n F E vs hs (Q e)
def FP (F : Gh) (E : World) (R : Value → HS → Prop) : Ending → World → Prop := fun e w' => ∃ v hs', e = .returned v ∧ Mem hs' F E w' ∧ R v hs'
/-- The contract of a function: with these arguments and these blocks of its own, whatever else there is. -/
def Fn (P : Program) (f : FuncId) (args : Array Value) (hs : HS) (F : Gh) (R : Value → HS → Prop) : Prop :=
  ∀ E w, Mem hs F E w → Calls P f args w (FP F E R)

def argS : List Value → Nat → VS
  | [], _ => []
  | v :: r, k => (k, v) :: argS r (k + 1)
theorem getS_argS (l : List Value) : ∀ (k t : Nat) (v : Value), getS (argS l k) t = some v → k ≤ t ∧ l[t - k]? = some v := by
  induction l with
  | nil => intro k t v h; simp [argS, getS] at h
  | cons x l ih =>
    intro k t v h
    simp only [argS, getS] at h
    cases hb : Nat.beq k t with
    | true =>
      have e : k = t := Nat.eq_of_beq_eq_true hb
      subst e
      simp only [hb, cond_true, Option.some.injEq] at h
      simp [h]
    | false =>
      simp only [hb, cond_false] at h
      obtain ⟨h1, h2⟩ := ih (k + 1) t v h
      refine ⟨by omega, ?_⟩
      have : t - k = (t - (k + 1)) + 1 := by omega
      rw [this]
      simpa using h2

theorem c_enter {P : Program} {f : FuncId} {fn : Func} {c : Code} {args : Array Value} {hs : HS} {F : Gh} {R : Value → HS → Prop} {n : Nat}
    (hf : P.funcs[f]? = some fn) (hb : fn.body = some c) (hn : fn.ntmps = n) (hsz : Nat.ble args.size n = true)
    (h : ∀ E, WC P n F E (argS args.toList 0) hs c (bodyPost P fn (FP F E R))) : Fn P f args hs F R := by
  intro E w hw
  refine calls_of_wp hf hb (h E _ _ ?_ hw)
  have hsz' : args.size ≤ n := Nat.le_of_ble_eq_true hsz
  refine ⟨by simp [hn]; omega, rfl, fun t v ht => ?_⟩
  obtain ⟨_, h2⟩ := getS_argS _ _ _ _ ht
  simp only [Nat.sub_zero] at h2
  have hlt : t < args.size := by
    rcases Nat.lt_or_ge t args.size with h | h
    · exact h
    · rw [List.getElem?_eq_none (by simpa using h)] at h2; cases h2
  rw [Array.getElem?_append_left hlt]
  simpa using h2

section
variable {P : Program} {n : Nat} {F : Gh} {E : World} {vs : VS} {hs : HS} {Q : Exit → Act → World → Prop} {ops : Array Oper}

theorem RW.weaken {X : Act → World → Prop} (vs' : VS) (hv : Sub vs' vs) (h : RW n F E vs' hs X) : RW n F E vs hs X := fun a w ha hw => h a w (ha.sub hv) hw

def Exit.non : Exit → Bool
  | .normal => false
  | _ => true
def Exit.oth (id : Nat) : Exit → Bool
  | .normal => false
  | .exit j => !Nat.beq j id
  | _ => true
theorem c_seq {x y : Code} (h : ∀ Q' : Exit → Act → World → Prop, (∀ vs hs, WC P n F E vs hs y Q → WX n F E vs hs Q' .normal) → (∀ vs hs e, Exit.non e = true → WX n F E vs hs Q e → WX n F E vs hs Q' e) → WC P n F E vs hs x Q') :
    WC P n F E vs hs (Code.seq x y) Q := fun a w ha hw => wp_seq (h (Exit.then (Code.wp P y Q) Q) (fun _ _ h => h) (fun vs hs e he h => by cases e <;> first | (cases he; done) | exact h) a w ha hw)
theorem c_skip (h : WX n F E vs hs Q .normal) : WC P n F E vs hs .skip Q := fun a w ha hw => wp_skip (h a w ha hw)
theorem c_ret (h : WX n F E vs hs Q .ret) : WC P n F E vs hs .ret Q := fun a w ha hw => wp_ret (h a w ha hw)
theorem c_exit {id : Nat} (h : WX n F E vs hs Q (.exit id)) : WC P n F E vs hs (.exit id) Q := fun a w ha hw => wp_exit (h a w ha hw)
theorem c_block {id : Nat} {c : Code} (h : ∀ Q' : Exit → Act → World → Prop, (∀ vs hs, WX n F E vs hs Q .normal → WX n F E vs hs Q' .normal) → (∀ vs hs, WX n F E vs hs Q .normal → WX n F E vs hs Q' (.exit id)) →
    (∀ vs hs e, Exit.oth id e = true → WX n F E vs hs Q e → WX n F E vs hs Q' e) → WC P n F E vs hs c Q') : WC P n F E vs hs (.block id c) Q := fun a w ha hw =>
  wp_block (h (Exit.inBlock id Q) (fun _ _ h => h) (fun vs hs h a w ha hw => by show Exit.inBlock id Q (.exit id) a w; simp only [Exit.inBlock, if_true]; exact h a w ha hw)
    (fun vs hs e he h => by
      cases e with
      | normal => cases he
      | exit j =>
        intro a w ha hw
        show Exit.inBlock id Q (.exit j) a w
        have hj : j ≠ id := Nat.ne_of_beq_eq_false (by simpa [Exit.oth] using he)
        simp only [Exit.inBlock, if_neg hj]
        exact h a w ha hw
      | _ => exact h) a w ha hw)
theorem wpList_ops (ops ops' : Array Oper) : ∀ (l : List Oper), (l.all fun o => o.guard.isNone) = true → ∀ a w, wpList P ops Q l a w → wpList P ops' Q l a w
  | [], _, _, _, h => h
  | o :: l, hg, a, w, h => by
    simp only [List.all_cons, Bool.and_eq_true] at hg
    have hgn : o.guard = none := by simpa using hg.1
    unfold wpList at h ⊢
    rw [if_pos (by simp [Region.wanted, hgn])] at h ⊢
    exact h.imp (Oper.wp_mono fun a' w' h' => wpList_ops ops ops' l hg.2 a' w' h') id
theorem c_region0 {id : Nat} {l : List Oper} (hg : (l.all fun o => o.guard.isNone) = true) (h : ∀ ops, WO P n F E vs hs ops Q l) : WC P n F E vs hs (.region id l.toArray false) Q := fun a w ha hw =>
  wp_region_lit (wpList_ops #[] _ l hg a w (h #[] a w ha hw))
theorem c_region {id : Nat} {l : List Oper} (h : WO P n F E vs hs l.toArray Q l) : WC P n F E vs hs (.region id l.toArray false) Q := fun a w ha hw => wp_region_lit (h a w ha hw)
theorem c_nil (h : WX n F E vs hs Q .normal) : WO P n F E vs hs ops Q [] := fun a w ha hw => wpList_nil (h a w ha hw)
theorem c_cond {c : Operand} {x y : Code} {t : Bool} (hc : ev vs c = some (.bool t)) (h1 : t = true → WC P n F E vs hs x Q) (h2 : t = false → WC P n F E vs hs y Q) :
    WC P n F E vs hs (.cond c x y) Q := fun a w ha hw =>
  wp_cond_split (ha.eval hc) (fun e => h1 e a w ha hw) (fun e => h2 e a w ha hw)
theorem c_condT {c : Operand} {x y : Code} {t : Bool} (hc : ev vs c = some (.bool t)) (ht : t = true) (h1 : WC P n F E vs hs x Q) :
    WC P n F E vs hs (.cond c x y) Q := c_cond hc (fun _ => h1) (fun e => by rw [ht] at e; cases e)
theorem c_condF {c : Operand} {x y : Code} {t : Bool} (hc : ev vs c = some (.bool t)) (ht : t = false) (h2 : WC P n F E vs hs y Q) :
    WC P n F E vs hs (.cond c x y) Q := c_cond hc (fun e => by rw [ht] at e; cases e) (fun _ => h2)

/-- The head of a loop's next round: a state of the family, farther down. -/
def LI {α : Type} (n : Nat) (F : Gh) (E : World) (V : α → VS) (H : α → HS) (ok : α → Prop) (m : α → Nat) (x : α) : Act → World → Prop := fun a w => ∃ y, ok y ∧ m y < m x ∧ RA n (V y) a ∧ Mem (H y) F E w
theorem c_loop {α : Type} {c : Code} (V : α → VS) (H : α → HS) (ok : α → Prop) (m : α → Nat) (x0 : α) (h0 : ok x0) (hv : Sub (V x0) vs) (hh : H x0 = hs)
    (round' : ∀ x, ok x → ∀ Q' : Exit → Act → World → Prop, (∀ y vs hs, ok y → m y < m x → Sub (V y) vs → hs = H y → WX n F E vs hs Q' .normal) → (∀ vs hs e, Exit.non e = true → WX n F E vs hs Q e → WX n F E vs hs Q' e) →
      WC P n F E (V x) (H x) c Q') : WC P n F E vs hs (.loop c) Q := by
  have round : ∀ x, ok x → WC P n F E (V x) (H x) c (Exit.then (LI n F E V H ok m x) Q) := fun x hx => round' x hx _
    (fun y vs hs hy hm hv hh _ _ ha hw => ⟨y, hy, hm, ha.sub hv, hh ▸ hw⟩) (fun vs hs e he h => by cases e <;> first | (cases he; done) | exact h)
  intro a w ha hw
  intro b k cs
  have key : ∀ (d : Nat) (x : α), m x = d → ok x → ∀ a w, RA n (V x) a → Mem (H x) F E w →
      ∃ e a' w', Q e a' w' ∧ Arrives P (lone (b.at a (.code c :: .inLoop c :: k)) cs w) b k cs e a' w' := by
    intro d
    induction d using Nat.strongRecOn with
    | _ d ih =>
      intro x hd hx a w ha hw
      obtain ⟨e, a1, w1, hq, harr⟩ := round x hx a w ha hw b (.inLoop c :: k) cs
      cases e with
      | normal =>
        obtain ⟨y, hy, hlt, ha1, hw1⟩ := hq
        obtain ⟨e2, a2, w2, hq2, harr2⟩ := ih (m y) (hd ▸ hlt) y rfl hy a1 w1 ha1 hw1
        exact ⟨e2, a2, w2, hq2, .of_steps (Steps.trans harr (.one step_inLoop)) harr2⟩
      | exit id => exact ⟨_, a1, w1, hq, .pass (x := .inLoop c) rfl (fun _ _ => .inl (by simp)) harr⟩
      | goto l => exact ⟨_, a1, w1, hq, .pass (x := .inLoop c) rfl (fun _ _ => .inl (by simp)) harr⟩
      | ret => exact ⟨_, a1, w1, hq, .pass (x := .inLoop c) rfl (fun _ _ => .inl (by simp)) harr⟩
      | panic ch => exact ⟨_, a1, w1, hq, .pass (x := .inLoop c) rfl (fun _ _ => .inl (by simp)) harr⟩
      | outgrown => exact ⟨_, a1, w1, hq, .pass (x := .inLoop c) rfl (fun _ _ => .inl (by simp)) harr⟩
  obtain ⟨e, a', w', hq, harr⟩ := key _ x0 rfl h0 a w (ha.sub hv) (hh ▸ hw)
  exact ⟨e, a', w', hq, .of_steps (.one step_loop) harr⟩
/-- What an operation yields, in every such frame and memory; the memory stays. -/
def Yl (P : Program) (n : Nat) (F : Gh) (E : World) (vs : VS) (hs : HS) (o : Oper) (v : Value) : Prop :=
  ∀ a w, RA n vs a → Mem hs F E w → (execOp a.eval o).run P w = .ok (.value v) w

theorem s_op {d : Nat} {op : Op} {ty : TypeId} {pos : String} {af : Array Edge} {rest : List Oper} {v : Value} (hy : Yl P n F E vs hs ⟨some d, op, ty, pos, af, none⟩ v) (hd : Nat.blt d n = true)
    (h : WO P n F E ((d, v) :: vs) hs ops Q rest) : WO P n F E vs hs ops Q (⟨some d, op, ty, pos, af, none⟩ :: rest) := fun a w ha hw =>
  wpList_plain rfl fun K hK => by
    unfold Oper.wp
    rw [hy a w ha hw]
    exact hK _ _ (h _ w (ha.put (Nat.le_of_ble_eq_true hd) v) hw)

theorem yl_move {d : Option Nat} {x : Operand} {ty : TypeId} {pos : String} {af : Array Edge} {g : Option (Nat × Bool)} {v : Value} (hx : ev vs x = some v) : Yl P n F E vs hs ⟨d, .move x, ty, pos, af, g⟩ v := fun a w ha _ => by
  simp only [execOp, ha.eval hx]; rfl
theorem yl_assign {d : Option Nat} {x : Operand} {ty : TypeId} {pos : String} {af : Array Edge} {g : Option (Nat × Bool)} {v : Value} (hx : ev vs x = some v) : Yl P n F E vs hs ⟨d, .assign x, ty, pos, af, g⟩ v := fun a w ha _ => by
  simp only [execOp, ha.eval hx]; rfl

/-- What an operation on two integers of one kind makes (shifts apart). -/
def bi (op : BinOp) (k : IntKind) (a b : Int) : Option Value :=
  match op with
  | .add => some (.int k (k.wrap (a + b)))
  | .sub => some (.int k (k.wrap (a - b)))
  | .mul => some (.int k (k.wrap (a * b)))
  | .quo => if b = 0 then none else some (.int k (k.wrap (a.tdiv b)))
  | .rem => if b = 0 then none else some (.int k (a.tmod b))
  | .and => some (.int k (k.wrap (BitVec.ofInt k.bits a &&& BitVec.ofInt k.bits b).toNat))
  | .or => some (.int k (k.wrap (BitVec.ofInt k.bits a ||| BitVec.ofInt k.bits b).toNat))
  | .xor => some (.int k (k.wrap (BitVec.ofInt k.bits a ^^^ BitVec.ofInt k.bits b).toNat))
  | .andNot => some (.int k (k.wrap (BitVec.ofInt k.bits a &&& ~~~BitVec.ofInt k.bits b).toNat))
  | .eql => some (.bool (a == b))
  | .neq => some (.bool (a != b))
  | .lss => some (.bool (a < b))
  | .leq => some (.bool (a ≤ b))
  | .gtr => some (.bool (a > b))
  | .geq => some (.bool (a ≥ b))
  | _ => none
theorem run_binOp_int {w : World} {op : BinOp} {t : TypeId} {k : IntKind} {a b : Int} {v : Value} (h : bi op k a b = some v) : (binOp op t (.int k a) (.int k b)).run P w = .ok v w := by
  cases op <;> simp only [bi, Option.some.injEq, reduceCtorEq] at h <;>
    first
    | (subst h; simp [binOp, Op.intArith, Op.intBits, Op.intCmp, pure]; done)
    | (by_cases hb : b = 0
       · simp [hb] at h
       · simp only [hb, if_false, Option.some.injEq] at h
         subst h
         simp [binOp, Op.intDiv, hb, pure])
theorem run_eqGuard_int {w : World} {op : BinOp} {t : TypeId} {x y : Operand} {k k' : IntKind} {a b : Int} : (eqGuard op t x y (.int k a) (.int k' b)).run P w = .ok () w := by
  cases op <;> simp [eqGuard, pure]
theorem yl_bin {d : Option Nat} {op : BinOp} {t yt : TypeId} {x y : Operand} {ty : TypeId} {pos : String} {af : Array Edge} {g : Option (Nat × Bool)} {k : IntKind} {a b : Int} {v : Value}
    (hx : ev vs x = some (.int k a)) (hy : ev vs y = some (.int k b)) (hv : bi op k a b = some v) : Yl P n F E vs hs ⟨d, .binOp op t x y yt, ty, pos, af, g⟩ v := fun A w ha _ => by
  simp only [execOp, ha.eval hx, ha.eval hy, Sem.run_bind, run_eqGuard_int, run_binOp_int hv, Result.andThen_ok]
  rfl
end
end Go.Lg

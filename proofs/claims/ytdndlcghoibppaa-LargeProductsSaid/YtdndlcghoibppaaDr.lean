/- A region that draws its order: a head whose operations only yield (whatever comes first), a tail that waits for all before it: one walk in the text's order. -/
import Derived.Test.YtdndlcghoibppaaLg
namespace Go.Lg
open Go
section
variable {P : Program} {C : World → Prop}

def edgeB (ops : Array Oper) (i j : Nat) : Bool := match ops[i]? with
  | some o => o.after.any fun e => Region.binds .any e && Nat.beq e.on j
  | none => false
def dstOf (ops : Array Oper) (i : Nat) : Option Nat := (ops[i]?).bind (·.dst)
def looksOf (ops : Array Oper) (i : Nat) : List Nat := match ops[i]? with
  | some o => o.looksAt ops
  | none => []
def ltRange (n : Nat) (f : Nat → Bool) : Bool := (List.range n).all f
/-- What an operation does to memory: nothing, and it does not look; nothing that is to be seen; a store. -/
inductive Kd where
  | pure
  | quiet
  | store
  deriving DecidableEq
def kindOf : Op → Kd
  | .move _ | .assign _ | .pick .. | .binOp .. | .unOp .. | .index .. | .indexAddr .. | .slice .. | .extract .. | .build .. | .field .. | .makeFunc .. => .pure
  | .store .. => .store
  | _ => .quiet
def kdOf (ops : Array Oper) (i : Nat) : Kd := match ops[i]? with
  | some o => kindOf o.op
  | none => .quiet
/-- Each operation waits for what it reads, and is waited for by what overwrites; a store waits for all that look at memory ahead of it, and all behind it that look wait for it. -/
def drawOk (ops : Array Oper) : Bool :=
  Region.noSelect ops &&
  (ltRange ops.size fun i => ltRange ops.size fun j => Nat.beq i j ||
    ((match dstOf ops j with
      | some d => !(looksOf ops i).contains d || (if j < i then edgeB ops i j else edgeB ops j i)
      | none => true) &&
     (match dstOf ops i, dstOf ops j with
      | some d, some e => !(Nat.beq d e) || (if j < i then edgeB ops i j else edgeB ops j i)
      | _, _ => true))) &&
  (ltRange ops.size fun i => !(decide (kdOf ops i = .store)) || ltRange ops.size fun j => Nat.beq i j || decide (kdOf ops j = .pure) || (if j < i then edgeB ops i j else edgeB ops j i)) &&
  (ltRange ops.size fun k => match ops[k]? with
    | some o => o.after.all fun e => !Region.binds .any e || Nat.blt e.on k
    | none => true)

theorem ltRange_spec {n : Nat} {f : Nat → Bool} (h : ltRange n f = true) {i : Nat} (hi : i < n) : f i = true := List.all_eq_true.1 h i (List.mem_range.2 hi)
theorem edgeB_spec {ops : Array Oper} {i j : Nat} (h : edgeB ops i j = true) : ∃ o, ops[i]? = some o ∧ ∃ e ∈ o.after, Region.binds .any e = true ∧ e.on = j := by
  unfold edgeB at h
  split at h
  · rename_i o ho
    obtain ⟨e, he, hb⟩ := Array.any_eq_true'.1 h
    simp only [Bool.and_eq_true] at hb
    exact ⟨o, ho, e, he, hb.1, Nat.eq_of_beq_eq_true hb.2⟩
  · cases h

/-- What a slot holds when those of the first k operations that are listed have been carried out. -/
def fT (ops : Array Oper) (val : Nat → Value) (A0 : Act) (S : Nat → Bool) : Nat → Nat → Option Value
  | 0, t => A0.tmps[t]?
  | k + 1, t => if S k = true ∧ dstOf ops k = some t ∧ t < A0.tmps.size then some (val k) else fT ops val A0 S k t
theorem fT_above {ops : Array Oper} {val : Nat → Value} {A0 : Act} {S : Nat → Bool} {t i : Nat} : ∀ (d : Nat), (∀ j, i ≤ j → j < i + d → dstOf ops j = some t → S j = false) → fT ops val A0 S (i + d) t = fT ops val A0 S i t
  | 0, _ => rfl
  | d + 1, h => by
    rw [show i + (d + 1) = (i + d) + 1 from rfl, fT, if_neg, fT_above d (fun j h1 h2 => h j h1 (by omega))]
    rintro ⟨h1, h2, _⟩
    rw [h (i + d) (by omega) (by omega) h2] at h1
    cases h1
theorem fT_same {ops : Array Oper} {val : Nat → Value} {A0 : Act} {S S' : Nat → Bool} {t : Nat} : ∀ (k : Nat), (∀ j, j < k → dstOf ops j = some t → S j = S' j) → fT ops val A0 S k t = fT ops val A0 S' k t
  | 0, _ => rfl
  | k + 1, h => by
    rw [fT, fT, fT_same k (fun j h1 h2 => h j (by omega) h2)]
    by_cases hd : dstOf ops k = some t
    · rw [h k (by omega) hd]
    · rw [if_neg (fun h => hd h.2.1), if_neg (fun h => hd h.2.1)]
theorem fT_big {ops : Array Oper} {val : Nat → Value} {A0 : Act} {S : Nat → Bool} {t : Nat} (ht : A0.tmps.size ≤ t) : ∀ (k : Nat), fT ops val A0 S k t = none
  | 0 => Array.getElem?_eq_none ht
  | k + 1 => by rw [fT, if_neg (fun h => by omega)]; exact fT_big ht k

structure Ag (ops : Array Oper) (val : Nat → Value) (A0 : Act) (S : Nat → Bool) (m : Nat) (a : Act) : Prop where
  size : a.tmps.size = A0.tmps.size
  defers : a.defers = A0.defers
  at_ : ∀ t : Nat, a.tmps[t]? = fT ops val A0 S m t

theorem act_ext {a b : Act} (h1 : a.defers = b.defers) (h2 : ∀ t : Nat, a.tmps[t]? = b.tmps[t]?) : a = b := by
  cases a; cases b
  simp only [Act.mk.injEq] at *
  exact ⟨Array.ext_getElem? h2, h1⟩

/-- The walk in the text's order: what each operation does, in every memory of a class; a store leads to another class. -/
def wq (P : Program) (ops : Array Oper) (K : Act → (World → Prop) → Prop) : List Oper → Act → (World → Prop) → Prop
  | [], a, C => K a C
  | o :: r, a, C =>
    if Region.wanted o (yielded ops a.tmps) then
      match kindOf o.op with
      | .pure => ∃ v, (∀ w, (execOp a.eval o).run P w = .ok (.value v) w) ∧ wq P ops K r (a.put o.dst v) C
      | .quiet => ∃ v, (∀ w, C w → o.quietAt P a C w v) ∧ wq P ops K r (a.put o.dst v) C
      | .store => o.dst = none ∧ ∃ C' : World → Prop, (∀ w, C w → ∃ w', (execOp a.eval o).run P w = .ok .skip w' ∧ C' w') ∧ wq P ops K r a C'
    else kindOf o.op ≠ .store ∧ wq P ops K r (a.put o.dst undef) C

/-- What one operation of the walk does. -/
def Does (P : Program) (o : Oper) (a : Act) (C C' : World → Prop) (v : Value) : Prop :=
  match kindOf o.op with
  | .pure => C' = C ∧ ∀ w, (execOp a.eval o).run P w = .ok (.value v) w
  | .quiet => C' = C ∧ ∀ w, C w → o.quietAt P a C w v
  | .store => o.dst = none ∧ ∀ w, C w → ∃ w', (execOp a.eval o).run P w = .ok .skip w' ∧ C' w'
/-- The walk in the text's order, told step by step. -/
structure Tr (P : Program) (ops : Array Oper) (K : Act → (World → Prop) → Prop) (k m : Nat) (val : Nat → Value) (A : Nat → Act) (Cl : Nat → World → Prop) : Prop where
  next : ∀ i, i < m → A (i + 1) = (A i).put (dstOf ops (k + i)) (val i)
  does : ∀ i o, i < m → ops[k + i]? = some o → Region.wanted o (yielded ops (A i).tmps) = true → Does P o (A i) (Cl i) (Cl (i + 1)) (val i)
  skips : ∀ i o, i < m → ops[k + i]? = some o → Region.wanted o (yielded ops (A i).tmps) = false → val i = undef ∧ Cl (i + 1) = Cl i ∧ kindOf o.op ≠ .store
  last : K (A m) (Cl m)
theorem tr_of_wq {ops : Array Oper} {K : Act → (World → Prop) → Prop} : ∀ (l : List Oper) (k : Nat) (a : Act) (C : World → Prop), (∀ j, j < l.length → l[j]? = ops[k + j]?) → wq P ops K l a C →
    ∃ val A Cl, A 0 = a ∧ Cl 0 = C ∧ Tr P ops K k l.length val A Cl
  | [], k, a, C, _, h => ⟨fun _ => undef, fun _ => a, fun _ => C, rfl, rfl, ⟨fun i hi => by simp at hi, fun i o hi => by simp at hi, fun i o hi => by simp at hi, h⟩⟩
  | o :: l, k, a, C, hl, h => by
    have h0 : ops[k]? = some o := by simpa using (hl 0 (by simp)).symm
    have hl' : ∀ j, j < l.length → l[j]? = ops[k + 1 + j]? := fun j hj => by
      have := hl (j + 1) (by simp; omega)
      simpa [Nat.add_assoc, Nat.add_comm 1 j] using this
    have go : ∀ (v : Value) (C' : World → Prop), (Region.wanted o (yielded ops a.tmps) = true → Does P o a C C' v) → (Region.wanted o (yielded ops a.tmps) = false → v = undef ∧ C' = C ∧ kindOf o.op ≠ .store) → wq P ops K l (a.put o.dst v) C' →
        ∃ val A Cl, A 0 = a ∧ Cl 0 = C ∧ Tr P ops K k (o :: l).length val A Cl := fun v C' hv hu h' => by
      obtain ⟨val, A, Cl, hA0, hC0, T⟩ := tr_of_wq l (k + 1) (a.put o.dst v) C' hl' h'
      refine ⟨fun i => match i with | 0 => v | i + 1 => val i, fun i => match i with | 0 => a | i + 1 => A i, fun i => match i with | 0 => C | i + 1 => Cl i, rfl, rfl, ?_, ?_, ?_, T.last⟩
      · intro i hi
        cases i with
        | zero => show A 0 = _; rw [hA0]; simp [dstOf, h0]
        | succ i => have := T.next i (by simp at hi; omega); simpa [Nat.add_assoc, Nat.add_comm 1 i] using this
      · intro i o' hi ho' hw
        cases i with
        | zero =>
          have : o' = o := Option.some.inj (ho'.symm.trans (by simpa using h0))
          subst this
          have := hv hw
          rw [← hC0] at this
          exact this
        | succ i => exact T.does i o' (by simp at hi; omega) (by rw [← ho']; congr 1; omega) hw
      · intro i o' hi ho' hw
        cases i with
        | zero =>
          have : o' = o := Option.some.inj (ho'.symm.trans (by simpa using h0))
          subst this
          have := hu hw
          rw [← hC0] at this
          exact this
        | succ i => exact T.skips i o' (by simp at hi; omega) (by rw [← ho']; congr 1; omega) hw
    unfold wq at h
    by_cases hw : Region.wanted o (yielded ops a.tmps) = true
    · rw [if_pos hw] at h
      cases hk : kindOf o.op with
      | pure =>
        simp only [hk] at h
        obtain ⟨v, hv, h'⟩ := h
        exact go v C (fun _ => by unfold Does; simp only [hk, true_and]; exact hv) (fun e => by rw [hw] at e; cases e) h'
      | quiet =>
        simp only [hk] at h
        obtain ⟨v, hv, h'⟩ := h
        exact go v C (fun _ => by unfold Does; simp only [hk, true_and]; exact hv) (fun e => by rw [hw] at e; cases e) h'
      | store =>
        simp only [hk] at h
        obtain ⟨hd, C', hv, h'⟩ := h
        exact go undef C' (fun _ => by unfold Does; simp only [hk]; exact ⟨hd, hv⟩) (fun e => by rw [hw] at e; cases e) (by rw [hd]; exact h')
    · rw [if_neg hw] at h
      exact go undef C (fun e => absurd e hw) (fun _ => ⟨rfl, rfl, h.1⟩) h.2

theorem Tr.slot {ops : Array Oper} {K : Act → (World → Prop) → Prop} {m : Nat} {val : Nat → Value} {A : Nat → Act} {Cl : Nat → World → Prop} (T : Tr P ops K 0 m val A Cl) : ∀ i, i ≤ m → Ag ops val (A 0) (fun _ => true) i (A i)
  | 0, _ => ⟨rfl, rfl, fun _ => rfl⟩
  | i + 1, hi => by
    have ih := T.slot i (by omega)
    rw [T.next i (by omega), Nat.zero_add]
    cases hd : dstOf ops i with
    | none =>
      refine ⟨ih.size, ih.defers, fun t => ?_⟩
      unfold fT
      rw [if_neg (fun h => by rw [hd] at h; cases h.2.1)]
      exact ih.at_ t
    | some d =>
      refine ⟨by simp [Act.put, ih.size], by simp [Act.put, ih.defers], fun t => ?_⟩
      unfold fT
      by_cases hdt : d = t
      · subst hdt
        by_cases hlt : d < (A 0).tmps.size
        · rw [if_pos ⟨rfl, hd, hlt⟩]; simp [Act.put, ih.size, hlt]
        · rw [if_neg (fun h => hlt h.2.2), fT_big (by omega)]; simp [Act.put, ih.size]; omega
      · rw [if_neg (fun h => hdt (Option.some.inj (hd.symm.trans h.2.1)))]
        simp only [Act.put, Array.getElem?_setIfInBounds_ne hdt]
        exact ih.at_ t
theorem Tr.stays {ops : Array Oper} {K : Act → (World → Prop) → Prop} {m : Nat} {val : Nat → Value} {A : Nat → Act} {Cl : Nat → World → Prop} (T : Tr P ops K 0 m val A Cl) (hsz : m ≤ ops.size) {i : Nat} (hi : i < m) (hk : kdOf ops i ≠ .store) : Cl (i + 1) = Cl i := by
  have ho : ops[i]? = some ops[i] := by simp [show i < ops.size by omega]
  have hk' : kindOf ops[i].op ≠ .store := by simpa [kdOf, ho] using hk
  cases hw : Region.wanted ops[i] (yielded ops (A i).tmps) with
  | true =>
    have := T.does i ops[i] hi (by rw [Nat.zero_add]; exact ho) hw
    unfold Does at this
    cases hq : kindOf ops[i].op with
    | pure => simp only [hq] at this; exact this.1
    | quiet => simp only [hq] at this; exact this.1
    | store => exact absurd hq hk'
  | false => exact (T.skips i ops[i] hi (by rw [Nat.zero_add]; exact ho) hw).2.1
theorem Tr.same {ops : Array Oper} {K : Act → (World → Prop) → Prop} {m : Nat} {val : Nat → Value} {A : Nat → Act} {Cl : Nat → World → Prop} (T : Tr P ops K 0 m val A Cl) (hsz : m ≤ ops.size) : ∀ (d i : Nat), i + d ≤ m → (∀ j, i ≤ j → j < i + d → kdOf ops j ≠ .store) → Cl (i + d) = Cl i
  | 0, _, _, _ => rfl
  | d + 1, i, h, hn => by
    rw [show i + (d + 1) = (i + d) + 1 from rfl, T.stays hsz (by omega) (hn (i + d) (by omega) (by omega))]
    exact T.same hsz d i (by omega) (fun j h1 h2 => hn j h1 (by omega))

/-- Where the region stands. -/
theorem rep_false (m j : Nat) : (Array.replicate m false).getD j false = false := by
  rcases Nat.lt_or_ge j m with h | h
  · simp [h]
  · simp [h]
structure Iv (ops : Array Oper) (listed : Array Bool) : Prop where
  size : listed.size = ops.size
  closed : ∀ i j, listed.getD i false = true → edgeB ops i j = true → listed.getD j false = true

theorem getD_tf {listed : Array Bool} {i : Nat} (h : listed.getD i true = false) : listed.getD i false = false ∧ i < listed.size := by
  rcases Nat.lt_or_ge i listed.size with h' | h'
  · simp [h'] at h ⊢; exact h
  · simp [Array.getElem?_eq_none h'] at h
theorem getD_ft {listed : Array Bool} {i : Nat} (hi : i < listed.size) (h : listed.getD i false = false) : listed.getD i true = false := by
  simp [hi] at h ⊢; exact h
theorem getD_set {listed : Array Bool} {i j : Nat} (hi : i < listed.size) : (listed.setIfInBounds i true).getD j false = if i = j then true else listed.getD j false := by
  by_cases h : i = j
  · subst h; simp [hi]
  · rw [if_neg h, getD_set_ne false h]

theorem ready_edges {ops : Array Oper} {listed : Array Bool} {i j : Nat} (hr : i ∈ Region.ready .any ops listed) (he : edgeB ops i j = true) : listed.getD j false = true := by
  obtain ⟨_, o, ho, hall⟩ := mem_ready.1 hr
  obtain ⟨o', ho', e, hm, hb, hon⟩ := edgeB_spec he
  have : o' = o := Option.some.inj (ho'.symm.trans ho)
  subst this
  rw [← hon]
  exact hall e hm hb
theorem Iv.set {ops : Array Oper} {listed : Array Bool} {i : Nat} (v : Iv ops listed) (hr : i ∈ Region.ready .any ops listed) : Iv ops (listed.setIfInBounds i true) := by
  have hi : i < listed.size := (getD_tf (mem_ready.1 hr).1).2
  refine ⟨by simp [v.size], fun k j hk he => ?_⟩
  rw [getD_set hi] at hk ⊢
  by_cases h1 : i = j
  · rw [if_pos h1]
  · rw [if_neg h1]
    by_cases h2 : i = k
    · subst h2; exact ready_edges hr he
    · rw [if_neg h2] at hk; exact v.closed k j hk he

def unl (listed : Array Bool) (n : Nat) : Nat := (List.range n).countP fun j => !listed.getD j false
theorem unl_set {listed : Array Bool} {i : Nat} (hi : i < listed.size) (h : listed.getD i false = false) : ∀ n, unl (listed.setIfInBounds i true) n + (if i < n then 1 else 0) = unl listed n
  | 0 => rfl
  | n + 1 => by
    have ih := unl_set hi h n
    unfold unl at *
    rw [List.range_succ, List.countP_append, List.countP_append]
    simp only [List.countP_cons, List.countP_nil, getD_set hi]
    generalize hx : (List.range n).countP (fun j => !(listed.setIfInBounds i true).getD j false) = x at ih
    generalize hy : (List.range n).countP (fun j => !listed.getD j false) = y at ih
    have hx' : (List.range n).countP (fun j => !(if i = j then true else listed.getD j false)) = x := by
      rw [← hx]; congr 1; funext j; rw [getD_set hi]
    rw [hx']
    by_cases h1 : i = n
    · subst h1
      simp only [h, if_true, Nat.lt_irrefl, if_false, Nat.lt_succ_self, Bool.not_true, Bool.not_false, Bool.false_eq_true] at ih ⊢
      omega
    · rw [if_neg h1]
      by_cases h2 : i < n
      · simp only [h2, if_true, Nat.lt_succ_of_lt h2] at ih ⊢
        omega
      · have h3 : ¬ i < n + 1 := by omega
        simp only [h2, h3, if_false] at ih ⊢
        omega

theorem region_wq {id : Nat} {Q : Exit → Act → World → Prop} {a : Act} {w : World} {l : List Oper} {C : World → Prop} (hm : P.follows .mixedOrders = true) (hB : drawOk l.toArray = true)
    (hC : C { w with drawn := w.drawn + 1 }) (h : wq P l.toArray (fun a' C' => ∀ w', C' w' → Q .normal a' w') l a C) : (Code.region id l.toArray true).wp P Q a w := by
  refine wp_region_any hm ?_
  simp only [drawOk, Bool.and_eq_true] at hB
  obtain ⟨⟨⟨hsel, hfree⟩, hstore⟩, hacyc⟩ := hB
  obtain ⟨val, A, Cl, hA0, hC0, T⟩ := tr_of_wq l 0 a C (fun j _ => by simp) h
  clear h
  subst hA0
  subst hC0
  have hsz : l.length ≤ l.toArray.size := by simp
  have hord : ∀ i j, i < l.length → j < l.length → i ≠ j → ∀ d, dstOf l.toArray j = some d → d ∈ looksOf l.toArray i ∨ dstOf l.toArray i = some d → if j < i then edgeB l.toArray i j = true else edgeB l.toArray j i = true := by
    intro i j hi hj hij d hd hor
    have := ltRange_spec (ltRange_spec hfree (by simpa using hi)) (by simpa using hj)
    have hb : Nat.beq i j = false := by
      cases hq : Nat.beq i j with
      | true => exact absurd (Nat.eq_of_beq_eq_true hq) hij
      | false => rfl
    simp only [hb, Bool.false_or, hd, Bool.and_eq_true] at this
    obtain ⟨h1, h2⟩ := this
    rcases hor with hor | hor
    · have hc : (looksOf l.toArray i).contains d = true := by simpa using hor
      simp only [hc, Bool.not_true, Bool.false_or] at h1
      split <;> simp_all
    · have hbd : Nat.beq d d = true := Nat.beq_refl d
      simp only [hor, hbd, Bool.not_true, Bool.false_or] at h2
      split <;> simp_all
  have hsto : ∀ i j, i < l.length → j < l.length → i ≠ j → kdOf l.toArray i = .store → kdOf l.toArray j ≠ .pure → if j < i then edgeB l.toArray i j = true else edgeB l.toArray j i = true := by
    intro i j hi hj hij hk hkj
    have := ltRange_spec hstore (i := i) (by simpa using hi)
    have hb : Nat.beq i j = false := by
      cases hq : Nat.beq i j with
      | true => exact absurd (Nat.eq_of_beq_eq_true hq) hij
      | false => rfl
    simp only [hk, decide_true, Bool.not_true, Bool.false_or] at this
    have := ltRange_spec this (i := j) (by simpa using hj)
    simp only [hb, Bool.false_or, hkj, decide_false] at this
    split <;> simp_all
  have hmin : ∀ (listed : Array Bool), listed.size = l.toArray.size → ∀ k, k < l.length → listed.getD k false = false → (∀ j, j < k → listed.getD j false = true) → k ∈ Region.ready .any l.toArray listed := by
    intro listed hsz k hk hun hall
    refine mem_ready.2 ⟨getD_ft (by rw [hsz]; simpa using hk) hun, l[k], by simp [hk], fun e he hb => ?_⟩
    have := ltRange_spec hacyc (i := k) (by simpa using hk)
    simp only [List.getElem?_toArray, List.getElem?_eq_getElem hk] at this
    have := Array.all_eq_true'.1 this e he
    simp only [hb, Bool.not_true, Bool.false_or] at this
    exact hall _ (Nat.le_of_ble_eq_true this)
  have key : ∀ (f : Nat) (listed : Array Bool) (a : Act) (w : World), unl listed l.length ≤ f → Iv l.toArray listed → Ag l.toArray val (A 0) (fun j => listed.getD j false) l.length a →
      (∃ p, p ≤ l.length ∧ (∀ i, i < l.length → kdOf l.toArray i = .store → (listed.getD i false = true ↔ i < p)) ∧ Cl p w) →
      wpAny P .any l.toArray Q f listed a w := by
    intro f
    induction f with
    | zero =>
      intro listed a w hu v hag ⟨p, hp, hiff, hw⟩
      have hall : ∀ j, j < l.length → listed.getD j false = true := fun j hj => by
        have h0 : unl listed l.length = 0 := by omega
        unfold unl at h0
        have := List.countP_eq_zero.1 h0 j (List.mem_range.2 hj)
        simpa using this
      have hnil : Region.ready .any l.toArray listed = [] := by
        refine List.eq_nil_iff_forall_not_mem.2 fun i hi => ?_
        obtain ⟨h1, h2⟩ := getD_tf (mem_ready.1 hi).1
        rw [hall i (by rw [v.size] at h2; simpa using h2)] at h1
        cases h1
      refine ⟨hnil, ?_⟩
      have e : a = A l.length := act_ext (hag.defers.trans (T.slot _ (Nat.le_refl _)).defers.symm) fun t => by
        rw [hag.at_ t, (T.slot _ (Nat.le_refl _)).at_ t]
        exact fT_same _ fun j hj _ => hall j hj
      have ec : Cl l.length = Cl p := by
        have := T.same hsz (l.length - p) p (by omega) fun j h1 h2 hk => by
          have := (hiff j (by omega) hk).1 (hall j (by omega))
          omega
        rwa [show p + (l.length - p) = l.length by omega] at this
      rw [e]
      exact T.last w (by rw [ec]; exact hw)
    | succ f ih =>
      intro listed a w hu v hag ⟨p, hp, hiff, hw⟩
      constructor
      · intro hnil
        have hall : ∀ b, b ≤ l.length → ∀ j, j < b → listed.getD j false = true := by
          intro b
          induction b with
          | zero => intro _ j hj; omega
          | succ b ihb =>
            intro hb j hj
            rcases Nat.lt_or_ge j b with h' | h'
            · exact ihb (by omega) j h'
            · have : j = b := by omega
              subst this
              cases hq : listed.getD j false with
              | true => rfl
              | false =>
                have := hmin listed v.size j (by omega) hq (fun j hj => ihb (by omega) j hj)
                rw [hnil] at this; cases this
        have hall := hall l.length (Nat.le_refl _)
        have e : a = A l.length := act_ext (hag.defers.trans (T.slot _ (Nat.le_refl _)).defers.symm) fun t => by
          rw [hag.at_ t, (T.slot _ (Nat.le_refl _)).at_ t]
          exact fT_same _ fun j hj _ => hall j hj
        have ec : Cl l.length = Cl p := by
          have := T.same hsz (l.length - p) p (by omega) fun j h1 h2 hk => by
            have := (hiff j (by omega) hk).1 (hall j (by omega))
            omega
          rwa [show p + (l.length - p) = l.length by omega] at this
        rw [e]
        exact T.last w (by rw [ec]; exact hw)
      · intro i hi
        obtain ⟨hiun, hisz⟩ := getD_tf (mem_ready.1 hi).1
        have him : i < l.length := by rw [v.size] at hisz; simpa using hisz
        have ho : l.toArray[i]? = some l[i] := by simp [him]
        have hkd : kdOf l.toArray i = kindOf l[i].op := by unfold kdOf; rw [ho]
        have hlook : ∀ t, t ∈ looksOf l.toArray i → a.tmps[t]? = (A i).tmps[t]? := by
          intro t ht
          rw [hag.at_ t, (T.slot i (Nat.le_of_lt him)).at_ t]
          have e1 : fT l.toArray val (A 0) (fun j => listed.getD j false) l.length t = fT l.toArray val (A 0) (fun j => listed.getD j false) i t := by
            have := fT_above (ops := l.toArray) (val := val) (A0 := A 0) (S := fun j => listed.getD j false) (t := t) (i := i) (l.length - i) (fun j hj1 hj2 hd => by
              by_cases hij : i = j
              · subst hij; exact hiun
              · have hj : j < l.length := by omega
                have := hord i j him hj hij t hd (Or.inl ht)
                rw [if_neg (by omega)] at this
                cases hq : listed.getD j false with
                | true => have := v.closed j i hq this; rw [hiun] at this; cases this
                | false => rfl)
            rwa [show i + (l.length - i) = l.length by omega] at this
          rw [e1]
          refine fT_same i fun j hj hd => ?_
          have := hord i j him (by omega) (by omega) t hd (Or.inl ht)
          rw [if_pos hj] at this
          exact ready_edges hi this
        have hwant : Region.wanted l[i] (yielded l.toArray a.tmps) = Region.wanted l[i] (yielded l.toArray (A i).tmps) := by
          unfold Region.wanted
          cases hg : l[i].guard with
          | none => rfl
          | some gw =>
            obtain ⟨g, want⟩ := gw
            have : yielded l.toArray a.tmps g = yielded l.toArray (A i).tmps g := by
              unfold yielded
              cases hd : (l.toArray[g]?).bind (·.dst) with
              | none => rfl
              | some t =>
                have hmem : t ∈ looksOf l.toArray i := by
                  unfold looksOf
                  rw [ho]
                  simp only [Oper.looksAt, hg, hd]
                  simp
                simp only [Option.bind_some, hlook t hmem]
            simp only [this]
        have hexec : execOp a.eval l[i] = execOp (A i).eval l[i] := execOp_congr l[i] (Region.noSelect_spec hsel i l[i] · · ho) fun x hx => by
          cases x with
          | tmp t =>
            have hmem : t ∈ looksOf l.toArray i := by
              unfold looksOf
              rw [ho]
              exact List.mem_append_left _ (List.mem_filterMap.2 ⟨.tmp t, by simpa using hx, rfl⟩)
            have := hlook t hmem
            simp [Act.eval, this]
          | const u => rfl
          | global g => rfl
          | func f => rfl
        -- who looks at memory finds the class of its place
        have hcl : kdOf l.toArray i ≠ .pure → Cl i w := by
          intro hnp
          rcases Nat.lt_or_ge p i with hpi | hpi
          · have := T.same hsz (i - p) p (by omega) fun j h1 h2 hk => by
              have := hsto j i (by omega) him (by omega) hk hnp
              rw [if_neg (by omega)] at this
              have := (hiff j (by omega) hk).1 (ready_edges hi this)
              omega
            rw [show p + (i - p) = i by omega] at this
            rw [this]; exact hw
          · have := T.same hsz (p - i) i (by omega) fun j h1 h2 hk => by
              have hlj := (hiff j (by omega) hk).2 (by omega)
              rcases Nat.lt_or_ge i j with h' | h'
              · have := hsto j i (by omega) him (by omega) hk hnp
                rw [if_pos h'] at this
                rw [v.closed j i hlj this] at hiun
                cases hiun
              · have : j = i := by omega
                subst this
                rw [hlj] at hiun; cases hiun
            rw [show i + (p - i) = p by omega] at this
            rw [← this]; exact hw
        have hnext : ∀ p' w', p' ≤ l.length → (∀ j, j < l.length → kdOf l.toArray j = .store → ((listed.setIfInBounds i true).getD j false = true ↔ j < p')) → Cl p' w' → wpAny P .any l.toArray Q f (listed.setIfInBounds i true) (a.put (dstOf l.toArray i) (val i)) w' := by
          intro p' w' hp' hiff' hw'
          refine ih _ _ w' (by have := unl_set hisz hiun l.length; rw [if_pos him] at this; omega) (v.set hi) ?_ ⟨p', hp', hiff', hw'⟩
          have put1 : ∀ t, dstOf l.toArray i ≠ some t → fT l.toArray val (A 0) (fun j => (listed.setIfInBounds i true).getD j false) l.length t = fT l.toArray val (A 0) (fun j => listed.getD j false) l.length t := fun t ht =>
            fT_same _ fun j _ hd => by
              simp only [getD_set hisz]
              rw [if_neg (fun e : i = j => ht (by rw [e]; exact hd))]
          cases hd : dstOf l.toArray i with
          | none => exact ⟨hag.size, hag.defers, fun t => by rw [put1 t (by rw [hd]; simp)]; exact hag.at_ t⟩
          | some d =>
            refine ⟨by simp [Act.put, hag.size], by simp [Act.put, hag.defers], fun t => ?_⟩
            by_cases hdt : d = t
            · subst hdt
              by_cases hlt : d < (A 0).tmps.size
              · have e1 := fT_above (ops := l.toArray) (val := val) (A0 := A 0) (S := fun j => (listed.setIfInBounds i true).getD j false) (t := d) (i := i + 1) (l.length - (i + 1)) (fun j hj1 hj2 hdj => by
                  have hj : j < l.length := by omega
                  have := hord i j him hj (by omega) d hdj (Or.inr hd)
                  rw [if_neg (by omega)] at this
                  simp only [getD_set hisz]
                  rw [if_neg (by omega)]
                  cases hq : listed.getD j false with
                  | true => have := v.closed j i hq this; rw [hiun] at this; cases this
                  | false => rfl)
                rw [show i + 1 + (l.length - (i + 1)) = l.length by omega] at e1
                rw [e1]
                unfold fT
                rw [if_pos ⟨by simp only [getD_set hisz, if_true], hd, hlt⟩]
                simp [Act.put, hag.size, hlt]
              · rw [fT_big (by omega)]; simp [Act.put, hag.size]; omega
            · rw [put1 t (by rw [hd]; simpa using hdt)]
              simp only [Act.put, Array.getElem?_setIfInBounds_ne hdt]
              exact hag.at_ t
        have hkeep : kdOf l.toArray i ≠ .store → ∀ w', Cl p w' → wpAny P .any l.toArray Q f (listed.setIfInBounds i true) (a.put (dstOf l.toArray i) (val i)) w' := fun hk w' hw' =>
          hnext p w' hp (fun j hj hkj => by
            rw [getD_set hisz, if_neg (fun e : i = j => hk (by rw [e]; exact hkj))]
            exact hiff j hj hkj) hw'
        have hdst : dstOf l.toArray i = l[i].dst := by simp [dstOf, ho]
        unfold wpOp
        rw [ho]
        simp only []
        rw [hwant]
        split
        · rename_i hwn
          have hdo := T.does i l[i] him (by rw [Nat.zero_add]; exact ho) hwn
          refine Or.inl ?_
          unfold Does at hdo
          cases hk : kindOf l[i].op with
          | pure =>
            simp only [hk] at hdo
            unfold Oper.wp
            rw [hexec, hdo.2 w, Oper.upon, ← hdst]
            exact hkeep (by rw [hkd, hk]; simp) w hw
          | quiet =>
            simp only [hk] at hdo
            have hnp : kdOf l.toArray i ≠ .pure := by rw [hkd, hk]; simp
            have hcw := hcl hnp
            refine Oper.wp_of_quiet (C := Cl i) (K := fun a' => ∀ w', Cl i w' → wpAny P .any l.toArray Q f (listed.setIfInBounds i true) a' w') hcw (fun _ w' hw' h' => h' w' hw') ⟨val i, fun w hw => ?_, ?_⟩
            · have := hdo.2 w hw
              unfold Oper.quietAt at *
              rwa [hexec]
            · rw [← hdst]
              intro w' hw'
              refine hnext i w' (by omega) (fun j hj hkj => ?_) hw'
              have hij : i ≠ j := fun e => by rw [← e, hkd, hk] at hkj; cases hkj
              rw [getD_set hisz, if_neg hij]
              have hs := hsto j i hj him (Ne.symm hij) hkj hnp
              constructor
              · intro hl
                rcases Nat.lt_or_ge j i with h' | h'
                · exact h'
                · rw [if_pos (by omega)] at hs
                  rw [v.closed j i hl hs] at hiun; cases hiun
              · intro hlt
                rw [if_neg (by omega)] at hs
                exact ready_edges hi hs
          | store =>
            simp only [hk] at hdo
            obtain ⟨hd0, hst⟩ := hdo
            have hnp : kdOf l.toArray i ≠ .pure := by rw [hkd, hk]; simp
            have hks : kdOf l.toArray i = .store := by rw [hkd, hk]
            obtain ⟨w', hrun, hw'⟩ := hst w (hcl hnp)
            unfold Oper.wp
            rw [hexec, hrun, Oper.upon, hd0]
            have := hnext (i + 1) w' (by omega) (fun j hj hkj => ?_) hw'
            · rw [hdst, hd0] at this; exact this
            · rw [getD_set hisz]
              by_cases hij : i = j
              · subst hij; simp
              · rw [if_neg hij]
                have hs := hsto i j him hj hij hks (by rw [hkj]; simp)
                constructor
                · intro hl
                  rcases Nat.lt_or_ge j i with h' | h'
                  · omega
                  · rw [if_neg (by omega)] at hs
                    rw [v.closed j i hl hs] at hiun; cases hiun
                · intro hlt
                  rw [if_pos (by omega)] at hs
                  exact ready_edges hi hs
        · rename_i hwn
          have hsk := T.skips i l[i] him (by rw [Nat.zero_add]; exact ho) (by simpa using hwn)
          rw [← hsk.1, ← hdst]
          exact hkeep (by rw [hkd]; exact hsk.2.2) w hw
  refine key _ _ _ _ ?_ ⟨by simp, fun i j hi => ?_⟩ ⟨rfl, rfl, fun t => ?_⟩ ⟨0, Nat.zero_le _, fun i _ _ => ⟨fun h => absurd h (by rw [rep_false]; decide), fun h => absurd h (Nat.not_lt_zero _)⟩, hC⟩
  · unfold unl
    have := List.countP_le_length (p := fun j => !(Array.replicate l.toArray.size false).getD j false) (l := List.range l.length)
    simpa using this
  · rw [rep_false] at hi; cases hi
  · have := fT_above (ops := l.toArray) (val := val) (A0 := A 0) (S := fun j => (Array.replicate l.toArray.size false).getD j false) (t := t) (i := 0) l.length (fun j _ _ _ => rep_false _ _)
    rw [Nat.zero_add] at this
    rw [this]
    rfl
end
end Go.Lg

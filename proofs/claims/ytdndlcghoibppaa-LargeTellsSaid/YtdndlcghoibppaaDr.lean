/- A region that draws its order: a head whose operations only yield (whatever comes first), a tail that waits for all before it: one walk in the text's order. -/
import Derived.Test.YtdndlcghoibppaaLg
namespace Go.Lg
open Go
section
variable {P : Program} {C : World → Prop}

def edgeB (ops : Array Oper) (i j : Nat) : Bool := match ops[i]? with
  | some o => o.after.any fun e => Region.binds .any e && Nat.beq e.on j
  | none => false
def dstOf (ops : Array Oper) (i : Nat) : Option Nat := (ops[i]?).bind (·.dst)
def looksOf (ops : Array Oper) (i : Nat) : List Nat := match ops[i]? with
  | some o => o.looksAt ops
  | none => []
def ltRange (n : Nat) (f : Nat → Bool) : Bool := (List.range n).all f
/-- What an operation does to memory: nothing, and it does not look; nothing that is to be seen; a store. -/
inductive Kd where
  | pure
  | quiet
  | store
  deriving DecidableEq
def kindOf : Op → Kd
  | .move _ | .assign _ | .pick .. | .binOp .. | .unOp .. | .index .. | .indexAddr .. | .slice .. | .extract .. | .build .. | .field .. | .makeFunc .. => .pure
  | .store .. => .store
  | _ => .quiet
def kdOf (ops : Array Oper) (i : Nat) : Kd := match ops[i]? with
  | some o => kindOf o.op
  | none => .quiet
/-- Each operation waits for what it reads, and is waited for by what overwrites; a store waits for all that look at memory ahead of it, and all behind it that look wait for it. -/
def drawOk (ops : Array Oper) : Bool :=
  Region.noSelect ops &&
  (ltRange ops.size fun i => ltRange ops.size fun j => Nat.beq i j ||
    ((match dstOf ops j with
      | some d => !(looksOf ops i).contains d || (if j < i then edgeB ops i j else edgeB ops j i)
      | none => true) &&
     (match dstOf ops i, dstOf ops j with
      | some d, some e => !(Nat.beq d e) || (if j < i then edgeB ops i j else edgeB ops j i)
      | _, _ => true))) &&
  (ltRange ops.size fun i => !(decide (kdOf ops i = .store)) || ltRange ops.size fun j => Nat.beq i j || decide (kdOf ops j = .pure) || (if j < i then edgeB ops i j else edgeB ops j i)) &&
  (ltRange ops.size fun k => match ops[k]? with
    | some o => o.after.all fun e => !Region.binds .any e || Nat.blt e.on k
    | none => true)

theorem ltRange_spec {n : Nat} {f : Nat → Bool} (h : ltRange n f = true) {i : Nat} (hi : i < n) : f i = true := List.all_eq_true.1 h i (List.mem_range.2 hi)
theorem edgeB_spec {ops : Array Oper} {i j : Nat} (h : edgeB ops i j = true) : ∃ o, ops[i]? = some o ∧ ∃ e ∈ o.after, Region.binds .any e = true ∧ e.on = j := by
  unfold edgeB at h
  split at h
  · rename_i o ho
    obtain ⟨e, he, hb⟩ := Array.any_eq_true'.1 h
    simp only [Bool.and_eq_true] at hb
    exact ⟨o, ho, e, he, hb.1, Nat.eq_of_beq_eq_true hb.2⟩
  · cases h

/-- What a slot holds when those of the first k operations that are listed have been carried out. -/
def fT (ops : Array Oper) (val : Nat → Value) (A0 : Act) (S : Nat → Bool) : Nat → Nat → Option Value
  | 0, t => A0.tmps[t]?
  | k + 1, t => if S k = true ∧ dstOf ops k = some t ∧ t < A0.tmps.size then some (val k) else fT ops val A0 S k t
theorem fT_above {ops : Array Oper} {val : Nat → Value} {A0 : Act} {S : Nat → Bool} {t i : Nat} : ∀ (d : Nat), (∀ j, i ≤ j → j < i + d → dstOf ops j = some t → S j = false) → fT ops val A0 S (i + d) t = fT ops val A0 S i t
  | 0, _ => rfl
  | d + 1, h => by
    rw [show i + (d + 1) = (i + d) + 1 from rfl, fT, if_neg, fT_above d (fun j h1 h2 => h j h1 (by omega))]
    rintro ⟨h1, h2, _⟩
    rw [h (i + d) (by omega) (by omega) h2] at h1
    cases h1
theorem fT_same {ops : Array Oper} {val : Nat → Value} {A0 : Act} {S S' : Nat → Bool} {t : Nat} : ∀ (k : Nat), (∀ j, j < k → dstOf ops j = some t → S j = S' j) → fT ops val A0 S k t = fT ops val A0 S' k t
  | 0, _ => rfl
  | k + 1, h => by
    rw [fT, fT, fT_same k (fun j h1 h2 => h j (by omega) h2)]
    by_cases hd : dstOf ops k = some t
    · rw [h k (by omega) hd]
    · rw [if_neg (fun h => hd h.2.1), if_neg (fun h => hd h.2.1)]
theorem fT_big {ops : Array Oper} {val : Nat → Value} {A0 : Act} {S : Nat → Bool} {t : Nat} (ht : A0.tmps.size ≤ t) : ∀ (k : Nat), fT ops val A0 S k t = none
  | 0 => Array.getElem?_eq_none ht
  | k + 1 => by rw [fT, if_neg (fun h => by omega)]; exact fT_big ht k

structure Ag (ops : Array Oper) (val : Nat → Value) (A0 : Act) (S : Nat → Bool) (m : Nat) (a : Act) : Prop where
  size : a.tmps.size = A0.tmps.size
  defers : a.defers = A0.defers
  at_ : ∀ t : Nat, a.tmps[t]? = fT ops val A0 S m t

theorem act_ext {a b : Act} (h1 : a.defers = b.defers) (h2 : ∀ t : Nat, a.tmps[t]? = b.tmps[t]?) : a = b := by
  cases a; cases b
  simp only [Act.mk.injEq] at *
  exact ⟨Array.ext_getElem? h2, h1⟩

/-- The walk in the text's order: what each operation does, in every memory of a class; a store leads to another class. -/
def wq (P : Program) (ops : Array Oper) (K : Act → (World → Prop) → Prop) : List Oper → Act → (World → Prop) → Prop
  | [], a, C => K a C
  | o :: r, a, C =>
    if Region.wanted o (yielded ops a.tmps) then
      match kindOf o.op with
      | .pure => ∃ v, (∀ w, (execOp a.eval o).run P w = .ok (.value v) w) ∧ wq P ops K r (a.put o.dst v) C
      | .quiet => ∃ v, (∀ w, C w → o.quietAt P a C w v) ∧ wq P ops K r (a.put o.dst v) C
      | .store => o.dst = none ∧ ∃ C' : World → Prop, (∀ w, C w → ∃ w', (execOp a.eval o).run P w = .ok .skip w' ∧ C' w') ∧ wq P ops K r a C'
    else kindOf o.op ≠ .store ∧ wq P ops K r (a.put o.dst undef) C

/-- What one operation of the walk does. -/
def Does (P : Program) (o : Oper) (a : Act) (C C' : World → Prop) (v : Value) : Prop :=
  match kindOf o.op with
  | .pure => C' = C ∧ ∀ w, (execOp a.eval o).run P w = .ok (.value v) w
  | .quiet => C' = C ∧ ∀ w, C w → o.quietAt P a C w v
  | .store => o.dst = none ∧ ∀ w, C w → ∃ w', (execOp a.eval o).run P w = .ok .skip w' ∧ C' w'
/-- The walk in the text's order, told step by step. -/
structure Tr (P : Program) (ops : Array Oper) (K : Act → (World → Prop) → Prop) (k m : Nat) (val : Nat → Value) (A : Nat → Act) (Cl : Nat → World → Prop) : Prop where
  next : ∀ i, i < m → A (i + 1) = (A i).put (dstOf ops (k + i)) (val i)
  does : ∀ i o, i < m → ops[k + i]? = some o → Region.wanted o (yielded ops (A i).tmps) = true → Does P o (A i) (Cl i) (Cl (i + 1)) (val i)
  skips : ∀ i o, i < m → ops[k + i]? = some o → Region.wanted o (yielded ops (A i).tmps) = false → val i = undef ∧ Cl (i + 1) = Cl i ∧ kindOf o.op ≠ .store
  last : K (A m) (Cl m)
theorem tr_of_wq {ops : Array Oper} {K : Act → (World → Prop) → Prop} : ∀ (l : List Oper) (k : Nat) (a : Act) (C : World → Prop), (∀ j, j < l.length → l[j]? = ops[k + j]?) → wq P ops K l a C →
    ∃ val A Cl, A 0 = a ∧ Cl 0 = C ∧ Tr P ops K k l.length val A Cl
  | [], k, a, C, _, h => ⟨fun _ => undef, fun _ => a, fun _ => C, rfl, rfl, ⟨fun i hi => by simp at hi, fun i o hi => by simp at hi, fun i o hi => by simp at hi, h⟩⟩
  | o :: l, k, a, C, hl, h => by
    have h0 : ops[k]? = some o := by simpa using (hl 0 (by simp)).symm
    have hl' : ∀ j, j < l.length → l[j]? = ops[k + 1 + j]? := fun j hj => by
      have := hl (j + 1) (by simp; omega)
      simpa [Nat.add_assoc, Nat.add_comm 1 j] using this
    have go : ∀ (v : Value) (C' : World → Prop), (Region.wanted o (yielded ops a.tmps) = true → Does P o a C C' v) → (Region.wanted o (yielded ops a.tmps) = false → v = undef ∧ C' = C ∧ kindOf o.op ≠ .store) → wq P ops K l (a.put o.dst v) C' →
        ∃ val A Cl, A 0 = a ∧ Cl 0 = C ∧ Tr P ops K k (o :: l).length val A Cl := fun v C' hv hu h' => by
      obtain ⟨val, A, Cl, hA0, hC0, T⟩ := tr_of_wq l (k + 1) (a.put o.dst v) C' hl' h'
      refine ⟨fun i => match i with | 0 => v | i + 1 => val i, fun i => match i with | 0 => a | i + 1 => A i, fun i => match i with | 0 => C | i + 1 => Cl i, rfl, rfl, ?_, ?_, ?_, T.last⟩
      · intro i hi
        cases i with
        | zero => show A 0 = _; rw [hA0]; simp [dstOf, h0]
        | succ i => have := T.next i (by simp at hi; omega); simpa [Nat.add_assoc, Nat.add_comm 1 i] using this
      · intro i o' hi ho' hw
        cases i with
        | zero =>
          have : o' = o := Option.some.inj (ho'.symm.trans (by simpa using h0))
          subst this
          have := hv hw
          rw [← hC0] at this
          exact this
        | succ i => exact T.does i o' (by simp at hi; omega) (by rw [← ho']; congr 1; omega) hw
      · intro i o' hi ho' hw
        cases i with
        | zero =>
          have : o' = o := Option.some.inj (ho'.symm.trans (by simpa using h0))
          subst this
          have := hu hw
          rw [← hC0] at this
          exact this
        | succ i => exact T.skips i o' (by simp at hi; omega) (by rw [← ho']; congr 1; omega) hw
    unfold wq at h
    by_cases hw : Region.wanted o (yielded ops a.tmps) = true
    · rw [if_pos hw] at h
      cases hk : kindOf o.op with
      | pure =>
        simp only [hk] at h
        obtain ⟨v, hv, h'⟩ := h
        exact go v C (fun _ => by unfold Does; simp only [hk, true_and]; exact hv) (fun e => by rw [hw] at e; cases e) h'
      | quiet =>
        simp only [hk] at h
        obtain ⟨v, hv, h'⟩ := h
        exact go v C (fun _ => by unfold Does; simp only [hk, true_and]; exact hv) (fun e => by rw [hw] at e; cases e) h'
      | store =>
        simp only [hk] at h
        obtain ⟨hd, C', hv, h'⟩ := h
        exact go undef C' (fun _ => by unfold Does; simp only [hk]; exact ⟨hd, hv⟩) (fun e => by rw [hw] at e; cases e) (by rw [hd]; exact h')
    · rw [if_neg hw] at h
      exact go undef C (fun e => absurd e hw) (fun _ => ⟨rfl, rfl, h.1⟩) h.2

theorem ag_slot {ops : Array Oper} {m : Nat} {val : Nat → Value} {A : Nat → Act} (hn : ∀ i, i < m → A (i + 1) = (A i).put (dstOf ops i) (val i)) : ∀ i, i ≤ m → Ag ops val (A 0) (fun _ => true) i (A i)
  | 0, _ => ⟨rfl, rfl, fun _ => rfl⟩
  | i + 1, hi => by
    have ih := ag_slot hn i (by omega)
    rw [hn i (by omega)]
    cases hd : dstOf ops i with
    | none =>
      refine ⟨ih.size, ih.defers, fun t => ?_⟩
      unfold fT
      rw [if_neg (fun h => by rw [hd] at h; cases h.2.1)]
      exact ih.at_ t
    | some d =>
      refine ⟨by simp [Act.put, ih.size], by simp [Act.put, ih.defers], fun t => ?_⟩
      unfold fT
      by_cases hdt : d = t
      · subst hdt
        by_cases hlt : d < (A 0).tmps.size
        · rw [if_pos ⟨rfl, hd, hlt⟩]; simp [Act.put, ih.size, hlt]
        · rw [if_neg (fun h => hlt h.2.2), fT_big (by omega)]; simp [Act.put, ih.size]; omega
      · rw [if_neg (fun h => hdt (Option.some.inj (hd.symm.trans h.2.1)))]
        simp only [Act.put, Array.getElem?_setIfInBounds_ne hdt]
        exact ih.at_ t
theorem Tr.stays {ops : Array Oper} {K : Act → (World → Prop) → Prop} {k m : Nat} {val : Nat → Value} {A : Nat → Act} {Cl : Nat → World → Prop} (T : Tr P ops K k m val A Cl) (hsz : k + m ≤ ops.size) {i : Nat} (hi : i < m) (hk : kdOf ops (k + i) ≠ .store) : Cl (i + 1) = Cl i := by
  have ho : ops[k + i]? = some ops[k + i] := by simp [show k + i < ops.size by omega]
  have hk' : kindOf ops[k + i].op ≠ .store := by simpa [kdOf, ho] using hk
  cases hw : Region.wanted ops[k + i] (yielded ops (A i).tmps) with
  | true =>
    have := T.does i ops[k + i] hi ho hw
    unfold Does at this
    cases hq : kindOf ops[k + i].op with
    | pure => simp only [hq] at this; exact this.1
    | quiet => simp only [hq] at this; exact this.1
    | store => exact absurd hq hk'
  | false => exact (T.skips i ops[k + i] hi ho hw).2.1
/-- Where the region stands. -/
theorem rep_false (m j : Nat) : (Array.replicate m false).getD j false = false := by
  rcases Nat.lt_or_ge j m with h | h
  · simp [h]
  · simp [h]
structure Iv (ops : Array Oper) (listed : Array Bool) : Prop where
  size : listed.size = ops.size
  closed : ∀ i j, listed.getD i false = true → edgeB ops i j = true → listed.getD j false = true

theorem getD_tf {listed : Array Bool} {i : Nat} (h : listed.getD i true = false) : listed.getD i false = false ∧ i < listed.size := by
  rcases Nat.lt_or_ge i listed.size with h' | h'
  · simp [h'] at h ⊢; exact h
  · simp [Array.getElem?_eq_none h'] at h
theorem getD_ft {listed : Array Bool} {i : Nat} (hi : i < listed.size) (h : listed.getD i false = false) : listed.getD i true = false := by
  simp [hi] at h ⊢; exact h
theorem getD_set {listed : Array Bool} {i j : Nat} (hi : i < listed.size) : (listed.setIfInBounds i true).getD j false = if i = j then true else listed.getD j false := by
  by_cases h : i = j
  · subst h; simp [hi]
  · rw [if_neg h, getD_set_ne false h]

theorem ready_edges {ops : Array Oper} {listed : Array Bool} {i j : Nat} (hr : i ∈ Region.ready .any ops listed) (he : edgeB ops i j = true) : listed.getD j false = true := by
  obtain ⟨_, o, ho, hall⟩ := mem_ready.1 hr
  obtain ⟨o', ho', e, hm, hb, hon⟩ := edgeB_spec he
  have : o' = o := Option.some.inj (ho'.symm.trans ho)
  subst this
  rw [← hon]
  exact hall e hm hb
theorem Iv.set {ops : Array Oper} {listed : Array Bool} {i : Nat} (v : Iv ops listed) (hr : i ∈ Region.ready .any ops listed) : Iv ops (listed.setIfInBounds i true) := by
  have hi : i < listed.size := (getD_tf (mem_ready.1 hr).1).2
  refine ⟨by simp [v.size], fun k j hk he => ?_⟩
  rw [getD_set hi] at hk ⊢
  by_cases h1 : i = j
  · rw [if_pos h1]
  · rw [if_neg h1]
    by_cases h2 : i = k
    · subst h2; exact ready_edges hr he
    · rw [if_neg h2] at hk; exact v.closed k j hk he

def unl (listed : Array Bool) (n : Nat) : Nat := (List.range n).countP fun j => !listed.getD j false
theorem unl_set {listed : Array Bool} {i : Nat} (hi : i < listed.size) (h : listed.getD i false = false) : ∀ n, unl (listed.setIfInBounds i true) n + (if i < n then 1 else 0) = unl listed n
  | 0 => rfl
  | n + 1 => by
    have ih := unl_set hi h n
    unfold unl at *
    rw [List.range_succ, List.countP_append, List.countP_append]
    simp only [List.countP_cons, List.countP_nil, getD_set hi]
    generalize hx : (List.range n).countP (fun j => !(listed.setIfInBounds i true).getD j false) = x at ih
    generalize hy : (List.range n).countP (fun j => !listed.getD j false) = y at ih
    have hx' : (List.range n).countP (fun j => !(if i = j then true else listed.getD j false)) = x := by
      rw [← hx]; congr 1; funext j; rw [getD_set hi]
    rw [hx']
    by_cases h1 : i = n
    · subst h1
      simp only [h, if_true, Nat.lt_irrefl, if_false, Nat.lt_succ_self, Bool.not_true, Bool.not_false, Bool.false_eq_true] at ih ⊢
      omega
    · rw [if_neg h1]
      by_cases h2 : i < n
      · simp only [h2, if_true, Nat.lt_succ_of_lt h2] at ih ⊢
        omega
      · have h3 : ¬ i < n + 1 := by omega
        simp only [h2, h3, if_false] at ih ⊢
        omega

/-- What the checks of the region's edges say. -/
structure OkD (l : List Oper) : Prop where
  sel : Region.noSelect l.toArray = true
  ord : ∀ i j, i < l.length → j < l.length → i ≠ j → ∀ d, dstOf l.toArray j = some d → d ∈ looksOf l.toArray i ∨ dstOf l.toArray i = some d → if j < i then edgeB l.toArray i j = true else edgeB l.toArray j i = true
  sto : ∀ i j, i < l.length → j < l.length → i ≠ j → kdOf l.toArray i = .store → kdOf l.toArray j ≠ .pure → if j < i then edgeB l.toArray i j = true else edgeB l.toArray j i = true
  min : ∀ (listed : Array Bool), listed.size = l.toArray.size → ∀ k, k < l.length → listed.getD k false = false → (∀ j, j < k → listed.getD j false = true) → k ∈ Region.ready .any l.toArray listed
theorem okD_of {l : List Oper} (hB : drawOk l.toArray = true) : OkD l := by
  simp only [drawOk, Bool.and_eq_true] at hB
  obtain ⟨⟨⟨hsel, hfree⟩, hstore⟩, hacyc⟩ := hB
  have hsz : l.length ≤ l.toArray.size := by simp
  refine ⟨hsel, ?_, ?_, ?_⟩
  · intro i j hi hj hij d hd hor
    have := ltRange_spec (ltRange_spec hfree (by simpa using hi)) (by simpa using hj)
    have hb : Nat.beq i j = false := by
      cases hq : Nat.beq i j with
      | true => exact absurd (Nat.eq_of_beq_eq_true hq) hij
      | false => rfl
    simp only [hb, Bool.false_or, hd, Bool.and_eq_true] at this
    obtain ⟨h1, h2⟩ := this
    rcases hor with hor | hor
    · have hc : (looksOf l.toArray i).contains d = true := by simpa using hor
      simp only [hc, Bool.not_true, Bool.false_or] at h1
      split <;> simp_all
    · have hbd : Nat.beq d d = true := Nat.beq_refl d
      simp only [hor, hbd, Bool.not_true, Bool.false_or] at h2
      split <;> simp_all
  · intro i j hi hj hij hk hkj
    have := ltRange_spec hstore (i := i) (by simpa using hi)
    have hb : Nat.beq i j = false := by
      cases hq : Nat.beq i j with
      | true => exact absurd (Nat.eq_of_beq_eq_true hq) hij
      | false => rfl
    simp only [hk, decide_true, Bool.not_true, Bool.false_or] at this
    have := ltRange_spec this (i := j) (by simpa using hj)
    simp only [hb, Bool.false_or, hkj, decide_false] at this
    split <;> simp_all
  · intro listed hsz k hk hun hall
    refine mem_ready.2 ⟨getD_ft (by rw [hsz]; simpa using hk) hun, l[k], by simp [hk], fun e he hb => ?_⟩
    have := ltRange_spec hacyc (i := k) (by simpa using hk)
    simp only [List.getElem?_toArray, List.getElem?_eq_getElem hk] at this
    have := Array.all_eq_true'.1 this e he
    simp only [hb, Bool.not_true, Bool.false_or] at this
    exact hall _ (Nat.le_of_ble_eq_true this)
/-- A ready operation finds what it would find in the text's order; behind it the slots are as they should be. -/
theorem step_at {l : List Oper} (ok : OkD l) {val : Nat → Value} {A0 Ai a : Act} {listed : Array Bool} {i : Nat} (v : Iv l.toArray listed) (hag : Ag l.toArray val A0 (fun j => listed.getD j false) l.length a)
    (hslot : Ag l.toArray val A0 (fun _ => true) i Ai) (hi : i ∈ Region.ready .any l.toArray listed) (him : i < l.length) :
    Region.wanted l[i] (yielded l.toArray a.tmps) = Region.wanted l[i] (yielded l.toArray Ai.tmps) ∧ execOp a.eval l[i] = execOp Ai.eval l[i] ∧
    Ag l.toArray val A0 (fun j => (listed.setIfInBounds i true).getD j false) l.length (a.put (dstOf l.toArray i) (val i)) := by
  obtain ⟨hiun, hisz⟩ := getD_tf (mem_ready.1 hi).1
  have ho : l.toArray[i]? = some l[i] := by simp [him]
  have hlook : ∀ t, t ∈ looksOf l.toArray i → a.tmps[t]? = Ai.tmps[t]? := by
    intro t ht
    rw [hag.at_ t, hslot.at_ t]
    have e1 : fT l.toArray val A0 (fun j => listed.getD j false) l.length t = fT l.toArray val A0 (fun j => listed.getD j false) i t := by
      have := fT_above (ops := l.toArray) (val := val) (A0 := A0) (S := fun j => listed.getD j false) (t := t) (i := i) (l.length - i) (fun j hj1 hj2 hd => by
        by_cases hij : i = j
        · subst hij; exact hiun
        · have hj : j < l.length := by omega
          have := ok.ord i j him hj hij t hd (Or.inl ht)
          rw [if_neg (by omega)] at this
          cases hq : listed.getD j false with
          | true => have := v.closed j i hq this; rw [hiun] at this; cases this
          | false => rfl)
      rwa [show i + (l.length - i) = l.length by omega] at this
    rw [e1]
    refine fT_same i fun j hj hd => ?_
    have := ok.ord i j him (by omega) (by omega) t hd (Or.inl ht)
    rw [if_pos hj] at this
    exact ready_edges hi this
  refine ⟨?_, ?_, ?_⟩
  · unfold Region.wanted
    cases hg : l[i].guard with
    | none => rfl
    | some gw =>
      obtain ⟨g, want⟩ := gw
      have : yielded l.toArray a.tmps g = yielded l.toArray Ai.tmps g := by
        unfold yielded
        cases hd : (l.toArray[g]?).bind (·.dst) with
        | none => rfl
        | some t =>
          have hmem : t ∈ looksOf l.toArray i := by
            unfold looksOf
            rw [ho]
            simp only [Oper.looksAt, hg, hd]
            simp
          simp only [Option.bind_some, hlook t hmem]
      simp only [this]
  · exact execOp_congr l[i] (Region.noSelect_spec ok.sel i l[i] · · ho) fun x hx => by
      cases x with
      | tmp t =>
        have hmem : t ∈ looksOf l.toArray i := by
          unfold looksOf
          rw [ho]
          exact List.mem_append_left _ (List.mem_filterMap.2 ⟨.tmp t, by simpa using hx, rfl⟩)
        have := hlook t hmem
        simp [Act.eval, this]
      | const u => rfl
      | global g => rfl
      | func f => rfl
  · have put1 : ∀ t, dstOf l.toArray i ≠ some t → fT l.toArray val A0 (fun j => (listed.setIfInBounds i true).getD j false) l.length t = fT l.toArray val A0 (fun j => listed.getD j false) l.length t := fun t ht =>
      fT_same _ fun j _ hd => by
        simp only [getD_set hisz]
        rw [if_neg (fun e : i = j => ht (by rw [e]; exact hd))]
    cases hd : dstOf l.toArray i with
    | none => exact ⟨hag.size, hag.defers, fun t => by rw [put1 t (by rw [hd]; simp)]; exact hag.at_ t⟩
    | some d =>
      refine ⟨by simp [Act.put, hag.size], by simp [Act.put, hag.defers], fun t => ?_⟩
      by_cases hdt : d = t
      · subst hdt
        by_cases hlt : d < A0.tmps.size
        · have e1 := fT_above (ops := l.toArray) (val := val) (A0 := A0) (S := fun j => (listed.setIfInBounds i true).getD j false) (t := d) (i := i + 1) (l.length - (i + 1)) (fun j hj1 hj2 hdj => by
            have hj : j < l.length := by omega
            have := ok.ord i j him hj (by omega) d hdj (Or.inr hd)
            rw [if_neg (by omega)] at this
            simp only [getD_set hisz]
            rw [if_neg (by omega)]
            cases hq : listed.getD j false with
            | true => have := v.closed j i hq this; rw [hiun] at this; cases this
            | false => rfl)
          rw [show i + 1 + (l.length - (i + 1)) = l.length by omega] at e1
          rw [e1]
          unfold fT
          rw [if_pos ⟨by simp only [getD_set hisz, if_true], hd, hlt⟩]
          simp [Act.put, hag.size, hlt]
        · rw [fT_big (by omega)]; simp [Act.put, hag.size]; omega
      · rw [put1 t (by rw [hd]; simpa using hdt)]
        simp only [Act.put, Array.getElem?_setIfInBounds_ne hdt]
        exact hag.at_ t
/-- A walk, of which some operations are done already. -/
structure TX (P : Program) (ops : Array Oper) (K : Act → (World → Prop) → Prop) (m : Nat) (val : Nat → Value) (A : Nat → Act) (Cl : Nat → World → Prop) (ex : Nat → Bool) : Prop where
  next : ∀ i, i < m → A (i + 1) = (A i).put (dstOf ops i) (val i)
  does : ∀ i o, i < m → ex i = false → ops[i]? = some o → Region.wanted o (yielded ops (A i).tmps) = true → Does P o (A i) (Cl i) (Cl (i + 1)) (val i)
  skips : ∀ i o, i < m → ex i = false → ops[i]? = some o → Region.wanted o (yielded ops (A i).tmps) = false → val i = undef ∧ kindOf o.op ≠ .store
  cls : ∀ i, i < m → kdOf ops i ≠ .store → Cl (i + 1) = Cl i
  last : K (A m) (Cl m)
theorem TX.slot {ops : Array Oper} {K : Act → (World → Prop) → Prop} {m : Nat} {val : Nat → Value} {A : Nat → Act} {Cl : Nat → World → Prop} {ex : Nat → Bool} (T : TX P ops K m val A Cl ex) (i : Nat) (hi : i ≤ m) : Ag ops val (A 0) (fun _ => true) i (A i) :=
  ag_slot T.next i hi
theorem TX.same {ops : Array Oper} {K : Act → (World → Prop) → Prop} {m : Nat} {val : Nat → Value} {A : Nat → Act} {Cl : Nat → World → Prop} {ex : Nat → Bool} (T : TX P ops K m val A Cl ex) : ∀ (d i : Nat), i + d ≤ m → (∀ j, i ≤ j → j < i + d → kdOf ops j ≠ .store) → Cl (i + d) = Cl i
  | 0, _, _, _ => rfl
  | d + 1, i, h, hn => by
    rw [show i + (d + 1) = (i + d) + 1 from rfl, T.cls (i + d) (by omega) (hn (i + d) (by omega) (by omega))]
    exact T.same d i (by omega) (fun j h1 h2 => hn j h1 (by omega))
theorem wp_any {l : List Oper} {Q : Exit → Act → World → Prop} {val : Nat → Value} {A : Nat → Act} {Cl : Nat → World → Prop} {ex : Nat → Bool} (ok : OkD l) (T : TX P l.toArray (fun a' C' => ∀ w', C' w' → Q .normal a' w') l.length val A Cl ex) :
    ∀ (f : Nat) (listed : Array Bool) (a : Act) (w : World), unl listed l.length ≤ f → Iv l.toArray listed → (∀ i, i < l.length → ex i = true → listed.getD i false = true) → Ag l.toArray val (A 0) (fun j => listed.getD j false) l.length a →
      (∃ p, p ≤ l.length ∧ (∀ i, i < l.length → kdOf l.toArray i = .store → (listed.getD i false = true ↔ i < p)) ∧ Cl p w) →
      wpAny P .any l.toArray Q f listed a w := by
  have hend : ∀ (listed : Array Bool) (a : Act) (w : World), (∀ j, j < l.length → listed.getD j false = true) → Ag l.toArray val (A 0) (fun j => listed.getD j false) l.length a →
      (∃ p, p ≤ l.length ∧ (∀ i, i < l.length → kdOf l.toArray i = .store → (listed.getD i false = true ↔ i < p)) ∧ Cl p w) → Q .normal a w := by
    intro listed a w hall hag ⟨p, hp, hiff, hw⟩
    have e : a = A l.length := act_ext (hag.defers.trans (T.slot _ (Nat.le_refl _)).defers.symm) fun t => by
      rw [hag.at_ t, (T.slot _ (Nat.le_refl _)).at_ t]
      exact fT_same _ fun j hj _ => hall j hj
    have ec : Cl l.length = Cl p := by
      have := T.same (l.length - p) p (by omega) fun j h1 h2 hk => by
        have := (hiff j (by omega) hk).1 (hall j (by omega))
        omega
      rwa [show p + (l.length - p) = l.length by omega] at this
    rw [e]
    exact T.last w (by rw [ec]; exact hw)
  intro f
  induction f with
  | zero =>
    intro listed a w hu v hex hag hp
    have hall : ∀ j, j < l.length → listed.getD j false = true := fun j hj => by
      have h0 : unl listed l.length = 0 := by omega
      unfold unl at h0
      have := List.countP_eq_zero.1 h0 j (List.mem_range.2 hj)
      simpa using this
    have hnil : Region.ready .any l.toArray listed = [] := by
      refine List.eq_nil_iff_forall_not_mem.2 fun i hi => ?_
      obtain ⟨h1, h2⟩ := getD_tf (mem_ready.1 hi).1
      rw [hall i (by rw [v.size] at h2; simpa using h2)] at h1
      cases h1
    exact ⟨hnil, hend listed a w hall hag hp⟩
  | succ f ih =>
    intro listed a w hu v hex hag hp0
    constructor
    · intro hnil
      have hall : ∀ b, b ≤ l.length → ∀ j, j < b → listed.getD j false = true := by
        intro b
        induction b with
        | zero => intro _ j hj; omega
        | succ b ihb =>
          intro hb j hj
          rcases Nat.lt_or_ge j b with h' | h'
          · exact ihb (by omega) j h'
          · have : j = b := by omega
            subst this
            cases hq : listed.getD j false with
            | true => rfl
            | false =>
              have := ok.min listed v.size j (by omega) hq (fun j hj => ihb (by omega) j hj)
              rw [hnil] at this; cases this
      exact hend listed a w (hall l.length (Nat.le_refl _)) hag hp0
    · intro i hi
      obtain ⟨p, hp, hiff, hw⟩ := hp0
      obtain ⟨hiun, hisz⟩ := getD_tf (mem_ready.1 hi).1
      have him : i < l.length := by rw [v.size] at hisz; simpa using hisz
      have hexi : ex i = false := by
        cases hq : ex i with
        | true => rw [hex i him hq] at hiun; cases hiun
        | false => rfl
      have ho : l.toArray[i]? = some l[i] := by simp [him]
      have hkd : kdOf l.toArray i = kindOf l[i].op := by unfold kdOf; rw [ho]
      obtain ⟨hwant, hexec, hagn⟩ := step_at ok v hag (T.slot i (Nat.le_of_lt him)) hi him
      have hcl : kdOf l.toArray i ≠ .pure → Cl i w := by
        intro hnp
        rcases Nat.lt_or_ge p i with hpi | hpi
        · have := T.same (i - p) p (by omega) fun j h1 h2 hk => by
            have := ok.sto j i (by omega) him (by omega) hk hnp
            rw [if_neg (by omega)] at this
            have := (hiff j (by omega) hk).1 (ready_edges hi this)
            omega
          rw [show p + (i - p) = i by omega] at this
          rw [this]; exact hw
        · have := T.same (p - i) i (by omega) fun j h1 h2 hk => by
            have hlj := (hiff j (by omega) hk).2 (by omega)
            rcases Nat.lt_or_ge i j with h' | h'
            · have := ok.sto j i (by omega) him (by omega) hk hnp
              rw [if_pos h'] at this
              rw [v.closed j i hlj this] at hiun
              cases hiun
            · have : j = i := by omega
              subst this
              rw [hlj] at hiun; cases hiun
          rw [show i + (p - i) = p by omega] at this
          rw [← this]; exact hw
      have hnext : ∀ p' w', p' ≤ l.length → (∀ j, j < l.length → kdOf l.toArray j = .store → ((listed.setIfInBounds i true).getD j false = true ↔ j < p')) → Cl p' w' → wpAny P .any l.toArray Q f (listed.setIfInBounds i true) (a.put (dstOf l.toArray i) (val i)) w' := by
        intro p' w' hp' hiff' hw'
        refine ih _ _ w' (by have := unl_set hisz hiun l.length; rw [if_pos him] at this; omega) (v.set hi) (fun j hj hxj => ?_) hagn ⟨p', hp', hiff', hw'⟩
        rw [getD_set hisz]
        split
        · rfl
        · exact hex j hj hxj
      have hkeep : kdOf l.toArray i ≠ .store → ∀ w', Cl p w' → wpAny P .any l.toArray Q f (listed.setIfInBounds i true) (a.put (dstOf l.toArray i) (val i)) w' := fun hk w' hw' =>
        hnext p w' hp (fun j hj hkj => by
          rw [getD_set hisz, if_neg (fun e : i = j => hk (by rw [e]; exact hkj))]
          exact hiff j hj hkj) hw'
      have hdst : dstOf l.toArray i = l[i].dst := by simp [dstOf, ho]
      unfold wpOp
      rw [ho]
      simp only []
      rw [hwant]
      split
      · rename_i hwn
        have hdo := T.does i l[i] him hexi ho hwn
        refine Or.inl ?_
        unfold Does at hdo
        cases hk : kindOf l[i].op with
        | pure =>
          simp only [hk] at hdo
          unfold Oper.wp
          rw [hexec, hdo.2 w, Oper.upon, ← hdst]
          exact hkeep (by rw [hkd, hk]; simp) w hw
        | quiet =>
          simp only [hk] at hdo
          have hnp : kdOf l.toArray i ≠ .pure := by rw [hkd, hk]; simp
          have hcw := hcl hnp
          refine Oper.wp_of_quiet (C := Cl i) (K := fun a' => ∀ w', Cl i w' → wpAny P .any l.toArray Q f (listed.setIfInBounds i true) a' w') hcw (fun _ w' hw' h' => h' w' hw') ⟨val i, fun w hw => ?_, ?_⟩
          · have := hdo.2 w hw
            unfold Oper.quietAt at *
            rwa [hexec]
          · rw [← hdst]
            intro w' hw'
            refine hnext i w' (by omega) (fun j hj hkj => ?_) hw'
            have hij : i ≠ j := fun e => by rw [← e, hkd, hk] at hkj; cases hkj
            rw [getD_set hisz, if_neg hij]
            have hs := ok.sto j i hj him (Ne.symm hij) hkj hnp
            constructor
            · intro hl
              rcases Nat.lt_or_ge j i with h' | h'
              · exact h'
              · rw [if_pos (by omega)] at hs
                rw [v.closed j i hl hs] at hiun; cases hiun
            · intro hlt
              rw [if_neg (by omega)] at hs
              exact ready_edges hi hs
        | store =>
          simp only [hk] at hdo
          obtain ⟨hd0, hst⟩ := hdo
          have hnp : kdOf l.toArray i ≠ .pure := by rw [hkd, hk]; simp
          have hks : kdOf l.toArray i = .store := by rw [hkd, hk]
          obtain ⟨w', hrun, hw'⟩ := hst w (hcl hnp)
          unfold Oper.wp
          rw [hexec, hrun, Oper.upon, hd0]
          have := hnext (i + 1) w' (by omega) (fun j hj hkj => ?_) hw'
          · rw [hdst, hd0] at this; exact this
          · rw [getD_set hisz]
            by_cases hij : i = j
            · subst hij; simp
            · rw [if_neg hij]
              have hs := ok.sto i j him hj hij hks (by rw [hkj]; simp)
              constructor
              · intro hl
                rcases Nat.lt_or_ge j i with h' | h'
                · omega
                · rw [if_neg (by omega)] at hs
                  rw [v.closed j i hl hs] at hiun; cases hiun
              · intro hlt
                rw [if_pos (by omega)] at hs
                exact ready_edges hi hs
      · rename_i hwn
        have hsk := T.skips i l[i] him hexi ho (by simpa using hwn)
        rw [← hsk.1, ← hdst]
        exact hkeep (by rw [hkd]; exact hsk.2) w hw
theorem start_unl (l : List Oper) : unl (Array.replicate l.toArray.size false) l.length ≤ l.toArray.size := by
  unfold unl
  have := List.countP_le_length (p := fun j => !(Array.replicate l.toArray.size false).getD j false) (l := List.range l.length)
  simpa using this
theorem start_iv (l : List Oper) : Iv l.toArray (Array.replicate l.toArray.size false) := ⟨by simp, fun i j hi => by rw [rep_false] at hi; cases hi⟩
theorem start_ag (l : List Oper) (val : Nat → Value) (a : Act) : Ag l.toArray val a (fun j => (Array.replicate l.toArray.size false).getD j false) l.length a := ⟨rfl, rfl, fun t => by
  have := fT_above (ops := l.toArray) (val := val) (A0 := a) (S := fun j => (Array.replicate l.toArray.size false).getD j false) (t := t) (i := 0) l.length (fun j _ _ _ => rep_false _ _)
  rw [Nat.zero_add] at this
  rw [this]
  rfl⟩
theorem region_wq {id : Nat} {Q : Exit → Act → World → Prop} {a : Act} {w : World} {l : List Oper} {C : World → Prop} (hm : P.follows .mixedOrders = true) (hB : drawOk l.toArray = true)
    (hC : C { w with drawn := w.drawn + 1 }) (h : wq P l.toArray (fun a' C' => ∀ w', C' w' → Q .normal a' w') l a C) : (Code.region id l.toArray true).wp P Q a w := by
  refine wp_region_any hm ?_
  have ok := okD_of hB
  obtain ⟨val, A, Cl, hA0, hC0, T⟩ := tr_of_wq l 0 a C (fun j _ => by simp) h
  subst hA0
  subst hC0
  have hsz : l.length ≤ l.toArray.size := by simp
  have TXl : TX P l.toArray (fun a' C' => ∀ w', C' w' → Q .normal a' w') l.length val A Cl (fun _ => false) := ⟨fun i hi => by have := T.next i hi; rwa [Nat.zero_add] at this, fun i o hi _ ho hw => T.does i o hi (by rw [Nat.zero_add]; exact ho) hw,
    fun i o hi _ ho hw => by have := T.skips i o hi (by rw [Nat.zero_add]; exact ho) hw; exact ⟨this.1, this.2.2⟩, fun i hi hk => T.stays (by omega) hi (by rw [Nat.zero_add]; exact hk), T.last⟩
  exact wp_any ok TXl _ _ _ _ (start_unl l) (start_iv l) (fun i _ h => by cases h) (start_ag l val _) ⟨0, Nat.zero_le _, fun i _ _ => ⟨fun h => absurd h (by rw [rep_false]; decide), fun h => absurd h (Nat.not_lt_zero _)⟩, hC⟩

/-! ### A region with one allocation -/
/-- What is ahead of the allocation: it holds with the new block there and without it. -/
def wqf (P : Program) (ops : Array Oper) (Cf : Option Nat → World → Prop) (K : Act → Prop) : List Oper → Act → Prop
  | [], a => K a
  | o :: r, a =>
    if Region.wanted o (yielded ops a.tmps) then
      match kindOf o.op with
      | .pure => ∃ v, (∀ w, (execOp a.eval o).run P w = .ok (.value v) w) ∧ wqf P ops Cf K r (a.put o.dst v)
      | .quiet => ∃ v, (∀ x w, Cf x w → o.quietAt P a (Cf x) w v) ∧ wqf P ops Cf K r (a.put o.dst v)
      | .store => False
    else kindOf o.op ≠ .store ∧ wqf P ops Cf K r (a.put o.dst undef)
/-- The allocation's checks: it has no guard, no store is ahead of it, all that is behind it waits for it. -/
def drawAl (ops : Array Oper) (k : Nat) : Bool :=
  (match ops[k]? with | some o => o.guard.isNone | none => false) && (ltRange k fun j => !(decide (kdOf ops j = .store))) && ltRange ops.size fun j => !(Nat.blt k j) || edgeB ops j k
structure TF (P : Program) (ops : Array Oper) (Cf : Option Nat → World → Prop) (K : Act → Prop) (k m : Nat) (val : Nat → Value) (A : Nat → Act) : Prop where
  next : ∀ i, i < m → A (i + 1) = (A i).put (dstOf ops (k + i)) (val i)
  does : ∀ i o, i < m → ops[k + i]? = some o → Region.wanted o (yielded ops (A i).tmps) = true → ∀ x, Does P o (A i) (Cf x) (Cf x) (val i)
  skips : ∀ i o, i < m → ops[k + i]? = some o → Region.wanted o (yielded ops (A i).tmps) = false → val i = undef ∧ kindOf o.op ≠ .store
  last : K (A m)
theorem tf_of_wqf {ops : Array Oper} {Cf : Option Nat → World → Prop} {K : Act → Prop} : ∀ (l : List Oper) (k : Nat) (a : Act), (∀ j, j < l.length → l[j]? = ops[k + j]?) → wqf P ops Cf K l a →
    ∃ val A, A 0 = a ∧ TF P ops Cf K k l.length val A
  | [], k, a, _, h => ⟨fun _ => undef, fun _ => a, rfl, ⟨fun i hi => by simp at hi, fun i o hi => by simp at hi, fun i o hi => by simp at hi, h⟩⟩
  | o :: l, k, a, hl, h => by
    have h0 : ops[k]? = some o := by simpa using (hl 0 (by simp)).symm
    have hl' : ∀ j, j < l.length → l[j]? = ops[k + 1 + j]? := fun j hj => by
      have := hl (j + 1) (by simp; omega)
      simpa [Nat.add_assoc, Nat.add_comm 1 j] using this
    have go : ∀ (v : Value), (Region.wanted o (yielded ops a.tmps) = true → ∀ x, Does P o a (Cf x) (Cf x) v) → (Region.wanted o (yielded ops a.tmps) = false → v = undef ∧ kindOf o.op ≠ .store) → wqf P ops Cf K l (a.put o.dst v) →
        ∃ val A, A 0 = a ∧ TF P ops Cf K k (o :: l).length val A := fun v hv hu h' => by
      obtain ⟨val, A, hA0, T⟩ := tf_of_wqf l (k + 1) (a.put o.dst v) hl' h'
      refine ⟨fun i => match i with | 0 => v | i + 1 => val i, fun i => match i with | 0 => a | i + 1 => A i, rfl, ?_, ?_, ?_, T.last⟩
      · intro i hi
        cases i with
        | zero => show A 0 = _; rw [hA0]; simp [dstOf, h0]
        | succ i => have := T.next i (by simp at hi; omega); simpa [Nat.add_assoc, Nat.add_comm 1 i] using this
      · intro i o' hi ho' hw
        cases i with
        | zero =>
          have : o' = o := Option.some.inj (ho'.symm.trans (by simpa using h0))
          subst this
          exact hv hw
        | succ i => exact T.does i o' (by simp at hi; omega) (by rw [← ho']; congr 1; omega) hw
      · intro i o' hi ho' hw
        cases i with
        | zero =>
          have : o' = o := Option.some.inj (ho'.symm.trans (by simpa using h0))
          subst this
          exact hu hw
        | succ i => exact T.skips i o' (by simp at hi; omega) (by rw [← ho']; congr 1; omega) hw
    unfold wqf at h
    by_cases hw : Region.wanted o (yielded ops a.tmps) = true
    · rw [if_pos hw] at h
      cases hk : kindOf o.op with
      | pure =>
        simp only [hk] at h
        obtain ⟨v, hv, h'⟩ := h
        exact go v (fun _ x => by unfold Does; simp only [hk, true_and]; exact hv) (fun e => by rw [hw] at e; cases e) h'
      | quiet =>
        simp only [hk] at h
        obtain ⟨v, hv, h'⟩ := h
        exact go v (fun _ x => by unfold Does; simp only [hk, true_and]; exact hv x) (fun e => by rw [hw] at e; cases e) h'
      | store =>
        simp only [hk] at h
    · rw [if_neg hw] at h
      exact go undef (fun e => absurd e hw) (fun _ => ⟨rfl, h.1⟩) h.2
theorem fT_cg {ops : Array Oper} {val val' : Nat → Value} {A0 : Act} {S : Nat → Bool} {t : Nat} : ∀ (k : Nat), (∀ j, j < k → S j = true → val j = val' j) → fT ops val A0 S k t = fT ops val' A0 S k t
  | 0, _ => rfl
  | k + 1, h => by
    rw [fT, fT, fT_cg k (fun j h1 h2 => h j (by omega) h2)]
    by_cases hs : S k = true
    · rw [h k (by omega) hs]
    · rw [if_neg (fun h => hs h.1), if_neg (fun h => hs h.1)]
theorem region_wqa {id : Nat} {Q : Exit → Act → World → Prop} {a : Act} {w : World} {l1 l2 : List Oper} {al : Oper} {d : Nat} {Cf : Option Nat → World → Prop} (hm : P.follows .mixedOrders = true) (hB : drawOk (l1 ++ al :: l2).toArray = true)
    (hB2 : drawAl (l1 ++ al :: l2).toArray l1.length = true) (hd : al.dst = some d) (hq : kindOf al.op = .quiet) (hC : Cf none { w with drawn := w.drawn + 1 })
    (hrun : ∀ (a : Act) (w : World), Cf none w → ∃ b w', (execOp a.eval al).run P w = .ok (.value (.pointer (some ⟨b, 0, none⟩))) w' ∧ Cf (some b) w')
    (h : wqf P (l1 ++ al :: l2).toArray Cf (fun a' => ∀ b, wq P (l1 ++ al :: l2).toArray (fun a' C' => ∀ w', C' w' → Q .normal a' w') l2 (a'.put (some d) (.pointer (some ⟨b, 0, none⟩))) (Cf (some b))) l1 a) :
    (Code.region id (l1 ++ al :: l2).toArray true).wp P Q a w := by
  refine wp_region_any hm ?_
  have ok := okD_of hB
  obtain ⟨val1, A1, hA0, T1⟩ := tf_of_wqf l1 0 a (fun j hj => by simp [List.getElem?_append_left hj]) h
  clear h
  subst hA0
  have hlen : (l1 ++ al :: l2).length = l1.length + 1 + l2.length := by simp; omega
  have hgk : (l1 ++ al :: l2)[l1.length]? = some al := by simp
  have hg2 : ∀ j, j < l2.length → l2[j]? = (l1 ++ al :: l2).toArray[l1.length + 1 + j]? := fun j hj => by
    rw [List.getElem?_toArray, List.getElem?_append_right (by omega), show l1.length + 1 + j - l1.length = j + 1 by omega, List.getElem?_cons_succ]
  generalize hl : l1 ++ al :: l2 = l at *
  generalize hk : l1.length = k at *
  have hokk : l.toArray[k]? = some al := by simpa using hgk
  simp only [drawAl, Bool.and_eq_true, hokk] at hB2
  obtain ⟨⟨hgn, hns⟩, hbar⟩ := hB2
  have hdk : dstOf l.toArray k = some d := by unfold dstOf; rw [hokk]; exact hd
  have hkk : kdOf l.toArray k = .quiet := by unfold kdOf; rw [hokk]; exact hq
  have hns' : ∀ j, j < k → kdOf l.toArray j ≠ .store := fun j hj e => by have := ltRange_spec hns hj; simp [e] at this
  have hbar' : ∀ j, k < j → j < l.length → edgeB l.toArray j k = true := fun j h1 h2 => by
    have := ltRange_spec hbar (i := j) (by simpa using h2)
    have hb : Nat.blt k j = true := Nat.ble_eq_true_of_le h1
    simpa [hb] using this
  have hn1 : ∀ i, i < k → A1 (i + 1) = (A1 i).put (dstOf l.toArray i) (val1 i) := fun i hi => by have := T1.next i hi; rwa [Nat.zero_add] at this
  have key : ∀ (f : Nat) (listed : Array Bool) (a : Act) (w : World), unl listed l.length ≤ f → Iv l.toArray listed → (∀ j, k ≤ j → j < l.length → listed.getD j false = false) → Ag l.toArray val1 (A1 0) (fun j => listed.getD j false) l.length a → Cf none w →
      wpAny P .any l.toArray Q f listed a w := by
    intro f
    induction f with
    | zero =>
      intro listed a w hu v hun hag hw
      have h0 : unl listed l.length = 0 := by omega
      unfold unl at h0
      have := List.countP_eq_zero.1 h0 k (List.mem_range.2 (by omega))
      rw [hun k (Nat.le_refl _) (by omega)] at this
      exact absurd rfl this
    | succ f ih =>
      intro listed a w hu v hun hag hw
      constructor
      · intro hnil
        have hall : ∀ b, b ≤ l.length → ∀ j, j < b → listed.getD j false = true := by
          intro b
          induction b with
          | zero => intro _ j hj; omega
          | succ b ihb =>
            intro hb j hj
            rcases Nat.lt_or_ge j b with h' | h'
            · exact ihb (by omega) j h'
            · have : j = b := by omega
              subst this
              cases hq : listed.getD j false with
              | true => rfl
              | false =>
                have := ok.min listed v.size j (by omega) hq (fun j hj => ihb (by omega) j hj)
                rw [hnil] at this; cases this
        have h1 := hall l.length (Nat.le_refl _) k (by omega)
        rw [hun k (Nat.le_refl _) (by omega)] at h1
        cases h1
      · intro i hi
        obtain ⟨hiun, hisz⟩ := getD_tf (mem_ready.1 hi).1
        have him : i < l.length := by rw [v.size] at hisz; simpa using hisz
        have ho : l.toArray[i]? = some l[i] := by simp [him]
        have hdst : dstOf l.toArray i = l[i].dst := by simp [dstOf, ho]
        have hkd : kdOf l.toArray i = kindOf l[i].op := by unfold kdOf; rw [ho]
        have hu' : unl (listed.setIfInBounds i true) l.length ≤ f := by have := unl_set hisz hiun l.length; rw [if_pos him] at this; omega
        rcases Nat.lt_trichotomy i k with hik | hik | hik
        · obtain ⟨hwant, hexec, hagn⟩ := step_at ok v hag (ag_slot hn1 i (Nat.le_of_lt hik)) hi him
          have hgo : ∀ w', Cf none w' → wpAny P .any l.toArray Q f (listed.setIfInBounds i true) (a.put (dstOf l.toArray i) (val1 i)) w' := fun w' hw' =>
            ih _ _ w' hu' (v.set hi) (fun j h1 h2 => by rw [getD_set hisz, if_neg (by omega)]; exact hun j h1 h2) hagn hw'
          unfold wpOp
          rw [ho]
          simp only []
          rw [hwant]
          split
          · rename_i hwn
            have hdo := T1.does i l[i] hik (by rw [Nat.zero_add]; exact ho) hwn none
            refine Or.inl ?_
            unfold Does at hdo
            cases hk : kindOf l[i].op with
            | pure =>
              simp only [hk] at hdo
              unfold Oper.wp
              rw [hexec, hdo.2 w, Oper.upon, ← hdst]
              exact hgo w hw
            | quiet =>
              simp only [hk] at hdo
              refine Oper.wp_of_quiet (C := Cf none) (K := fun a' => ∀ w', Cf none w' → wpAny P .any l.toArray Q f (listed.setIfInBounds i true) a' w') hw (fun _ w' hw' h' => h' w' hw') ⟨val1 i, fun w hw => ?_, ?_⟩
              · have := hdo.2 w hw
                unfold Oper.quietAt at *
                rwa [hexec]
              · rw [← hdst]
                intro w' hw'
                exact hgo w' hw'
            | store => exact absurd (hkd.trans hk) (hns' i hik)
          · rename_i hwn
            have hsk := T1.skips i l[i] hik (by rw [Nat.zero_add]; exact ho) (by simpa using hwn)
            rw [← hsk.1, ← hdst]
            exact hgo w hw
        · subst hik
          have hal : l[i] = al := Option.some.inj (ho.symm.trans hokk)
          obtain ⟨b, w', hrun', hw'⟩ := hrun a w hw
          obtain ⟨val2, A2, Cl2, hA20, hC20, T2⟩ := tr_of_wq l2 (i + 1) _ _ hg2 (T1.last b)
          let val := fun j => if j < i then val1 j else if j = i then .pointer (some ⟨b, 0, none⟩) else val2 (j - i - 1)
          let A := fun j => if j ≤ i then A1 j else A2 (j - i - 1)
          let Cl := fun j => if j ≤ i then Cf (some b) else Cl2 (j - i - 1)
          have a1 : ∀ j, j ≤ i → A j = A1 j := fun j hj => if_pos hj
          have a2 : ∀ j, A (i + 1 + j) = A2 j := fun j => by show (if i + 1 + j ≤ i then _ else _) = _; rw [if_neg (by omega)]; congr 1; omega
          have c1 : ∀ j, j ≤ i → Cl j = Cf (some b) := fun j hj => if_pos hj
          have c2 : ∀ j, Cl (i + 1 + j) = Cl2 j := fun j => by show (if i + 1 + j ≤ i then _ else _) = _; rw [if_neg (by omega)]; congr 1; omega
          have v1 : ∀ j, j < i → val j = val1 j := fun j hj => if_pos hj
          have vk : val i = .pointer (some ⟨b, 0, none⟩) := by show (if i < i then _ else _) = _; rw [if_neg (by omega), if_pos rfl]
          have v2 : ∀ j, val (i + 1 + j) = val2 j := fun j => by show (if i + 1 + j < i then _ else _) = _; rw [if_neg (by omega), if_neg (by omega)]; congr 1; omega
          have cases3 : ∀ j, j < l.length → j < i ∨ j = i ∨ ∃ r, r < l2.length ∧ j = i + 1 + r := fun j hj => by
            rcases Nat.lt_trichotomy j i with h | h | h
            · exact Or.inl h
            · exact Or.inr (Or.inl h)
            · exact Or.inr (Or.inr ⟨j - i - 1, by omega, by omega⟩)
          clear_value val A Cl
          have T : TX P l.toArray (fun a' C' => ∀ w', C' w' → Q .normal a' w') l.length val A Cl (fun j => decide (j = i)) := by
            refine ⟨fun j hj => ?_, fun j o hj hx ho hw => ?_, fun j o hj hx ho hw => ?_, fun j hj hk => ?_, ?_⟩
            · rcases cases3 j hj with h | h | ⟨r, hr, h⟩
              · rw [a1 j (by omega), a1 (j + 1) (by omega), v1 j h]; exact hn1 j h
              · subst h; rw [a1 j (by omega), show j + 1 = j + 1 + 0 from rfl, a2, vk, hA20, hdk]
              · subst h; rw [show i + 1 + r + 1 = i + 1 + (r + 1) by omega, a2, a2, v2]; exact T2.next r hr
            · rcases cases3 j hj with h | h | ⟨r, hr, h⟩
              · rw [a1 j (by omega)] at hw ⊢
                rw [c1 j (by omega), c1 (j + 1) (by omega), v1 j h]
                exact T1.does j o h (by rw [Nat.zero_add]; exact ho) hw (some b)
              · simp [h] at hx
              · subst h
                rw [a2] at hw ⊢
                rw [show i + 1 + r + 1 = i + 1 + (r + 1) by omega, c2, c2, v2]
                exact T2.does r o hr ho hw
            · rcases cases3 j hj with h | h | ⟨r, hr, h⟩
              · rw [a1 j (by omega)] at hw
                rw [v1 j h]
                exact T1.skips j o h (by rw [Nat.zero_add]; exact ho) hw
              · simp [h] at hx
              · subst h
                rw [a2] at hw
                rw [v2]
                have := T2.skips r o hr ho hw
                exact ⟨this.1, this.2.2⟩
            · rcases cases3 j hj with h | h | ⟨r, hr, h⟩
              · rw [c1 j (by omega), c1 (j + 1) (by omega)]
              · subst h; rw [c1 j (by omega), show j + 1 = j + 1 + 0 from rfl, c2, hC20]
              · subst h
                rw [show i + 1 + r + 1 = i + 1 + (r + 1) by omega, c2, c2]
                exact T2.stays (by simp; omega) hr hk
            · have := T2.last
              rw [show l.length = i + 1 + l2.length by omega, a2, c2]
              exact this
          have hagv : Ag l.toArray val (A 0) (fun j => listed.getD j false) l.length a := ⟨by rw [a1 0 (by omega)]; exact hag.size, by rw [a1 0 (by omega)]; exact hag.defers, fun t => by
            rw [a1 0 (by omega), hag.at_ t]
            refine fT_cg _ fun j hj hs => ?_
            rcases Nat.lt_or_ge j i with h | h
            · exact (v1 j h).symm
            · have := hun j h hj
              exact absurd (this.symm.trans hs) (by decide)⟩
          obtain ⟨-, -, hagn⟩ := step_at ok v hagv (T.slot i (Nat.le_of_lt him)) hi him
          unfold wpOp
          rw [ho]
          simp only []
          rw [hal, if_pos (by unfold Region.wanted; rw [Option.isNone_iff_eq_none.1 hgn])]
          refine Or.inl ?_
          unfold Oper.wp
          rw [hrun', Oper.upon, hd, ← hdk, ← vk]
          refine wp_any ok T f _ _ w' hu' (v.set hi) (fun j hj hx => ?_) hagn ⟨i + 1, by omega, fun j hj hs => ?_, by rw [show i + 1 = i + 1 + 0 from rfl, c2, hC20]; exact hw'⟩
          · have : j = i := by simpa using hx
            subst this
            rw [getD_set hisz, if_pos rfl]
          · rw [getD_set hisz]
            have hne : j ≠ i := fun e => by rw [e, hkk] at hs; cases hs
            rw [if_neg (Ne.symm hne)]
            rcases Nat.lt_or_ge j i with h | h
            · exact absurd hs (hns' j h)
            · rw [hun j h hj]
              exact ⟨fun e => (by cases e), fun e => by omega⟩
        · have := ready_edges hi (hbar' i hik him)
          rw [hun k (Nat.le_refl _) (by omega)] at this
          cases this
  exact key _ _ _ _ (start_unl l) (start_iv l) (fun j _ _ => rep_false _ _) (start_ag l val1 _) hC
end
end Go.Lg

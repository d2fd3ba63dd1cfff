/- The steps of a walk: operations that change the blocks of a call's own, guards, calls, regions that draw, the end. -/
import Derived.Test.YtdndlcghoibppaaOp
namespace Go.Lg
open Go

/-- One block's cells have become others. -/
inductive Put : HS → Nat → TypeId → Array Value → Array Value → HS → Prop
  | here {b : Nat} {t : TypeId} {cs cs' : Array Value} {r : HS} : Put ((b, t, cs) :: r) b t cs cs' ((b, t, cs') :: r)
  | there {x : Nat × TypeId × Array Value} {r r' : HS} {b : Nat} {t : TypeId} {cs cs' : Array Value} (h : Put r b t cs cs' r') : Put (x :: r) b t cs cs' (x :: r')
theorem Put.mem {hs hs' : HS} {b : Nat} {t : TypeId} {cs cs' : Array Value} (h : Put hs b t cs cs' hs') : (b, t, cs) ∈ hs := by
  induction h with
  | here => exact List.mem_cons_self
  | there _ ih => exact List.mem_cons_of_mem _ ih
theorem Put.keys {hs hs' : HS} {b : Nat} {t : TypeId} {cs cs' : Array Value} (h : Put hs b t cs cs' hs') : hs'.map (·.1) = hs.map (·.1) := by
  induction h with
  | here => rfl
  | there _ ih => simp [ih]
theorem Put.all {hs hs' : HS} {b : Nat} {t : TypeId} {cs cs' : Array Value} (h : Put hs b t cs cs' hs') (hn : (hs.map (·.1)).Nodup) : ∀ b' t' c', (b', t', c') ∈ hs' → (b' = b ∧ t' = t ∧ c' = cs') ∨ (b' ≠ b ∧ (b', t', c') ∈ hs) := by
  induction h with
  | here =>
    intro b' t' c' hm
    rw [List.map_cons, List.nodup_cons] at hn
    rcases List.mem_cons.1 hm with e | hm
    · simp only [Prod.mk.injEq] at e; exact Or.inl e
    · refine Or.inr ⟨fun e => hn.1 ?_, List.mem_cons_of_mem _ hm⟩
      rw [← e]
      exact List.mem_map.2 ⟨_, hm, rfl⟩
  | @there x r r' b t cs cs' h ih =>
    intro b' t' c' hm
    rw [List.map_cons, List.nodup_cons] at hn
    rcases List.mem_cons.1 hm with e | hm
    · refine Or.inr ⟨fun e2 => hn.1 ?_, by rw [e]; exact List.mem_cons_self⟩
      rw [← e]
      simp only
      rw [e2]
      exact List.mem_map.2 ⟨_, h.mem, rfl⟩
    · rcases ih hn.2 b' t' c' hm with h1 | ⟨h1, h2⟩
      · exact Or.inl h1
      · exact Or.inr ⟨h1, List.mem_cons_of_mem _ h2⟩

section
variable {P : Program} {n : Nat} {F : Gh} {E : World} {vs : VS} {hs : HS} {Q : Exit → Act → World → Prop} {ops : Array Oper}
variable {d : Nat} {ty : TypeId} {pos : String} {af : Array Edge} {rest : List Oper}

theorem Mem.lt {w : World} (hw : Mem hs F E w) {b : Nat} (h : b ∈ hs.map (·.1)) : b < w.heap.size := by
  obtain ⟨⟨b', t, cs⟩, hm, rfl⟩ := List.mem_map.1 h
  exact (Array.getElem?_eq_some_iff.1 (hw.own b' t cs hm)).1
theorem Mem.alloc {w : World} (hw : Mem hs F E w) (t : TypeId) (cs : Array Value) : Mem ((w.heap.size, t, cs) :: hs) F E (w.alloc (.cells cs t)) := by
  refine ⟨hw.os, hw.tape, hw.output, fun b t' c' hm => ?_, ?_, fun k o hk => ?_, fun b hb => ?_⟩
  · rcases List.mem_cons.1 hm with e | hm
    · simp only [Prod.mk.injEq] at e
      obtain ⟨rfl, rfl, rfl⟩ := e
      exact heap_alloc_new w _
    · rw [heap_alloc_old w _ (hw.lt (List.mem_map.2 ⟨_, hm, rfl⟩))]; exact hw.own b t' c' hm
  · rw [List.map_cons, List.nodup_cons]
    exact ⟨fun h => Nat.lt_irrefl _ (hw.lt h), hw.nodup⟩
  · have h := hw.fr k o hk
    rw [heap_alloc_old w _ (Array.getElem?_eq_some_iff.1 h).1]; exact h
  · rcases List.mem_cons.1 hb with e | hb
    · cases hF : F b with
      | none => rfl
      | some o =>
        have := (Array.getElem?_eq_some_iff.1 (hw.fr b o hF)).1
        simp only at e
        omega
    · exact hw.dis b hb
theorem Mem.setRow {w : World} (hw : Mem hs F E w) {b : Nat} {t : TypeId} {cs cs' : Array Value} {hs' : HS} (hp : Put hs b t cs cs' hs') : Mem hs' F E (w.setRow b cs') := by
  have hb := hw.own b t cs hp.mem
  refine ⟨hw.os, hw.tape, hw.output, fun b' t' c' hm => ?_, hp.keys ▸ hw.nodup, fun k o hk => ?_, fun b' hb' => hw.dis b' (hp.keys ▸ hb')⟩
  · rcases hp.all hw.nodup b' t' c' hm with ⟨rfl, rfl, rfl⟩ | ⟨h1, h2⟩
    · exact setRow_heap w b' cs _ t' _ hb
    · rw [setRow_other w b b' cs' h1]; exact hw.own b' t' c' h2
  · have hne : k ≠ b := fun e => by
      have := hw.dis b (List.mem_map.2 ⟨_, hp.mem, rfl⟩)
      rw [← e, hk] at this; cases this
    rw [setRow_other w b k cs' hne]; exact hw.fr k o hk
theorem Mem.perm {w : World} {hs' : HS} (hw : Mem hs F E w) (h : hs.Perm hs') : Mem hs' F E w :=
  ⟨hw.os, hw.tape, hw.output, fun b t cs hm => hw.own b t cs (h.mem_iff.2 hm), (h.map _).nodup_iff.1 hw.nodup, hw.fr, fun b hb => hw.dis b ((h.map (·.1)).mem_iff.2 hb)⟩
theorem Mem.part {w : World} {h1 h2 : HS} (hw : Mem (h1 ++ h2) F E w) : Mem h1 F E w := by
  refine ⟨hw.os, hw.tape, hw.output, fun b t cs hm => hw.own b t cs (List.mem_append_left _ hm), ?_, hw.fr, fun b hb => hw.dis b (by rw [List.map_append]; exact List.mem_append_left _ hb)⟩
  have := hw.nodup
  rw [List.map_append, List.nodup_append] at this
  exact this.1
theorem Mem.drew {w : World} (hw : Mem hs F E w) : Mem hs F E { w with drawn := w.drawn + 1 } := ⟨hw.os, hw.tape, hw.output, hw.own, hw.nodup, hw.fr, hw.dis⟩

def lookB : HS → Nat → Option Obj
  | [], _ => none
  | (b, t, cs) :: r, k => if b = k then some (.cells cs t (0, 0)) else lookB r k
theorem lookB_mem : ∀ {l : HS} {k : Nat} {o : Obj}, lookB l k = some o → ∃ t cs, (k, t, cs) ∈ l ∧ o = .cells cs t (0, 0)
  | [], _, _, h => by simp [lookB] at h
  | (b, t, cs) :: r, k, o, h => by
    simp only [lookB] at h
    by_cases e : b = k
    · rw [if_pos e] at h
      subst e
      exact ⟨t, cs, List.mem_cons_self, (Option.some.inj h).symm⟩
    · rw [if_neg e] at h
      obtain ⟨t', c', h1, h2⟩ := lookB_mem h
      exact ⟨t', c', List.mem_cons_of_mem _ h1, h2⟩
theorem lookB_of_mem : ∀ {l : HS} {k : Nat} {t : TypeId} {cs : Array Value}, (l.map (·.1)).Nodup → (k, t, cs) ∈ l → lookB l k = some (.cells cs t (0, 0))
  | (b, t', c') :: r, k, t, cs, hn, hm => by
    rw [List.map_cons, List.nodup_cons] at hn
    simp only [lookB]
    rcases List.mem_cons.1 hm with e | hm
    · simp only [Prod.mk.injEq] at e
      obtain ⟨rfl, rfl, rfl⟩ := e
      rw [if_pos rfl]
    · rw [if_neg (fun e : b = k => hn.1 (by simp only; rw [e]; exact List.mem_map.2 ⟨_, hm, rfl⟩))]
      exact lookB_of_mem hn.2 hm
/-- The frame of a callee: what frames the caller, and the blocks that the caller keeps. -/
def addF (F : Gh) (l : HS) : Gh := fun k => match F k with | some o => some o | none => lookB l k
theorem Mem.frame {w : World} {h1 h2 : HS} (hw : Mem (h1 ++ h2) F E w) : Mem h1 (addF F h2) E w := by
  have hn := hw.nodup
  rw [List.map_append, List.nodup_append] at hn
  refine ⟨hw.os, hw.tape, hw.output, hw.part.own, hw.part.nodup, fun k o hk => ?_, fun b hb => ?_⟩
  · unfold addF at hk
    cases hF : F k with
    | some o' => simp only [hF] at hk; rw [← hk, ← hF]; exact hF ▸ hw.fr k o' hF
    | none =>
      simp only [hF] at hk
      obtain ⟨t, cs, hm, rfl⟩ := lookB_mem hk
      exact hw.own k t cs (List.mem_append_right _ hm)
  · unfold addF
    rw [hw.part.dis b hb]
    cases hl : lookB h2 b with
    | none => rfl
    | some o =>
      obtain ⟨t, cs, hm, _⟩ := lookB_mem hl
      exact absurd rfl (hn.2.2 b hb b (List.mem_map.2 ⟨_, hm, rfl⟩))
theorem Mem.unframe {w w' : World} {h1 h2 h1' : HS} (hw : Mem (h1 ++ h2) F E w) (hw' : Mem h1' (addF F h2) E w') : Mem (h1' ++ h2) F E w' := by
  have hn := hw.nodup
  rw [List.map_append, List.nodup_append] at hn
  have hnone : ∀ b, b ∈ h2.map (·.1) → F b = none := fun b hb => hw.dis b (by rw [List.map_append]; exact List.mem_append_right _ hb)
  have hfr : ∀ k o, F k = some o → addF F h2 k = some o := fun k o h => by simp [addF, h]
  refine ⟨hw'.os, hw'.tape, hw'.output, fun b t cs hm => ?_, ?_, fun k o hk => hw'.fr k o (hfr k o hk), fun b hb => ?_⟩
  · rcases List.mem_append.1 hm with hm | hm
    · exact hw'.own b t cs hm
    · refine hw'.fr b _ ?_
      simp only [addF, hnone b (List.mem_map.2 ⟨_, hm, rfl⟩)]
      exact lookB_of_mem hn.2.1 hm
  · rw [List.map_append, List.nodup_append]
    refine ⟨hw'.nodup, hn.2.1, fun a ha b hb e => ?_⟩
    subst e
    have h3 := hw'.dis a ha
    obtain ⟨⟨a', t, cs⟩, hm, rfl⟩ := List.mem_map.1 hb
    simp only [addF, hnone _ hb, lookB_of_mem hn.2.1 hm] at h3
    cases h3
  · rw [List.map_append] at hb
    rcases List.mem_append.1 hb with hb | hb
    · have := hw'.dis b hb
      unfold addF at this
      cases hF : F b with
      | none => rfl
      | some o => simp [hF] at this
    · exact hnone b hb

theorem yl_build {t : TypeId} {parts : Array (Nat × Operand)} {cells : Array Value} {d : Option Nat} {g : Option (Nat × Bool)} (hc : ∀ a : Act, (parts.map fun (i, x) => (i, a.eval x)) = parts.map fun (i, x) => (i, (Act.mk #[] []).eval x))
    (hb : P.built t (parts.map fun (i, x) => (i, (Act.mk #[] []).eval x)).toList = some cells) : Yl P n F E vs hs ⟨d, .build t parts, ty, pos, af, g⟩ (.agg cells) := fun a w _ _ => by
  simp only [execOp, hc a, Sem.run_bind, run_build w t _ cells hb, Result.andThen_ok]; rfl

/-! ### Steps of one operation behind another -/
theorem step_wp {o : Oper} (hg : o.guard = none) (h : ∀ a w, RA n vs a → Mem hs F E w → ∀ K : Act → World → Prop, (∀ a' w', wpList P ops Q rest a' w' → K a' w') → o.wp P a w K Q) : WO P n F E vs hs ops Q (o :: rest) :=
  fun a w ha hw => wpList_plain hg fun K hK => h a w ha hw K hK
theorem s_boxA {t : TypeId} {x : Operand} {cs : Array Value} (hx : ev vs x = some (.agg cs)) (hd : Nat.blt d n = true)
    (h : ∀ b, WO P n F E ((d, .pointer (some ⟨b, 0, none⟩)) :: vs) ((b, t, cs) :: hs) ops Q rest) : WO P n F E vs hs ops Q (⟨some d, .box t x, ty, pos, af, none⟩ :: rest) :=
  step_wp rfl fun a w ha hw K hK => by
    have e : (execOp a.eval ⟨some d, .box t x, ty, pos, af, none⟩).run P w = .ok (.value (.pointer (some ⟨w.heap.size, 0, none⟩))) (w.alloc (.cells cs t)) := by
      simp only [execOp, ha.eval hx]; rfl
    unfold Oper.wp
    rw [e]
    exact hK _ _ (h w.heap.size _ _ (ha.put (Nat.le_of_ble_eq_true hd) _) (hw.alloc t cs))
theorem cells_one {v : Value} (hv : v.oneCell' = true) : v.cells = #[v] := by cases v <;> simp [Value.oneCell'] at hv <;> rfl
theorem s_box1 {t : TypeId} {x : Operand} {v : Value} (hx : ev vs x = some v) (hv : v.oneCell' = true) (hd : Nat.blt d n = true)
    (h : ∀ b, WO P n F E ((d, .pointer (some ⟨b, 0, none⟩)) :: vs) ((b, t, #[v]) :: hs) ops Q rest) : WO P n F E vs hs ops Q (⟨some d, .box t x, ty, pos, af, none⟩ :: rest) :=
  step_wp rfl fun a w ha hw K hK => by
    have e : (execOp a.eval ⟨some d, .box t x, ty, pos, af, none⟩).run P w = .ok (.value (.pointer (some ⟨w.heap.size, 0, none⟩))) (w.alloc (.cells #[v] t)) := by
      rw [← cells_one hv]; simp only [execOp, ha.eval hx]; rfl
    unfold Oper.wp
    rw [e]
    exact hK _ _ (h w.heap.size _ _ (ha.put (Nat.le_of_ble_eq_true hd) _) (hw.alloc t _))
theorem s_allocA (T : TT P) {t : TypeId} {x : TI} {cs : Array Value} (hx : getT T.l t = some x) (hc : x.zero = .agg cs) (hd : Nat.blt d n = true)
    (h : ∀ b, WO P n F E ((d, .pointer (some ⟨b, 0, none⟩)) :: vs) ((b, t, cs) :: hs) ops Q rest) : WO P n F E vs hs ops Q (⟨some d, .alloc t, ty, pos, af, none⟩ :: rest) :=
  step_wp rfl fun a w ha hw K hK => by
    have e : (execOp a.eval ⟨some d, .alloc t, ty, pos, af, none⟩).run P w = .ok (.value (.pointer (some ⟨w.heap.size, 0, none⟩))) (w.alloc (.cells cs t)) := by
      simp only [execOp, Instr.alloc, Sem.run_bind, TI.run_zero (T.ok _ _ hx), Result.andThen_ok, hc]; rfl
    unfold Oper.wp
    rw [e]
    exact hK _ _ (h w.heap.size _ _ (ha.put (Nat.le_of_ble_eq_true hd) _) (hw.alloc t cs))
theorem s_alloc1 (T : TT P) {t : TypeId} {x : TI} {v : Value} (hx : getT T.l t = some x) (hc : x.zero = v) (hv : v.oneCell' = true) (hd : Nat.blt d n = true)
    (h : ∀ b, WO P n F E ((d, .pointer (some ⟨b, 0, none⟩)) :: vs) ((b, t, #[v]) :: hs) ops Q rest) : WO P n F E vs hs ops Q (⟨some d, .alloc t, ty, pos, af, none⟩ :: rest) :=
  step_wp rfl fun a w ha hw K hK => by
    have e : (execOp a.eval ⟨some d, .alloc t, ty, pos, af, none⟩).run P w = .ok (.value (.pointer (some ⟨w.heap.size, 0, none⟩))) (w.alloc (.cells #[v] t)) := by
      simp only [execOp, Instr.alloc, Sem.run_bind, TI.run_zero (T.ok _ _ hx), Result.andThen_ok, hc]; rw [← cells_one hv]; rfl
    unfold Oper.wp
    rw [e]
    exact hK _ _ (h w.heap.size _ _ (ha.put (Nat.le_of_ble_eq_true hd) _) (hw.alloc t _))
theorem run_store1 (T : TT P) {t t' : TypeId} {x y : Operand} {b o : Nat} {cs cs' : Array Value} {v : Value} {hs' : HS} {xt : TI} (h1 : getT T.l t = some xt) (h2 : xt.size = 1) (hx : ev vs x = some (.pointer (some ⟨b, o, none⟩))) (hy : ev vs y = some v) (hv : v.oneCell' = true)
    (hp : Put hs b t' cs cs' hs') (ho : o < cs.size) (hset : cs.setIfInBounds o v = cs') {a : Act} {w : World} (ha : RA n vs a) (hw : Mem hs F E w) {g : Option (Nat × Bool)} :
    (execOp a.eval ⟨none, .store t x y, ty, pos, af, g⟩).run P w = .ok .skip (w.setRow b cs') := by
  subst hset
  have hb := hw.own b t' cs hp.mem
  have hcell : w.cell? ⟨b, o, none⟩ = some cs[o] := by simp [World.cell?, hb, ho]
  have hfro : w.frozen? ⟨b, o, none⟩ = false := by simp [World.frozen?, hb]
  simp only [execOp, ha.eval hx, ha.eval hy, Instr.storeAt, Instr.sureAddr, storeVar, Sem.run_bind, Sem.run_pure, Result.andThen_ok, TI.run_size (T.ok _ _ h1), h2, cells_one hv]
  simp [storeCells, Addr.add, run_store P w _ v _ hv, hcell, hfro, setCell_eq_setRow w b o cs t' (0, 0) v hb]
theorem run_storeN (T : TT P) {t t' : TypeId} {x y : Operand} {b : Nat} {cs cs' : Array Value} {hs' : HS} {xt : TI} (h1 : getT T.l t = some xt) (hx : ev vs x = some (.pointer (some ⟨b, 0, none⟩))) (hy : ev vs y = some (.agg cs'))
    (hp : Put hs b t' cs cs' hs') {m : Nat} (hsz2 : cs'.size = m) (hold2 : cs.size = m) (hsz0 : xt.size = m) (hone : cs'.all (·.oneCell') = true) {a : Act} {w : World} (ha : RA n vs a) (hw : Mem hs F E w) {g : Option (Nat × Bool)} :
    (execOp a.eval ⟨none, .store t x y, ty, pos, af, g⟩).run P w = .ok .skip (w.setRow b cs') := by
  simp only [execOp, ha.eval hx, ha.eval hy, Instr.storeAt, Instr.sureAddr, Sem.run_bind, Sem.run_pure, Result.andThen_ok,
    run_storeVar_row w b t' t cs cs' (hw.own b t' cs hp.mem) (by rw [TI.size_eq (T.ok _ _ h1), hsz0, hsz2]) (hold2.trans hsz2.symm) hone]
theorem s_store1 (T : TT P) {t t' : TypeId} {x y : Operand} {b o : Nat} {cs cs' : Array Value} {v : Value} {hs' : HS} {xt : TI} (h1 : getT T.l t = some xt) (h2 : xt.size = 1) (hx : ev vs x = some (.pointer (some ⟨b, o, none⟩))) (hy : ev vs y = some v) (hv : v.oneCell' = true)
    (hp : Put hs b t' cs cs' hs') (ho : o < cs.size) (hset : cs.setIfInBounds o v = cs')
    (h : WO P n F E vs hs' ops Q rest) : WO P n F E vs hs ops Q (⟨none, .store t x y, ty, pos, af, none⟩ :: rest) :=
  step_wp rfl fun a w ha hw K hK => by
    unfold Oper.wp
    rw [run_store1 T h1 h2 hx hy hv hp ho hset ha hw]
    exact hK _ _ (h _ _ ha (hw.setRow hp))
theorem s_storeN (T : TT P) {t t' : TypeId} {x y : Operand} {b : Nat} {cs cs' : Array Value} {hs' : HS} {xt : TI} (h1 : getT T.l t = some xt) (hx : ev vs x = some (.pointer (some ⟨b, 0, none⟩))) (hy : ev vs y = some (.agg cs'))
    (hp : Put hs b t' cs cs' hs') {m : Nat} (hsz2 : cs'.size = m) (hold2 : cs.size = m) (hsz0 : xt.size = m) (hone : cs'.all (·.oneCell') = true)
    (h : WO P n F E vs hs' ops Q rest) : WO P n F E vs hs ops Q (⟨none, .store t x y, ty, pos, af, none⟩ :: rest) :=
  step_wp rfl fun a w ha hw K hK => by
    unfold Oper.wp
    rw [run_storeN T h1 hx hy hp hsz2 hold2 hsz0 hone ha hw]
    exact hK _ _ (h _ _ ha (hw.setRow hp))
theorem w_c {c : Code} (vs' : VS) (hv : Sub vs' vs) (h : WC P n F E vs' hs c Q) : WC P n F E vs hs c Q := fun a w ha hw => h a w (ha.sub hv) hw
theorem w_o {l : List Oper} (vs' : VS) (hv : Sub vs' vs) (h : WO P n F E vs' hs ops Q l) : WO P n F E vs hs ops Q l := fun a w ha hw => h a w (ha.sub hv) hw
theorem w_h {c : Code} {hs' : HS} (hh : hs = hs') (h : WC P n F E vs hs' c Q) : WC P n F E vs hs c Q := hh ▸ h

theorem int_eq {k : IntKind} {a b : Int} (h : a = b) : Value.int k a = .int k b := h ▸ rfl
theorem ptr_eq {b o o' : Nat} (h : o = o') : Value.pointer (some ⟨b, o, none⟩) = .pointer (some ⟨b, o', none⟩) := h ▸ rfl
theorem slice_eq {b o o' l l' c c' : Nat} (h : o = o') (h1 : l = l') (h2 : c = c') : Value.slice (some ⟨b, o, none⟩) l c = .slice (some ⟨b, o', none⟩) l' c' := by subst h h1 h2; rfl

/-! ### Guards -/
theorem wanted_of {o : Oper} {a : Act} {j t : Nat} {want b : Bool} (hg : o.guard = some (j, want)) (hj : dstOf ops j = some t) (ht : getS vs t = some (.bool b)) (ha : RA n vs a) : Region.wanted o (yielded ops a.tmps) = (b == want) := by
  have hj' : ((ops[j]?).bind (·.dst)) = some t := hj
  simp only [Region.wanted, hg, yielded, hj', Option.bind_some, ha.slots t _ ht]
  cases b <;> cases want <;> rfl
theorem s_gy {op : Op} {j t : Nat} {want b : Bool} {v : Value} (hj : dstOf ops j = some t) (ht : getS vs t = some (.bool b)) (hb : b = want)
    (hy : Yl P n F E vs hs ⟨some d, op, ty, pos, af, some (j, want)⟩ v) (hd : Nat.blt d n = true)
    (h : WO P n F E ((d, v) :: vs) hs ops Q rest) : WO P n F E vs hs ops Q (⟨some d, op, ty, pos, af, some (j, want)⟩ :: rest) := fun a w ha hw =>
  BigFrame.wpList_want (by rw [wanted_of rfl hj ht ha, hb]; cases want <;> rfl) fun K hK => by
    unfold Oper.wp
    rw [hy a w ha hw]
    exact hK _ _ (h _ w (ha.put (Nat.le_of_ble_eq_true hd) v) hw)
theorem s_gn {op : Op} {j t : Nat} {want b : Bool} (hj : dstOf ops j = some t) (ht : getS vs t = some (.bool b)) (hb : b = !want) (hd : Nat.blt d n = true)
    (h : WO P n F E ((d, undef) :: vs) hs ops Q rest) : WO P n F E vs hs ops Q (⟨some d, op, ty, pos, af, some (j, want)⟩ :: rest) := fun a w ha hw => by
  unfold wpList
  rw [if_neg (by rw [wanted_of rfl hj ht ha, hb]; cases want <;> simp)]
  exact h _ w (ha.put (Nat.le_of_ble_eq_true hd) undef) hw

theorem s_gnt {op : Op} {j t : Nat} {b : Bool} (hj : dstOf ops j = some t) (ht : getS vs t = some (.bool b)) (hb : b = false) (hd : Nat.blt d n = true)
    (h : WO P n F E ((d, undef) :: vs) hs ops Q rest) : WO P n F E vs hs ops Q (⟨some d, op, ty, pos, af, some (j, true)⟩ :: rest) := s_gn hj ht hb hd h
theorem s_gnf {op : Op} {j t : Nat} {b : Bool} (hj : dstOf ops j = some t) (ht : getS vs t = some (.bool b)) (hb : b = true) (hd : Nat.blt d n = true)
    (h : WO P n F E ((d, undef) :: vs) hs ops Q rest) : WO P n F E vs hs ops Q (⟨some d, op, ty, pos, af, some (j, false)⟩ :: rest) := s_gn hj ht hb hd h

/-! ### Calls -/
def evs (vs : VS) : List Operand → Option (List Value)
  | [] => some []
  | x :: r => match ev vs x, evs vs r with
    | some v, some l => some (v :: l)
    | _, _ => none
theorem evs_map {a : Act} (ha : RA n vs a) : ∀ {xs : List Operand} {l : List Value}, evs vs xs = some l → xs.map a.eval = l
  | [], l, h => by simpa [evs] using h
  | x :: r, l, h => by
    simp only [evs] at h
    split at h
    · rename_i v l' h1 h2
      simp only [Option.some.injEq] at h
      rw [List.map_cons, ha.eval h1, evs_map ha h2, h]
    · cases h
def callable (P : Program) (f : FuncId) : Prop := ∃ fn, P.funcs[f]? = some fn ∧ (fn.name == "runtime.NumGoroutine") = false ∧ fn.body.isNone = false
theorem run_call {a : Act} {w : World} (ha : RA n vs a) {o : Oper} {fo : Operand} {xs : List Operand} {ats : Array TypeId} (ho : o.op = .call { callee := .value fo, args := xs.toArray, argTypes := ats }) {f : FuncId} {fs cs : Array Value} {l al : List Value}
    (hf : ev vs fo = some (.func (.func f) fs cs)) (hl : evs vs xs = some l) (hal : fs.toList ++ (l ++ cs.toList) = al) (hc : callable P f) :
    (execOp a.eval o).run P w = .ok (.enter f al.toArray) w := by
  obtain ⟨fn, h1, h2, h3⟩ := hc
  have e : fs ++ (Array.map a.eval xs.toArray) ++ cs = al.toArray := by
    rw [← hal, List.map_toArray, evs_map ha hl]
    apply Array.ext'
    simp
  have hcf : ∀ args, (callFunc f args).run P w = .ok (.enter f args) w := fun args => by
    unfold callFunc
    rw [Sem.run_bind, run_program, Result.andThen_ok]
    simp only [h1, h2, h3, Bool.false_eq_true, if_false]
    rfl
  simp only [execOp, ho, resolve, ha.eval hf, Deferred.ofValue, Sem.run_bind, Sem.run_pure, Result.andThen_ok, invoke, hcf, e]
/-- A call, handed some of the blocks; the others stay. -/
theorem s_call {fo : Operand} {xs : List Operand} {ats : Array TypeId} {f : FuncId} {fs cs : Array Value} {l al : List Value} {h1 h2 : HS} {R : Value → HS → Prop}
    (hf : ev vs fo = some (.func (.func f) fs cs)) (hl : evs vs xs = some l) (hal : fs.toList ++ (l ++ cs.toList) = al) (hp : hs.Perm (h1 ++ h2)) (hc : callable P f) (hfn : Fn P f al.toArray h1 (addF F h2) R) (hd : Nat.blt d n = true)
    (h : ∀ v hs', R v hs' → WO P n F E ((d, v) :: vs) (hs' ++ h2) ops Q rest) :
    WO P n F E vs hs ops Q (⟨some d, .call { callee := .value fo, args := xs.toArray, argTypes := ats }, ty, pos, af, none⟩ :: rest) :=
  step_wp rfl fun a w ha hw K hK => by
    unfold Oper.wp
    rw [run_call ha rfl hf hl hal hc]
    have hw1 := hw.perm hp
    refine (hfn E w hw1.frame).mono ?_
    rintro e w' ⟨v, hs', rfl, hw', hR⟩
    exact hK _ _ (h v hs' hR _ w' (ha.put (Nat.le_of_ble_eq_true hd) v) (hw1.unframe hw'))
/-- A function that hands back this value, and of whose blocks nothing need be known. -/
def FnV (P : Program) (f : FuncId) (args : Array Value) (v : Value) : Prop := callable P f ∧ ∀ F, Fn P f args [] F (fun r _ => r = v)
theorem FnV.mk {f : FuncId} {args : Array Value} {v : Value} (hc : callable P f) (h : ∀ F, Fn P f args [] F (fun r _ => r = v)) : FnV P f args v := ⟨hc, h⟩
theorem s_callv {fo : Operand} {xs : List Operand} {ats : Array TypeId} {f : FuncId} {fs cs : Array Value} {l al : List Value} {v : Value}
    (hf : ev vs fo = some (.func (.func f) fs cs)) (hl : evs vs xs = some l) (hal : fs.toList ++ (l ++ cs.toList) = al) (hfn : FnV P f al.toArray v) (hd : Nat.blt d n = true)
    (h : WO P n F E ((d, v) :: vs) hs ops Q rest) :
    WO P n F E vs hs ops Q (⟨some d, .call { callee := .value fo, args := xs.toArray, argTypes := ats }, ty, pos, af, none⟩ :: rest) :=
  s_call (h1 := []) (h2 := hs) (R := fun r _ => r = v) hf hl hal (List.Perm.refl _) hfn.1 (hfn.2 _) hd fun r hs' e => by
    subst e
    exact fun a w ha hw => h a w ha (Mem.part (h2 := hs') (hw.perm List.perm_append_comm))

theorem s_callg {c : Call} {j t : Nat} {want b : Bool} {d : Option Nat} (hj : dstOf ops j = some t) (ht : getS vs t = some (.bool b)) (hb : b = want)
    (h : WO P n F E vs hs ops Q (⟨d, .call c, ty, pos, af, none⟩ :: rest)) : WO P n F E vs hs ops Q (⟨d, .call c, ty, pos, af, some (j, want)⟩ :: rest) := fun a w ha hw => by
  have h1 := h a w ha hw
  unfold wpList at h1 ⊢
  rw [if_pos (show Region.wanted ⟨d, .call c, ty, pos, af, none⟩ (yielded ops a.tmps) = true from rfl)] at h1
  rw [if_pos (by rw [wanted_of rfl hj ht ha, hb]; cases want <;> rfl)]
  exact h1

/-! ### A region that draws its order -/
def WQ (P : Program) (n : Nat) (F : Gh) (E : World) (vs : VS) (hs : HS) (ops : Array Oper) (Q : Exit → Act → World → Prop) (l : List Oper) : Prop :=
  ∀ a, RA n vs a → wq P ops (fun a' C' => ∀ w', C' w' → Q .normal a' w') l a (Mem hs F E)
theorem c_draw {id : Nat} {l : List Oper} (hm : P.follows .mixedOrders = true) (hB : drawOk l.toArray = true)
    (h : WQ P n F E vs hs l.toArray Q l) : WC P n F E vs hs (.region id l.toArray true) Q :=
  fun a _ ha hw => region_wq hm hB hw.drew (h a ha)
theorem q_nil (h : WX n F E vs hs Q .normal) : WQ P n F E vs hs ops Q [] := fun a ha w' hw' => h a w' ha hw'
def gh0 : Gh := fun _ => none
theorem mem0 (w : World) : Mem [] gh0 w w := ⟨rfl, rfl, rfl, fun _ _ _ h => absurd h List.not_mem_nil, List.nodup_nil, fun _ _ h => (by cases h), fun _ h => absurd h List.not_mem_nil⟩
theorem wq_want {o : Oper} {a : Act} {K : Act → (World → Prop) → Prop} {C : World → Prop} (hw : Region.wanted o (yielded ops a.tmps) = true)
    (h : match kindOf o.op with
      | .pure => ∃ v, (∀ w, (execOp a.eval o).run P w = .ok (.value v) w) ∧ wq P ops K rest (a.put o.dst v) C
      | .quiet => ∃ v, (∀ w, C w → o.quietAt P a C w v) ∧ wq P ops K rest (a.put o.dst v) C
      | .store => o.dst = none ∧ ∃ C' : World → Prop, (∀ w, C w → ∃ w', (execOp a.eval o).run P w = .ok .skip w' ∧ C' w') ∧ wq P ops K rest a C') : wq P ops K (o :: rest) a C := by
  unfold wq; rw [if_pos hw]; exact h
theorem q_pure {op : Op} {v : Value} (hk : kindOf op = .pure) (hy : ∀ E, Yl P n gh0 E vs [] ⟨some d, op, ty, pos, af, none⟩ v) (hd : Nat.blt d n = true)
    (h : WQ P n F E ((d, v) :: vs) hs ops Q rest) : WQ P n F E vs hs ops Q (⟨some d, op, ty, pos, af, none⟩ :: rest) := fun a ha =>
  wq_want rfl (by simp only [hk]; exact ⟨v, fun w => hy w a w ha (mem0 w), h _ (ha.put (Nat.le_of_ble_eq_true hd) v)⟩)
theorem q_pureg {op : Op} {j t : Nat} {want b : Bool} {v : Value} (hk : kindOf op = .pure) (hj : dstOf ops j = some t) (ht : getS vs t = some (.bool b)) (hb : b = want) (hy : ∀ E, Yl P n gh0 E vs [] ⟨some d, op, ty, pos, af, some (j, want)⟩ v) (hd : Nat.blt d n = true)
    (h : WQ P n F E ((d, v) :: vs) hs ops Q rest) : WQ P n F E vs hs ops Q (⟨some d, op, ty, pos, af, some (j, want)⟩ :: rest) := fun a ha =>
  wq_want (by rw [wanted_of rfl hj ht ha, hb]; cases want <;> rfl) (by simp only [hk]; exact ⟨v, fun w => hy w a w ha (mem0 w), h _ (ha.put (Nat.le_of_ble_eq_true hd) v)⟩)
theorem qat {o : Oper} {a : Act} {v : Value} (ha : RA n vs a) (hy : Yl P n F E vs hs o v) : ∀ w, Mem hs F E w → o.quietAt P a (Mem hs F E) w v := fun w hw => by
  unfold Oper.quietAt
  rw [hy a w ha hw]
  exact ⟨rfl, rfl⟩
theorem q_op {op : Op} {v : Value} (hk : kindOf op = .quiet) (hy : Yl P n F E vs hs ⟨some d, op, ty, pos, af, none⟩ v) (hd : Nat.blt d n = true)
    (h : WQ P n F E ((d, v) :: vs) hs ops Q rest) : WQ P n F E vs hs ops Q (⟨some d, op, ty, pos, af, none⟩ :: rest) := fun a ha =>
  wq_want rfl (by simp only [hk]; exact ⟨v, qat ha hy, h _ (ha.put (Nat.le_of_ble_eq_true hd) v)⟩)
theorem q_opg {op : Op} {j t : Nat} {want b : Bool} {v : Value} (hk : kindOf op = .quiet) (hj : dstOf ops j = some t) (ht : getS vs t = some (.bool b)) (hb : b = want)
    (hy : Yl P n F E vs hs ⟨some d, op, ty, pos, af, some (j, want)⟩ v) (hd : Nat.blt d n = true)
    (h : WQ P n F E ((d, v) :: vs) hs ops Q rest) : WQ P n F E vs hs ops Q (⟨some d, op, ty, pos, af, some (j, want)⟩ :: rest) := fun a ha =>
  wq_want (by rw [wanted_of rfl hj ht ha, hb]; cases want <;> rfl) (by simp only [hk]; exact ⟨v, qat ha hy, h _ (ha.put (Nat.le_of_ble_eq_true hd) v)⟩)
theorem q_gn {op : Op} {j t : Nat} {want b : Bool} (hk : (match kindOf op with | .store => false | _ => true) = true) (hj : dstOf ops j = some t) (ht : getS vs t = some (.bool b)) (hb : b = !want) (hd : Nat.blt d n = true)
    (h : WQ P n F E ((d, undef) :: vs) hs ops Q rest) : WQ P n F E vs hs ops Q (⟨some d, op, ty, pos, af, some (j, want)⟩ :: rest) := fun a ha => by
  unfold wq
  rw [if_neg (by rw [wanted_of rfl hj ht ha, hb]; cases want <;> simp)]
  exact ⟨fun e => by simp [e] at hk, h _ (ha.put (Nat.le_of_ble_eq_true hd) undef)⟩
theorem q_gnt {op : Op} {j t : Nat} {b : Bool} (hk : (match kindOf op with | .store => false | _ => true) = true) (hj : dstOf ops j = some t) (ht : getS vs t = some (.bool b)) (hb : b = false) (hd : Nat.blt d n = true)
    (h : WQ P n F E ((d, undef) :: vs) hs ops Q rest) : WQ P n F E vs hs ops Q (⟨some d, op, ty, pos, af, some (j, true)⟩ :: rest) := q_gn hk hj ht hb hd h
theorem q_gnf {op : Op} {j t : Nat} {b : Bool} (hk : (match kindOf op with | .store => false | _ => true) = true) (hj : dstOf ops j = some t) (ht : getS vs t = some (.bool b)) (hb : b = true) (hd : Nat.blt d n = true)
    (h : WQ P n F E ((d, undef) :: vs) hs ops Q rest) : WQ P n F E vs hs ops Q (⟨some d, op, ty, pos, af, some (j, false)⟩ :: rest) := q_gn hk hj ht hb hd h

theorem q_store1 (T : TT P) {t t' : TypeId} {x y : Operand} {b o : Nat} {cs cs' : Array Value} {v : Value} {hs' : HS} {xt : TI} (h1 : getT T.l t = some xt) (h2 : xt.size = 1) (hx : ev vs x = some (.pointer (some ⟨b, o, none⟩))) (hy : ev vs y = some v) (hv : v.oneCell' = true)
    (hp : Put hs b t' cs cs' hs') (ho : o < cs.size) (hset : cs.setIfInBounds o v = cs')
    (h : WQ P n F E vs hs' ops Q rest) : WQ P n F E vs hs ops Q (⟨none, .store t x y, ty, pos, af, none⟩ :: rest) := fun a ha =>
  wq_want rfl ⟨rfl, Mem hs' F E, fun _ hw => ⟨_, run_store1 T h1 h2 hx hy hv hp ho hset ha hw, hw.setRow hp⟩, h a ha⟩
theorem q_storeN (T : TT P) {t t' : TypeId} {x y : Operand} {b : Nat} {cs cs' : Array Value} {hs' : HS} {xt : TI} (h1 : getT T.l t = some xt) (hx : ev vs x = some (.pointer (some ⟨b, 0, none⟩))) (hy : ev vs y = some (.agg cs'))
    (hp : Put hs b t' cs cs' hs') {m : Nat} (hsz2 : cs'.size = m) (hold2 : cs.size = m) (hsz0 : xt.size = m) (hone : cs'.all (·.oneCell') = true)
    (h : WQ P n F E vs hs' ops Q rest) : WQ P n F E vs hs ops Q (⟨none, .store t x y, ty, pos, af, none⟩ :: rest) := fun a ha =>
  wq_want rfl ⟨rfl, Mem hs' F E, fun _ hw => ⟨_, run_storeN T h1 hx hy hp hsz2 hold2 hsz0 hone ha hw, hw.setRow hp⟩, h a ha⟩
theorem qcall_at {o : Oper} {a : Act} (ha : RA n vs a) {fo : Operand} {xs : List Operand} {ats : Array TypeId} (ho : o.op = .call { callee := .value fo, args := xs.toArray, argTypes := ats }) {f : FuncId} {fs cs : Array Value} {l al : List Value} {v : Value}
    (hf : ev vs fo = some (.func (.func f) fs cs)) (hl : evs vs xs = some l) (hal : fs.toList ++ (l ++ cs.toList) = al) (hfn : FnV P f al.toArray v) : ∀ w, Mem hs F E w → o.quietAt P a (Mem hs F E) w v := fun w hw => by
  unfold Oper.quietAt
  rw [run_call ha ho hf hl hal hfn.1]
  have hw0 : Mem ([] ++ hs) F E w := hw
  refine ⟨rfl, (hfn.2 _ E w hw0.frame).mono ?_⟩
  rintro e w' ⟨r, hs', rfl, hw', rfl⟩
  exact ⟨rfl, Mem.part (h2 := hs') ((hw0.unframe hw').perm List.perm_append_comm)⟩
theorem q_call {fo : Operand} {xs : List Operand} {ats : Array TypeId} {f : FuncId} {fs cs : Array Value} {l al : List Value} {v : Value}
    (hf : ev vs fo = some (.func (.func f) fs cs)) (hl : evs vs xs = some l) (hal : fs.toList ++ (l ++ cs.toList) = al) (hfn : FnV P f al.toArray v) (hd : Nat.blt d n = true)
    (h : WQ P n F E ((d, v) :: vs) hs ops Q rest) :
    WQ P n F E vs hs ops Q (⟨some d, .call { callee := .value fo, args := xs.toArray, argTypes := ats }, ty, pos, af, none⟩ :: rest) := fun _ ha =>
  wq_want rfl ⟨v, qcall_at ha rfl hf hl hal hfn, h _ (ha.put (Nat.le_of_ble_eq_true hd) v)⟩
theorem q_callg {j t : Nat} {want b : Bool} {fo : Operand} {xs : List Operand} {ats : Array TypeId} {f : FuncId} {fs cs : Array Value} {l al : List Value} {v : Value} (hj : dstOf ops j = some t) (ht : getS vs t = some (.bool b)) (hb : b = want)
    (hf : ev vs fo = some (.func (.func f) fs cs)) (hl : evs vs xs = some l) (hal : fs.toList ++ (l ++ cs.toList) = al) (hfn : FnV P f al.toArray v) (hd : Nat.blt d n = true)
    (h : WQ P n F E ((d, v) :: vs) hs ops Q rest) :
    WQ P n F E vs hs ops Q (⟨some d, .call { callee := .value fo, args := xs.toArray, argTypes := ats }, ty, pos, af, some (j, want)⟩ :: rest) := fun a ha =>
  wq_want (by rw [wanted_of rfl hj ht ha, hb]; cases want <;> rfl) ⟨v, qcall_at ha rfl hf hl hal hfn, h _ (ha.put (Nat.le_of_ble_eq_true hd) v)⟩

/-! ### A drawn region with one allocation -/
theorem Mem.tail {w : World} {x : Nat × TypeId × Array Value} (hw : Mem (x :: hs) F E w) : Mem hs F E w := Mem.part (h1 := hs) (h2 := [x]) (hw.perm (List.perm_append_comm (l₁ := [x]) (l₂ := hs)))
def famC (hs : HS) (F : Gh) (E : World) (t : TypeId) (cs : Array Value) : Option Nat → World → Prop
  | none => Mem hs F E
  | some b => Mem ((b, t, cs) :: hs) F E
def WF (P : Program) (n : Nat) (F : Gh) (E : World) (vs : VS) (hs : HS) (t : TypeId) (cs : Array Value) (ops : Array Oper) (K : Act → Prop) (l : List Oper) : Prop := ∀ a, RA n vs a → wqf P ops (famC hs F E t cs) K l a
def splitAl : List Oper → Option (List Oper × Oper × List Oper)
  | [] => none
  | o :: r => match o.op with
    | .alloc _ => some ([], o, r)
    | _ => match splitAl r with
      | some (a, b, c) => some (o :: a, b, c)
      | none => none
theorem splitAl_eq : ∀ {l l1 l2 : List Oper} {o : Oper}, splitAl l = some (l1, o, l2) → l = l1 ++ o :: l2
  | [], _, _, _, h => by cases h
  | x :: r, l1, l2, o, h => by
    unfold splitAl at h
    split at h
    · simp only [Option.some.injEq, Prod.mk.injEq] at h
      obtain ⟨rfl, rfl, rfl⟩ := h
      rfl
    · split at h
      · rename_i a b c hs
        simp only [Option.some.injEq, Prod.mk.injEq] at h
        obtain ⟨rfl, rfl, rfl⟩ := h
        rw [splitAl_eq hs]; rfl
      · cases h
theorem c_drawa (T : TT P) {id : Nat} {l l1 l2 : List Oper} {d : Nat} {t : TypeId} {ty : TypeId} {pos : String} {af : Array Edge} {x : TI} {cs : Array Value} (hsp : splitAl l = some (l1, ⟨some d, .alloc t, ty, pos, af, none⟩, l2)) (hm : P.follows .mixedOrders = true)
    (hx : getT T.l t = some x) (hc : x.zero = .agg cs ∨ (x.zero.oneCell' = true ∧ cs = #[x.zero])) (hB : drawOk l.toArray = true) (hB2 : drawAl l.toArray l1.length = true)
    (h : WF P n F E vs hs t cs l.toArray (fun a => ∀ b, wq P l.toArray (fun a' C' => ∀ w', C' w' → Q .normal a' w') l2 (a.put (some d) (.pointer (some ⟨b, 0, none⟩))) (Mem ((b, t, cs) :: hs) F E)) l1) : WC P n F E vs hs (.region id l.toArray true) Q := fun a w ha hw => by
  have e := splitAl_eq hsp
  subst e
  refine region_wqa (Cf := famC hs F E t cs) (d := d) hm hB hB2 rfl rfl hw.drew (fun a w hw => ?_) (h a ha)
  have hz : (execOp a.eval ⟨some d, .alloc t, ty, pos, af, none⟩).run P w = .ok (.value (.pointer (some ⟨w.heap.size, 0, none⟩))) (w.alloc (.cells cs t)) := by
    rcases hc with hc | ⟨h1, rfl⟩
    · simp only [execOp, Instr.alloc, Sem.run_bind, TI.run_zero (T.ok _ _ hx), Result.andThen_ok, hc]; rfl
    · simp only [execOp, Instr.alloc, Sem.run_bind, TI.run_zero (T.ok _ _ hx), Result.andThen_ok]; rw [← cells_one h1]; rfl
  exact ⟨_, _, hz, Mem.alloc hw t cs⟩
section
variable {t : TypeId} {cs : Array Value} {K : Act → Prop}
theorem f_nil {d : Nat} {l2 : List Oper} (hd : Nat.blt d n = true) (h : ∀ b, WQ P n F E ((d, .pointer (some ⟨b, 0, none⟩)) :: vs) ((b, t, cs) :: hs) ops Q l2) :
    WF P n F E vs hs t cs ops (fun a => ∀ b, wq P ops (fun a' C' => ∀ w', C' w' → Q .normal a' w') l2 (a.put (some d) (.pointer (some ⟨b, 0, none⟩))) (Mem ((b, t, cs) :: hs) F E)) [] := fun _ ha b => h b _ (ha.put (Nat.le_of_ble_eq_true hd) _)
theorem wqf_want {o : Oper} {a : Act} {Cf : Option Nat → World → Prop} (hw : Region.wanted o (yielded ops a.tmps) = true)
    (h : match kindOf o.op with
      | .pure => ∃ v, (∀ w, (execOp a.eval o).run P w = .ok (.value v) w) ∧ wqf P ops Cf K rest (a.put o.dst v)
      | .quiet => ∃ v, (∀ x w, Cf x w → o.quietAt P a (Cf x) w v) ∧ wqf P ops Cf K rest (a.put o.dst v)
      | .store => False) : wqf P ops Cf K (o :: rest) a := by
  unfold wqf; rw [if_pos hw]; exact h
theorem fat {o : Oper} {a : Act} {v : Value} (ha : RA n vs a) (hy : Yl P n F E vs hs o v) : ∀ x w, famC hs F E t cs x w → o.quietAt P a (famC hs F E t cs x) w v := fun x w hw => by
  cases x with
  | none => exact qat ha hy w hw
  | some b => exact qat (hs := (b, t, cs) :: hs) ha (fun a' w' ha' hw' => hy a' w' ha' hw'.tail) w hw
theorem f_pure {op : Op} {v : Value} (hk : kindOf op = .pure) (hy : ∀ E, Yl P n gh0 E vs [] ⟨some d, op, ty, pos, af, none⟩ v) (hd : Nat.blt d n = true)
    (h : WF P n F E ((d, v) :: vs) hs t cs ops K rest) : WF P n F E vs hs t cs ops K (⟨some d, op, ty, pos, af, none⟩ :: rest) := fun a ha =>
  wqf_want rfl (by simp only [hk]; exact ⟨v, fun w => hy w a w ha (mem0 w), h _ (ha.put (Nat.le_of_ble_eq_true hd) v)⟩)
theorem f_op {op : Op} {v : Value} (hk : kindOf op = .quiet) (hy : Yl P n F E vs hs ⟨some d, op, ty, pos, af, none⟩ v) (hd : Nat.blt d n = true)
    (h : WF P n F E ((d, v) :: vs) hs t cs ops K rest) : WF P n F E vs hs t cs ops K (⟨some d, op, ty, pos, af, none⟩ :: rest) := fun a ha =>
  wqf_want rfl (by simp only [hk]; exact ⟨v, fat ha hy, h _ (ha.put (Nat.le_of_ble_eq_true hd) v)⟩)
theorem f_call {fo : Operand} {xs : List Operand} {ats : Array TypeId} {f : FuncId} {fs cs' : Array Value} {l al : List Value} {v : Value}
    (hf : ev vs fo = some (.func (.func f) fs cs')) (hl : evs vs xs = some l) (hal : fs.toList ++ (l ++ cs'.toList) = al) (hfn : FnV P f al.toArray v) (hd : Nat.blt d n = true)
    (h : WF P n F E ((d, v) :: vs) hs t cs ops K rest) :
    WF P n F E vs hs t cs ops K (⟨some d, .call { callee := .value fo, args := xs.toArray, argTypes := ats }, ty, pos, af, none⟩ :: rest) := fun a ha =>
  wqf_want rfl ⟨v, fun x w hw => by
    cases x with
    | none => exact qcall_at (hs := hs) ha rfl hf hl hal hfn w hw
    | some b => exact qcall_at (hs := (b, t, cs) :: hs) ha rfl hf hl hal hfn w hw, h _ (ha.put (Nat.le_of_ble_eq_true hd) v)⟩
end

/-! ### The end -/
theorem ret_tmp {fn : Func} {t : Nat} {v : Value} {R : Value → HS → Prop} (hr : fn.results = #[.tmp t]) (hv : getS vs t = some v) (hR : R v hs) : WX n F E vs hs (bodyPost P fn (FP F E R)) .ret := fun a w ha hw =>
  bodyPost_ret (v := v) (by rw [results_tmp hr]; simp [ha.slots t v hv]) ha.defers ⟨v, hs, rfl, hw, hR⟩
theorem ret_cellN (T : TT P) {fn : Func} {t ty : Nat} {b : Nat} {t' : TypeId} {cs : Array Value} {xt : TI} {R : Value → HS → Prop} (hr : fn.results = #[.cell t ty]) (h1 : getT T.l ty = some xt) (h1' : aggD xt.desc = true)
    (hv : getS vs t = some (.pointer (some ⟨b, 0, none⟩))) (hm : (b, t', cs) ∈ hs) {m : Nat} (hcs : cs.size = m) (hsz0 : xt.size = m) (hR : R (.agg cs) hs) : WX n F E vs hs (bodyPost P fn (FP F E R)) .ret := fun a w ha hw => by
  have hp : a.tmps.getD t undef = .pointer (some ⟨b, 0, none⟩) := by simp [ha.slots t _ hv]
  have hsz : xt.size = cs.size := hsz0.trans hcs.symm
  have h2 := T.ok _ _ h1
  have h3 := (TI.size_eq h2).trans (by rw [hsz])
  have h4 := h2.1
  refine bodyPost_ret (v := .agg cs) ?_ ha.defers ⟨_, hs, rfl, hw, hR⟩
  obtain ⟨ds, sz, bs, z⟩ := xt
  cases ds <;> simp only [aggD, Bool.false_eq_true] at h1' <;> exact results_cell_row hr a.tmps w b t' cs (0, 0) _ hp (hw.own b t' cs hm) h4 rfl h3
end

end Go.Lg

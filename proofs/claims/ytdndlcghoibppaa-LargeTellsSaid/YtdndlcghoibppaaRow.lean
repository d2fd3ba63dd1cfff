/- From a function that answers true whatever its arguments to what a given row asks of it. -/
import Derived.Test.YtdndlcghoibppaaTy
import Derived.Test.YtdndlcghoibppaaRows
import Derived.ProofKit
namespace Go.Proofs.Ytdndlcghoibppaa
open Go Go.Lg Go.ChangeShapes Go.WideShapes Go.ChangeAt Go.RowKit
theorem own0 : ownKnob Try.prog.godebug = none := by kernel_rfl
theorem laidOut0 : laidOutB Try.prog = true := by kernel_rfl
/-- What was in memory stays, and more may be there. -/
theorem mem_below {W w : World} {hs : HS} (h : Mem hs (fun k => W.heap[k]?) W w) : Below W.heap.size W w := by
  refine ⟨h.os, h.tape, h.output, ?_, fun k hk => ?_⟩
  · rcases Nat.eq_zero_or_pos W.heap.size with e | e
    · omega
    · have h1 := h.fr (W.heap.size - 1) (W.heap[W.heap.size - 1]'(by omega)) (Array.getElem?_eq_getElem (by omega))
      have h2 := (Array.getElem?_eq_some_iff.1 h1).1
      omega
  · rw [Array.getElem?_eq_getElem hk]
    exact h.fr k _ (Array.getElem?_eq_getElem hk)
theorem mem_start (W : World) : Mem [] (fun k => W.heap[k]?) W W := ⟨rfl, rfl, rfl, (fun b t cs h => by cases h), List.nodup_nil, (fun _ _ h => h), (fun b h => by cases h)⟩
theorem trodAll_stay {H : Type} {enc : TypeId × Value → H} {P : Program} (hl : laidOutB P = true) {W W' : World} (hb : Below W.heap.size W W') : ∀ {ts : List TypeId} {vs : List Value} {ds : List (DataW H)} {ps : List MemPlace},
    (∀ t, t ∈ ts → P.readableRec t = true ∧ t < P.types.size) → (∀ x ∈ ps, x.block < W.heap.size) →
    DataW.TrodAll enc P W 0 (fun _ => true) true ts vs ds ps → DataW.TrodAll enc P W' 0 (fun b => decide (b < W.heap.size)) true ts vs ds ps := by
  intro ts
  induction ts with
  | nil => intro vs ds ps _ _ h; obtain ⟨rfl, rfl, rfl⟩ := trodAll_nil h; exact trodAll_mk0
  | cons t ts ih =>
    intro vs ds ps ht hp h
    obtain ⟨v, vs', d, ds', p, q, rfl, rfl, rfl, hd, hr⟩ := trodAll_cons h
    obtain ⟨h1, h2⟩ := ht t List.mem_cons_self
    exact ⟨p, q, Below.trod hl h1 h2 hd hb (fun x hx => hp x (List.mem_append_left _ hx)), (ih (fun t' h' => ht t' (List.mem_cons_of_mem _ h')) (fun x hx => hp x (List.mem_append_right _ hx)) hr), rfl⟩
/-- What a row of a law asks behind the call. -/
theorem law_post {H : Type} {enc : TypeId × Value → H} {P : Program} {f : Func} {s : ChangeSpec} {apart fresh : Bool} {W W' : World} {args : Array Value} {ds gs : List (DataW H)} {before : List MemPlace} {bt : TypeId}
    (hl : laidOutB P = true) (hv : s.vars = []) (hW : DataW.Whole enc P f.params.toList s.vars apart W args.toList ds gs before)
    (ht : ∀ t, t ∈ f.params.toList → P.readableRec t = true ∧ t < P.types.size) (hr : f.resultTypes = #[bt]) (hbt : P.underlying bt = some .bool)
    (hs : s.fn H (ds ++ gs) = { results := [.lit (.bool true)], args := ds }) (hb : Below W.heap.size W W') :
    s.post enc P f apart fresh false false W args (.bool true) W' := by
  have hW' := hW
  obtain ⟨p, q, hA, hV, rfl, hfz, hnd⟩ := hW
  rw [hv] at hV
  obtain ⟨rfl, rfl⟩ := trodVars_none hV
  have hlt := hW'.lt
  refine ⟨ds, [], p ++ [], [], p, [], hW', ?_, ?_, ?_, hb.frame _, fun h => by cases h⟩
  · rw [hs, hr]
    exact trodAll_mk1 (shut_bool hbt true)
  · rw [hs]
    exact trodAll_stay hl hb ht (fun x hx => hlt x (List.mem_append_left _ hx)) hA
  · rw [hs, hv]
    rfl
/-- A call that answers true, from any memory: what there was stays. -/
theorem law_calls {P : Program} {f : FuncId} {args : Array Value} (h : FnV P f args (.bool true)) (W : World) : Calls P f args W (fun e w => e = .returned (.bool true) ∧ Below W.heap.size W w) := by
  refine (h.2 (fun k => W.heap[k]?) W W (mem_start W)).mono ?_
  rintro e w ⟨v, hs', rfl, hm, rfl, rfl⟩
  exact ⟨rfl, mem_below hm⟩
/-- What an argument can be: an array of ints. -/
theorem open_ar {P : Program} {W : World} {base : Nat} {t e : TypeId} {n : Nat} {v : Value} (ht : P.underlying t = some (.array n e)) (he : P.underlying e = some (.int .i64)) (hc : P.cellsOf t = n)
    (hts : P.cellTypes P.depth t = some (List.replicate n e)) (hv : Value.okWide P W .any base t v) :
    ∃ f : Nat → Int, v = .agg (ar n .i64 f) ∧ ∀ i, i < n → I64 (f i) := by
  rw [Value.okWide, ht] at hv
  obtain ⟨cs, rfl, hsz, ts, h1, -, h3⟩ := hv
  rw [hts] at h1
  cases h1
  rw [hc] at hsz
  have key : ∀ i, i < n → ∃ x : Int, cs[i]? = some (.int .i64 x) ∧ I64 x := by
    intro i hi
    obtain ⟨u, hu, hok⟩ := h3 i (cs[i]'(by omega)) (Array.getElem?_eq_getElem (by omega))
    obtain ⟨h4, h5⟩ := List.getElem?_eq_some_iff.1 hu
    rw [List.getElem_replicate] at h5
    subst h5
    generalize hg : cs[i]'(by omega) = cv at hok
    cases cv <;> simp only [Cell.okWide, Cell.ok, he] at hok
    all_goals first | exact hok.elim | skip
    obtain ⟨rfl, h6⟩ := hok
    refine ⟨_, by rw [Array.getElem?_eq_getElem (by omega), hg], ?_⟩
    simp only [IntKind.has, IntKind.min, IntKind.max, IntKind.signed, IntKind.bits] at h6
    simp at h6
    exact ⟨by omega, by omega⟩
  refine ⟨fun i => match cs[i]? with | some (.int _ x) => x | _ => 0, ?_, fun i hi => ?_⟩
  · congr 1
    apply Array.ext
    · rw [ar_size, hsz]
    · intro i h1 h2
      obtain ⟨x, hx, -⟩ := key i (by omega)
      have hx' := hx
      rw [Array.getElem?_eq_getElem h1, Option.some.injEq] at hx'
      have := ar_get (k := .i64) (f := fun i => match cs[i]? with | some (Value.int _ x) => x | _ => 0) (show i < n by omega)
      rw [Array.getElem?_eq_getElem h2, Option.some.injEq] at this
      rw [this, hx', hx]
  · obtain ⟨x, hx, h64⟩ := key i hi
    simp only [hx]
    exact h64
theorem open_poly {W : World} {base : Nat} {v : Value} (hv : Value.okWide Try.prog W .any base 23 v) : ∃ f : Nat → Int, v = .agg (ar 256 .i64 f) ∧ ∀ i, i < 256 → I64 (f i) :=
  open_ar Try.underlying23 Try.underlying3 (by kernel_rfl) (by kernel_rfl) hv
end Go.Proofs.Ytdndlcghoibppaa

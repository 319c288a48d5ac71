/- Maps by what they hold, whatever the order of the entries; a region that draws its order, by an invariant. -/
import Derived.Test.YtdnpgloacdhliaaDoorKit2
import Derived.Maps.Own
import Derived.OrdersHeld
namespace Go.Proofs.YtdnpgloacdhliaaDoor
open Go.RowKit Go.WideMaps
open Go.Maps (Keyed)

/-- Block b is a map that holds just these pairs. -/
def MapOf (w : World) (b : Nat) (L : List (Value × Value)) : Prop :=
  ∃ es clock, w.heap[b]? = some (.map es clock) ∧ MapKept.Stamped es clock ∧ (es.toList.map fun e => (e.key, e.val)).Perm L

theorem MapOf.made (w : World) : MapOf (w.alloc (.map #[] 0)) w.heap.size [] :=
  ⟨#[], 0, heap_alloc_new w _, MapKept.stamped_empty 0, .nil⟩
theorem MapOf.lt {w : World} {b : Nat} {L : List (Value × Value)} (h : MapOf w b L) : b < w.heap.size := by
  obtain ⟨es, clock, hb, _⟩ := h
  exact (Array.getElem?_eq_some_iff.1 hb).1
theorem MapOf.of_block {w w' : World} {b : Nat} {L : List (Value × Value)} (h : MapOf w b L) (hb : w'.heap[b]? = w.heap[b]?) : MapOf w' b L := by
  obtain ⟨es, clock, h1, h2, h3⟩ := h
  exact ⟨es, clock, hb.trans h1, h2, h3⟩
theorem MapOf.perm {w : World} {b : Nat} {L L' : List (Value × Value)} (h : MapOf w b L) (hp : L.Perm L') : MapOf w b L' := by
  obtain ⟨es, clock, h1, h2, h3⟩ := h
  exact ⟨es, clock, h1, h2, h3.trans hp⟩

/-- A store at a key that is not there. -/
theorem MapOf.insert {P : Program} {w : World} {b : Nat} {L : List (Value × Value)} {t k e : TypeId} (h : MapOf w b L) (K : Keyed P k) (ht : P.underlying t = some (.map k e)) (hL : ∀ p ∈ L, ∃ l, keyOf P k p.1 = some l)
    {key val : Value} {kl : Lit} (hkey : keyOf P k key = some kl) (hnew : ∀ p ∈ L, p.1 ≠ key) :
    ∃ w', (Instr.mapUpdate t (.map (some b)) key val).run P w = .ok () w' ∧ MapOf w' b ((key, val) :: L) ∧ w.grownBy w' (some b) := by
  obtain ⟨es, clock, hb, hst, hp⟩ := h
  have hmem : ∀ x ∈ es.toList, (x.key, x.val) ∈ L := fun x hx => hp.mem_iff.1 (List.mem_map.2 ⟨x, hx, rfl⟩)
  have hks : ∀ x ∈ es.toList, ∃ l, keyOf P k x.key = some l := fun x hx => hL _ (hmem x hx)
  rcases K.find w hkey es.toList hks with ⟨h1, h2⟩ | ⟨j, e0, _, h2, h3⟩
  · refine ⟨ChangeMaps.setBlock w b (.map (es.push ⟨key, val, clock⟩) (clock + 1)), ?_, ⟨_, _, ChangeMaps.heap_setBlock_same hb _, MapKept.stamped_push hst h2, ?_⟩, ?_⟩
    · simp [Instr.mapUpdate, run_underlying ht, MapKept.run_getObj_map hb, K.check w false hkey, h1, MapKept.run_setObj_map _ hb, Result.andThen, ChangeMaps.setBlock]
    · rw [Array.toList_push, List.map_append]
      exact (List.perm_append_singleton _ _).trans (List.Perm.cons _ hp)
    · exact ⟨rfl, rfl, rfl, by simp [ChangeMaps.setBlock], fun i _ hi => ChangeMaps.heap_setBlock_other hb _ (fun e => hi (by rw [e]))⟩
  · exfalso
    have hx : e0 ∈ es.toList := List.mem_of_getElem? h2
    exact hnew _ (hmem e0 hx) h3

theorem ready_nil {md : Region.Mode} {ops : Array Oper} {listed : Array Bool} (h : listed.toList.count false = 0) : Region.ready md ops listed = [] := by
  refine List.eq_nil_iff_forall_not_mem.2 fun j hj => ?_
  obtain ⟨h0, _⟩ := mem_ready.1 hj
  by_cases hlt : j < listed.size
  · have hf : listed.toList[j]'(by simpa using hlt) = false := by simpa [hlt] using h0
    have : 0 < listed.toList.count false := List.count_pos_iff.2 (hf ▸ List.getElem_mem (by simpa using hlt))
    omega
  · simp [hlt] at h0

theorem not_ready {md : Region.Mode} {ops : Array Oper} {listed : Array Bool} (h : Region.ready md ops listed = []) (j : Nat) (o : Oper) (ho : ops[j]? = some o)
    (hd : (o.after.toList.all fun e => !Region.binds md e || listed.getD e.on false) = true) : listed.getD j true = true := by
  cases hj : listed.getD j true with
  | true => rfl
  | false =>
    have : j ∈ Region.ready md ops listed := by
      refine mem_ready.2 ⟨hj, o, ho, fun e he hb => ?_⟩
      have := List.all_eq_true.1 hd e (by simpa using he)
      simpa [hb] using this
    rw [h] at this
    cases this

theorem wpOp_skip {P : Program} {ops : Array Oper} {Q : Exit → Act → World → Prop} {K : Act → World → Prop} {i : Nat} {o : Oper} {a : Act} {w w' : World} (hi : ops[i]? = some o)
    (hw : o.guard = none) (hr : (execOp a.eval o).run P w = .ok .skip w') (h : K (a.put o.dst undef) w') : wpOp P ops Q i K a w := by
  unfold wpOp
  rw [hi]
  have : Region.wanted o (yielded ops a.tmps) = true := by simp [Region.wanted, hw]
  simp only [this, if_true]
  refine .inl ?_
  unfold Oper.wp
  rw [hr]
  exact h
theorem wpOp_value {P : Program} {ops : Array Oper} {Q : Exit → Act → World → Prop} {K : Act → World → Prop} {i : Nat} {o : Oper} {a : Act} {w w' : World} {v : Value} (hi : ops[i]? = some o)
    (hw : o.guard = none) (hr : (execOp a.eval o).run P w = .ok (.value v) w') (h : K (a.put o.dst v) w') : wpOp P ops Q i K a w := by
  unfold wpOp
  rw [hi]
  have : Region.wanted o (yielded ops a.tmps) = true := by simp [Region.wanted, hw]
  simp only [this, if_true]
  refine .inl ?_
  unfold Oper.wp
  rw [hr]
  exact h
theorem upd_run {P : Program} {w w' : World} {t : TypeId} {m k v : Value} (h : (Instr.mapUpdate t m k v).run P w = .ok () w') :
    (do Instr.mapUpdate t m k v; pure Next.skip : Sem Next).run P w = .ok .skip w' := by
  rw [Sem.run_bind, h]
  rfl

/-- A region that draws its order, by an invariant on what has come up. -/
theorem wpAnyH_inv {P : Program} {md : Region.Mode} {ops : Array Oper} {Q : Exit → Act → World → Prop} {S : World → Prop} (I : Array Bool → Act → World → Prop)
    (hstep : ∀ listed a w i, I listed a w → i ∈ Region.ready md ops listed → wpOp P ops Q i (fun a' w' => S w' ∧ I (listed.setIfInBounds i true) a' w') a w)
    (hdone : ∀ listed a w, I listed a w → Region.ready md ops listed = [] → Q .normal a w)
    (hsize : ∀ listed a w, I listed a w → listed.size = ops.size) :
    ∀ fuel listed a w, I listed a w → listed.toList.count false ≤ fuel → wpAnyH P md ops Q S fuel listed a w := by
  intro fuel
  induction fuel with
  | zero => exact fun listed a w h hc => ⟨ready_nil (by omega), hdone listed a w h (ready_nil (by omega))⟩
  | succ fuel ih =>
    intro listed a w h hc
    refine ⟨hdone listed a w h, fun i hi => wpOp_mono (fun a' w' h' => ⟨h'.1, ih _ _ _ h'.2 ?_⟩) (hstep listed a w i h hi)⟩
    obtain ⟨h0, o, ho, _⟩ := mem_ready.1 hi
    have hlt : i < listed.size := by rw [hsize listed a w h]; exact (Array.getElem?_eq_some_iff.1 ho).1
    have hf : listed.toList[i]'(by simpa using hlt) = false := by simpa [hlt] using h0
    have hcnt : (listed.setIfInBounds i true).toList.count false + 1 = listed.toList.count false := by
      rw [Array.toList_setIfInBounds, List.count_set (by simpa using hlt), hf]
      have hpos : 0 < listed.toList.count false := List.count_pos_iff.2 (hf ▸ List.getElem_mem (by simpa using hlt))
      rw [if_pos (by decide), if_neg (by decide)]
      omega
    omega
/-- What leaves the tape alone. -/
def Calm {α : Type} (P : Program) (s : Sem α) : Prop := ∀ w v w', s.run P w = .ok v w' → w'.tape = w.tape
theorem calm_pure {α : Type} {P : Program} (a : α) : Calm P (pure a : Sem α) := by
  intro w v w' h
  cases h
  rfl
theorem calm_bind {α β : Type} {P : Program} {s : Sem α} {f : α → Sem β} (hs : Calm P s) (hf : ∀ a, Calm P (f a)) : Calm P (s >>= f) := by
  intro w v w' h
  rw [Sem.run_bind] at h
  cases hr : s.run P w with
  | ok a w1 =>
    rw [hr] at h
    exact (hf a w1 v w' h).trans (hs w a w1 hr)
  | halt x w1 =>
    rw [hr] at h
    cases h
theorem calm_getObj {P : Program} (r : Nat) : Calm P (getObj r) := by
  intro w v w' h
  simp only [getObj, Sem.run] at h
  split at h <;> first | (cases h; rfl) | cases h
theorem calm_setObj {P : Program} (r : Nat) (o : Obj) : Calm P (setObj r o) := by
  intro w v w' h
  simp only [setObj, Sem.run] at h
  split at h <;> first | (cases h; rfl) | cases h
theorem calm_choose {P : Program} (q : Question) : Calm P (choose q) := by
  intro w v w' h
  simp only [choose, Sem.run] at h
  split at h <;> (cases h; rfl)
theorem calm_stuck {α : Type} {P : Program} (x : String) : Calm P (stuck x : Sem α) := by
  intro w v w' h
  cases h
theorem calm_unsupported {α : Type} {P : Program} (x : Unsupported) : Calm P (unsupported x : Sem α) := by
  intro w v w' h
  cases h
theorem calm_next {P : Program} (v : Value) (b : Bool) (t : TypeId) : Calm P (Instr.next v b t) := by
  unfold Instr.next
  dsimp only
  repeat (first | refine calm_pure _ | refine calm_getObj _ | refine calm_setObj _ _ | refine calm_choose _ | refine calm_stuck _ | refine calm_unsupported _ | refine calm_bind ?_ (fun _ => ?_) | split)

theorem wpAnyH_at {P : Program} {md : Region.Mode} {ops : Array Oper} {Q : Exit → Act → World → Prop} {S : World → Prop} (J : Act → Array Bool → Act → World → Prop) {A : Act} {fuel : Nat} {listed : Array Bool} {w : World}
    (hstep : ∀ listed a w i, J A listed a w → i ∈ Region.ready md ops listed → wpOp P ops Q i (fun a' w' => S w' ∧ J A (listed.setIfInBounds i true) a' w') a w)
    (hdone : ∀ listed a w, J A listed a w → Region.ready md ops listed = [] → Q .normal a w)
    (hsize : ∀ listed a w, J A listed a w → listed.size = ops.size) (h0 : J A listed A w) (hc : listed.toList.count false ≤ fuel) : wpAnyH P md ops Q S fuel listed A w :=
  wpAnyH_inv (I := J A) hstep hdone hsize _ _ _ _ h0 hc

/-- The condition on the world may be sharpened on the way. -/
theorem wpAnyH_sharp {P : Program} {md : Region.Mode} {ops : Array Oper} {Q : Exit → Act → World → Prop} {S S' : World → Prop} (hS : ∀ w, S' w → S w) :
    ∀ (fuel : Nat) (listed : Array Bool) (a : Act) (w : World), wpAnyH P md ops Q S' fuel listed a w → wpAnyH P md ops Q S fuel listed a w := by
  intro fuel
  induction fuel with
  | zero => exact fun _ _ _ h => h
  | succ fuel ih => exact fun listed a w h => ⟨h.1, fun i hi => wpOp_mono (fun a' w' h' => ⟨hS _ h'.1, ih _ _ _ h'.2⟩) (h.2 i hi)⟩
theorem wpOp_call {P : Program} {ops : Array Oper} {Q : Exit → Act → World → Prop} {K : Act → World → Prop} {i : Nat} {o : Oper} {a : Act} {w : World} {f : FuncId} {args : Array Value} {v : Value} (hi : ops[i]? = some o)
    (hw : o.guard = none) (hr : (execOp a.eval o).run P w = .ok (.enter f args) w) (hc : Calls P f args w (Ret v w)) (h : ∀ w', Below w.heap.size w w' → K (a.put o.dst v) w') : wpOp P ops Q i K a w := by
  unfold wpOp
  rw [hi]
  have : Region.wanted o (yielded ops a.tmps) = true := by simp [Region.wanted, hw]
  simp only [this, if_true]
  refine .inl ?_
  unfold Oper.wp
  rw [hr, Oper.upon_enter]
  refine hc.mono ?_
  rintro e w' ⟨rfl, hb⟩
  exact h w' hb

theorem pm {α : Type _} {x : α} {L L' : List α} (A : List α) (h : (x :: L).Perm L') : (x :: (A ++ L)).Perm (A ++ L') := List.perm_middle.symm.trans (h.append_left A)
end Go.Proofs.YtdnpgloacdhliaaDoor

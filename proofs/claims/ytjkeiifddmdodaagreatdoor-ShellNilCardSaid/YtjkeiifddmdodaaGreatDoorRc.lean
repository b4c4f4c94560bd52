/-
  All quiet operations joined; new blocks, and cells that are written, are told rightly.
-/
import Derived.Test.YtjkeiifddmdodaaGreatDoorRb
set_option linter.unusedVariables false
set_option linter.unusedSimpArgs false
namespace Go.Ri
section
variable {E : Env} {g : Gh} {st : St} {w0 w : World} {tm : Fr} {a : Act}
theorem optV_OV (hg : Glob g) (hf : FRel g tm a) {o : Option Operand} {v : Option V} (h : optV tm o = some v) : OV g v (o.map a.eval) := by
  cases o with
  | none => cases h; exact .none
  | some o =>
    simp only [optV, Option.map_eq_some_iff] at h
    obtain ⟨x, hx, rfl⟩ := h
    exact .some _ _ (ev_VR hg hf hx)
theorem evs_arr (hg : Glob g) (hf : FRel g tm a) {l : Array Operand} {vs : List V} (h : evs tm l.toList = some vs) : VRs g vs (l.map a.eval).toList := by
  have := evs_VR hg hf h
  simpa using this
/-- A QUIET OPERATION: what the interpreter yields is what the machine yields; memory does not turn. -/
theorem quiet_sound (ok : E.Ok) (hg : Glob g) (hf : FRel g tm a) (hr : Rel g st w0 w) {o : Oper} {v : V} (h : quiet E tm o st = some v) :
    ∃ x, (execOp a.eval o).run E.P w = .ok (.value x) w ∧ VR g v x := by
  obtain ⟨dst, op, type, pos, after, guard⟩ := o
  have lift : ∀ {s : Sem Value} {x : Value}, s.run E.P w = .ok x w → (do pure (Next.value (← s)) : Sem Next).run E.P w = .ok (.value x) w := fun {s x} hs => by simp [hs]
  have h0 := h
  cases op <;> simp only [quiet] at h <;> try (cases h; done)
  case move x => exact ⟨_, rfl, ev_VR hg hf h⟩
  case assign x => exact ⟨_, rfl, ev_VR hg hf h⟩
  case pick c p q =>
    split at h
    · rename_i t x y h1 h2 h3
      cases h
      have hc := ev_VR hg hf h1
      generalize hcv : a.eval c = cv at hc
      cases hc
      refine ⟨if t then a.eval p else a.eval q, ?_, ?_⟩
      · simp [execOp, hcv, asBool]
      · cases t
        · exact ev_VR hg hf h3
        · exact ev_VR hg hf h2
    · cases h
  case load t ad =>
    split at h
    · rename_i p h1
      have ha := ev_VR hg hf h1
      generalize hav : a.eval ad = av at ha
      cases ha with | ptr _ d hd =>
      obtain ⟨x, hx, hv⟩ := ldV_sound ok hr h hd
      refine ⟨x, ?_, hv⟩
      simp only [execOp, hav]
      exact lift (by simp [Instr.loadAt, Instr.sureAddr, hx])
    · cases h
  case nilCheck x =>
    split at h <;> first | (cases h; done) | skip
    all_goals
      rename_i h1
      have ha := ev_VR hg hf h1
      cases h
      generalize hav : a.eval x = av at ha
      cases ha
      refine ⟨a.eval x, ?_, ev_VR hg hf h1⟩
      simp only [execOp, hav]
      rfl
  case binOp op t x y yt =>
    split at h
    · rename_i p q h1 h2
      obtain ⟨z, hz, hv⟩ := bin_sound ok h (ev_VR hg hf h1) (ev_VR hg hf h2) w
      exact ⟨z, by simp only [execOp]; exact lift hz, hv⟩
    · cases h
  case unOp op t x =>
    obtain ⟨p, h1, h2⟩ := Option.bind_eq_some_iff.1 h
    obtain ⟨z, hz, hv⟩ := un_sound (E := E) h2 (ev_VR hg hf h1) w
    exact ⟨z, by simp only [execOp]; exact lift hz, hv⟩
  case convert s d x =>
    obtain ⟨p, h1, h2⟩ := Option.bind_eq_some_iff.1 h
    obtain ⟨z, hz, hv⟩ := conv_sound ok h2 (ev_VR hg hf h1) w
    exact ⟨z, by simp only [execOp]; exact lift hz, hv⟩
  case makeInterface t x =>
    split at h <;> first | (cases h; done) | skip
    rename_i p d hni h1 h2
    cases h
    have hu := under_some ok h2
    refine ⟨.iface t (a.eval x), ?_, .iface _ _ _ (ev_VR hg hf h1)⟩
    simp only [execOp]
    refine lift ?_
    cases d <;> first
      | exact absurd rfl (hni _)
      | (simp [Instr.makeInterface, run_under hu]; done)
      | (exact (hni _ rfl).elim)
  case slice t x lo hi mx =>
    split at h
    · rename_i p l hh m h1 h2 h3 h4
      obtain ⟨z, hz, hv⟩ := slice_sound ok h (ev_VR hg hf h1) (optV_OV hg hf h2) (optV_OV hg hf h3) (optV_OV hg hf h4) w
      exact ⟨z, by simp only [execOp]; exact lift hz, hv⟩
    · cases h
  case fieldAddr t x f =>
    obtain ⟨p, h1, h2⟩ := Option.bind_eq_some_iff.1 h
    obtain ⟨z, hz, hv⟩ := fieldAddr_sound ok h2 (ev_VR hg hf h1) w
    exact ⟨z, by simp only [execOp]; exact lift hz, hv⟩
  case field t x f =>
    obtain ⟨p, h1, h2⟩ := Option.bind_eq_some_iff.1 h
    obtain ⟨z, hz, hv⟩ := field_sound ok h2 (ev_VR hg hf h1) w
    exact ⟨z, by simp only [execOp]; exact lift hz, hv⟩
  case indexAddr t x i =>
    split at h
    · rename_i p q h1 h2
      obtain ⟨z, hz, hv⟩ := indexAddr_sound ok h (ev_VR hg hf h1) (ev_VR hg hf h2) w
      exact ⟨z, by simp only [execOp]; exact lift hz, hv⟩
    · cases h
  case index t x i =>
    split at h
    · rename_i p q h1 h2
      obtain ⟨z, hz, hv⟩ := index_sound ok h (ev_VR hg hf h1) (ev_VR hg hf h2) w
      exact ⟨z, by simp only [execOp]; exact lift hz, hv⟩
    · cases h
  case lookup t x i okk =>
    split at h
    · rename_i p q h1 h2
      obtain ⟨z, hz, hv⟩ := look_sound ok hr h (ev_VR hg hf h1) (ev_VR hg hf h2)
      exact ⟨z, by simp only [execOp]; exact lift hz, hv⟩
    · cases h
  case typeAssert x xt t okk =>
    obtain ⟨p, h1, h2⟩ := Option.bind_eq_some_iff.1 h
    obtain ⟨z, hz, hv⟩ := assert_sound (xt := xt) ok h2 (ev_VR hg hf h1) w
    exact ⟨z, by simp only [execOp]; exact lift hz, hv⟩
  case extract t i =>
    split at h
    · rename_i vs h1
      have ha := ev_VR hg hf h1
      generalize hav : a.eval t = av at ha
      cases ha with | tuple _ xs hxs =>
      obtain ⟨z, hz, hv⟩ := hxs.get h
      refine ⟨z, ?_, hv⟩
      simp only [execOp, hav]
      exact lift (by simp [Instr.extract, hz])
    · cases h
  case makeFunc fn first captured =>
    clear h
    cases fn <;> simp only [quiet] at h0 <;> try (cases h0; done)
    rename_i f
    split at h0
    · rename_i hfirst
      have e : first = #[] := Array.eq_empty_of_size_eq_zero hfirst
      subst e
      obtain ⟨vs, h1, rfl⟩ := Option.map_eq_some_iff.1 h0
      refine ⟨.func (.func f) #[] (captured.map a.eval), ?_, ?_⟩
      · simp only [execOp]
        exact lift (by simp [Instr.makeFunc])
      · have := VR.func (g := g) f vs _ (evs_arr hg hf h1)
        rwa [Array.toArray_toList] at this
    · cases h0
  case call c =>
    clear h
    obtain ⟨callee, args, ats⟩ := c
    have one : ∀ {x : Operand}, args.toList = [x] → args = #[x] := fun {x} e => by rw [← Array.toList_inj, e]
    have bi : ∀ (b : Builtin), callee = .builtin b → ∃ cs, execOp a.eval ⟨dst, .call ⟨callee, args, ats⟩, type, pos, after, guard⟩ = builtin b ats type cs (args.map a.eval) := by
      rintro b rfl
      exact ⟨_, by simp [execOp, resolve, invoke]; rfl⟩
    cases callee with
    | value x => simp only [quiet] at h0; cases h0
    | invoke r n => simp only [quiet] at h0; cases h0
    | builtin b =>
      obtain ⟨cs, hb⟩ := bi b rfl
      rw [hb]
      have hall : ∀ {vs : List V}, evs tm args.toList = some vs → VRs g vs (args.map a.eval).toList := fun hv => evs_arr hg hf hv
      cases b <;> simp only [quiet] at h0 <;> try (cases h0; done)
      case len =>
        split at h0
        · rename_i x t e1 e2
          obtain ⟨p, h1, h2⟩ := Option.bind_eq_some_iff.1 h0
          obtain ⟨z, hz, hv⟩ := len_sound ok hr h2 (ev_VR hg hf h1) type e2
          refine ⟨z, ?_, hv⟩
          rw [one e1]
          simp only [builtin]
          exact lift (by simpa using hz)
        · cases h0
      case cap =>
        split at h0
        · rename_i x t e1 e2
          obtain ⟨p, h1, h2⟩ := Option.bind_eq_some_iff.1 h0
          obtain ⟨z, hz, hv⟩ := cap_sound ok h2 (ev_VR hg hf h1) type e2 w
          refine ⟨z, ?_, hv⟩
          rw [one e1]
          simp only [builtin]
          exact lift (by simpa using hz)
        · cases h0
      case min =>
        split at h0
        · rename_i x r e1
          have hv := hall e1
          generalize hxs : (args.map a.eval).toList = xs at hv
          cases hv with | cons _ y _ ys hy hys =>
          obtain ⟨z, hz, hvz⟩ := min_sound (E := E) h0 hy hys w
          refine ⟨z, ?_, hvz⟩
          simp only [builtin]
          exact lift (by unfold Builtin.min_; rw [hxs]; exact hz)
        · cases h0
      case max =>
        split at h0
        · rename_i x r e1
          have hv := hall e1
          generalize hxs : (args.map a.eval).toList = xs at hv
          cases hv with | cons _ y _ ys hy hys =>
          obtain ⟨z, hz, hvz⟩ := max_sound (E := E) h0 hy hys w
          refine ⟨z, ?_, hvz⟩
          simp only [builtin]
          exact lift (by unfold Builtin.max_; rw [hxs]; exact hz)
        · cases h0
      case unsafeSliceData =>
        have hargs : ∀ {y : Value}, (args.map a.eval).toList = [y] → args.map a.eval = #[y] := fun {y} e => by rw [← Array.toList_inj, e]
        split at h0
        · rename_i e1
          have hv := hall e1
          generalize hxs : (args.map a.eval).toList = xs at hv
          cases hv with | cons _ y _ ys hy hys =>
          cases hys
          rw [hargs hxs]
          cases hy
          cases h0
          exact ⟨.pointer none, by simp only [builtin]; exact lift rfl, .ptr0⟩
        · rename_i e1
          have hv := hall e1
          generalize hxs : (args.map a.eval).toList = xs at hv
          cases hv with | cons _ y _ ys hy hys =>
          cases hys
          rw [hargs hxs]
          cases hy with | sl r o bb off top _ _ _ c' _ g1 g2 g3 g4 g5 =>
          cases h0
          have hc : c' ≠ 0 := by omega
          refine ⟨.pointer (some ⟨bb, off + o, none⟩), ?_, .ptr _ _ (by simp [adr, g1])⟩
          simp only [builtin]
          refine lift ?_
          change (if c' ≠ 0 then (pure (.pointer (some ⟨bb, off + o, none⟩)) : Sem Value) else _).run E.P w = _
          rw [if_pos hc]
          rfl
        · cases h0
end
end Go.Ri
set_option linter.unusedVariables false
set_option linter.unusedSimpArgs false
namespace Go.Ri
section
variable {E : Env} {g : Gh} {st : St} {w0 w : World} {tm : Fr} {a : Act}
def Gh.put (g : Gh) (n : Nat) (b : Nat × Nat × Nat) : Gh := fun r => if r = n then some b else g r
theorem Gh.le_put {n : Nat} {b : Nat × Nat × Nat} (h : g n = none) : g.le (g.put n b) := by
  intro r x hx
  unfold Gh.put
  split
  · rename_i e; subst e; rw [h] at hx; cases hx
  · exact hx
theorem Gh.put_self {n : Nat} {b : Nat × Nat × Nat} : (g.put n b) n = some b := by simp [Gh.put]
theorem Gh.put_ne {n r : Nat} {b : Nat × Nat × Nat} (h : r ≠ n) : (g.put n b) r = g r := by simp [Gh.put, h]
theorem get_new {o x : O} {r : Nat} (h : (st.new o).get r = some x) : (r = st.nx ∧ x = o) ∨ (r ≠ st.nx ∧ st.get r = some x) := by
  unfold St.get St.new at h
  by_cases hr : r = st.nx
  · subst hr
    rcases TT.get_set_self (none : Option O) (some o) st.h st.nx with e | e
    · simp only at h; rw [e] at h; cases h; exact .inl ⟨rfl, rfl⟩
    · simp only at h; rw [e] at h; cases h
  · simp only at h
    rw [TT.get_set_ne _ _ _ _ _ hr] at h
    exact .inr ⟨hr, h⟩
/-- A new block. -/
theorem Rel.new (hr : Rel g st w0 w) (hn : g st.nx = none) {o : O} {x : Obj} {top : Nat} (ho : OR (g.put st.nx (w.heap.size, 0, top)) o x 0 top) :
    Rel (g.put st.nx (w.heap.size, 0, top)) (st.new o) w0 { w with heap := w.heap.push x } := by
  have hle := Gh.le_put (b := (w.heap.size, 0, top)) hn
  have hold : ∀ {r b y}, r ≠ st.nx → (g.put st.nx (w.heap.size, 0, top)) r = some (b, y) → b < w.heap.size := by
    intro r b y hne hb
    rw [Gh.put_ne hne] at hb
    exact hr.bnd _ _ _ hb
  refine ⟨?_, ?_, ?_, ?_, ?_, ?_, hr.os, hr.out, hr.tp⟩
  · intro r p hp
    rcases get_new hp with ⟨rfl, rfl⟩ | ⟨hne, hp⟩
    · exact ⟨_, _, _, x, Gh.put_self, by simp, ho⟩
    · obtain ⟨b, off, t, y, h1, h2, h3⟩ := hr.live _ _ hp
      exact ⟨b, off, t, y, hle _ _ h1, by have := hr.bnd _ _ _ h1; simp [Array.getElem?_push, h2]; intro e; omega, h3.mono hle⟩
  · intro r r' p p' b y y' hp hp' hb hb'
    rcases get_new hp with ⟨rfl, rfl⟩ | ⟨hne, hp⟩ <;> rcases get_new hp' with ⟨rfl, rfl⟩ | ⟨hne', hp'⟩
    · rfl
    · rw [Gh.put_self] at hb
      cases hb
      have := hold hne' hb'
      omega
    · rw [Gh.put_self] at hb'
      cases hb'
      have := hold hne hb
      omega
    · rw [Gh.put_ne hne] at hb
      rw [Gh.put_ne hne'] at hb'
      exact hr.inj _ _ _ _ _ _ _ hp hp' hb hb'
  · intro r p b y hp hb
    rcases get_new hp with ⟨rfl, rfl⟩ | ⟨hne, hp⟩
    · rw [Gh.put_self] at hb
      cases hb
      exact .inl hr.size
    · rw [Gh.put_ne hne] at hb
      exact hr.own _ _ _ _ hp hb
  · intro r b y hb
    by_cases hne : r = st.nx
    · subst hne
      rw [Gh.put_self] at hb
      cases hb
      simp
    · have := hold hne hb
      simp; omega
  · have := hr.size; simp; omega
  · intro b hb
    have h1 := hr.kept b hb
    have h2 := hr.size
    rw [← h1]
    simp only [Array.getElem?_push]
    rw [if_neg (by omega)]
theorem told_VR {v : V} {x : Value} {l : List V} (h : VR g v x) (ht : v.told = some l) : VRs g l x.cells.toList := by
  cases v <;> simp only [V.told] at ht <;> try (cases ht; done)
  case agg cs =>
    cases ht
    cases h with | agg _ cs' h =>
    simpa [Value.cells] using h
  all_goals
    cases ht
    have hc : x.cells = #[x] := by cases h <;> rfl
    rw [hc]
    exact .cons _ _ _ _ h .nil
theorem zero_told {t : TypeId} {v : V} (ok : E.Ok) (h : zero E t = some v) (w : World) : ∃ x, (zeroValue t).run E.P w = .ok x w ∧ VRs g v.cells x.cells.toList := by
  obtain ⟨x, h1, h2, _⟩ := zero_some ok h w
  refine ⟨x, h1, ?_⟩
  have hv := ofConst_VR g h2
  have : v.told = some v.cells := by
    cases v <;> first
      | rfl
      | (unfold ofConst at h2; split at h2 <;> simp [ofCell] at h2; (try (split at h2 <;> simp at h2)))
  exact told_VR hv this
end
end Go.Ri
set_option linter.unusedVariables false
set_option linter.unusedSimpArgs false
namespace Go.Ri
section
variable {E : Env} {g : Gh} {st st' : St} {w0 w : World} {tm : Fr} {a : Act}
/-- What a computation comes to: a value that is told, a state that is told; one new name at most. -/
def Did (E : Env) (g : Gh) (st st' : St) (w0 w : World) (s : Sem Next) (v : V) : Prop :=
  ∃ x w' g', (s.run E.P w = .ok (.value x) w' ∨ (s.run E.P w = .ok .skip w' ∧ x = undef)) ∧ VR g' v x ∧ Rel g' st' w0 w' ∧ g.le g' ∧ (∀ r, r ≠ st.nx → g' r = g r) ∧ ((st'.nx = st.nx ∧ g' = g) ∨ st'.nx = st.nx + 1)
theorem or_cells {vs : List V} {xs : Array Value} {e : TypeId} (h : VRs g vs xs.toList) : OR g (.cells vs e true false) (.cells xs e (0, 0)) 0 xs.size := by
  refine .cells vs xs e true false 0 (0, 0) ?_ ?_ ?_ ?_
  · have := h.len; simp at this; omega
  · intro _; have := h.len; simp at this; exact ⟨rfl, this.symm⟩
  · intro i v hv
    obtain ⟨x, hx, hvx⟩ := h.get hv
    exact ⟨x, by simpa using hx, hvx⟩
  · intro _ i hi hc; simp at hc
/-- A row of cells is laid. -/
theorem newRow_sound (hr : Rel g st w0 w) (hn : g st.nx = none) {vs : List V} {xs : Array Value} {e : TypeId} (h : VRs g vs xs.toList) :
    ∃ g', g' = g.put st.nx (w.heap.size, 0, xs.size) ∧ (newRow e xs).run E.P w = .ok ⟨w.heap.size, 0, none⟩ { w with heap := w.heap.push (.cells xs e) } ∧
      Rel g' (st.new (.cells vs e true false)) w0 { w with heap := w.heap.push (.cells xs e) } ∧ g.le g' ∧ (∀ r, r ≠ st.nx → g' r = g r) := by
  refine ⟨_, rfl, by simp [newRow], hr.new hn (or_cells (h.mono (Gh.le_put hn))), Gh.le_put hn, fun r hne => Gh.put_ne hne⟩
theorem alloc_sound (ok : E.Ok) (hr : Rel g st w0 w) (hn : g st.nx = none) {t : TypeId} {z : V} (h : zero E t = some z) :
    Did E g st (st.new (.cells z.cells t true false)) w0 w (do pure (.value (← Instr.alloc t true (.tuple #[])))) (.ptr (some (st.nx, 0))) := by
  obtain ⟨x, h1, h2⟩ := zero_told (g := g) ok h w
  obtain ⟨g', rfl, e1, e2, e3, e4⟩ := newRow_sound (E := E) hr hn (e := t) h2
  refine ⟨.pointer (some ⟨w.heap.size, 0, none⟩), _, _, .inl ?_, .ptr _ _ (by simp [adr, Gh.put_self]), e2, e3, e4, .inr rfl⟩
  simp [Instr.alloc, h1, newVar, e1]
theorem box_sound (hr : Rel g st w0 w) (hn : g st.nx = none) {t : TypeId} {v : V} {x : Value} {l : List V} (hv : VR g v x) (h : v.told = some l) :
    Did E g st (st.new (.cells l t true false)) w0 w (do pure (.value (← Instr.box t x))) (.ptr (some (st.nx, 0))) := by
  have h2 := told_VR hv h
  obtain ⟨g', rfl, e1, e2, e3, e4⟩ := newRow_sound (E := E) hr hn (e := t) h2
  refine ⟨.pointer (some ⟨w.heap.size, 0, none⟩), _, _, .inl ?_, .ptr _ _ (by simp [adr, Gh.put_self]), e2, e3, e4, .inr rfl⟩
  simp [Instr.box, newVar, e1]
end
end Go.Ri
set_option linter.unusedVariables false
set_option linter.unusedSimpArgs false
namespace Go.Ri
theorem setCell_heap {w : World} {b o : Nat} {v : Value} {c : Array Value} {e : TypeId} {rng : Nat × Nat} (h : w.heap[b]? = some (.cells c e rng)) :
    (w.setCell ⟨b, o, none⟩ v).heap[b]? = some (.cells (c.setIfInBounds o v) e rng) ∧ (∀ b', b' ≠ b → (w.setCell ⟨b, o, none⟩ v).heap[b']? = w.heap[b']?) ∧
      (w.setCell ⟨b, o, none⟩ v).heap.size = w.heap.size ∧ (w.setCell ⟨b, o, none⟩ v).os = w.os ∧ (w.setCell ⟨b, o, none⟩ v).output = w.output ∧ (w.setCell ⟨b, o, none⟩ v).tape = w.tape := by
  refine ⟨?_, ?_, ?_, rfl, rfl, rfl⟩
  · simp [World.setCell, Array.getElem?_modify, h]
  · intro b' hb
    simp [World.setCell, Array.getElem?_modify, Ne.symm hb]
  · simp [World.setCell]
theorem setCells_heap (b : Nat) : ∀ (xs : List Value) (o : Nat) (w : World) (c : Array Value) (e : TypeId) (rng : Nat × Nat), w.heap[b]? = some (.cells c e rng) → o + xs.length ≤ c.size →
    ∃ c' : Array Value, (w.setCells b o xs).heap[b]? = some (.cells c' e rng) ∧ c'.size = c.size ∧ (∀ i, c'[i]? = if o ≤ i ∧ i < o + xs.length then xs[i - o]? else c[i]?) ∧
      (∀ b', b' ≠ b → (w.setCells b o xs).heap[b']? = w.heap[b']?) ∧ (w.setCells b o xs).heap.size = w.heap.size ∧ (w.setCells b o xs).os = w.os ∧ (w.setCells b o xs).output = w.output ∧ (w.setCells b o xs).tape = w.tape
  | [], o, w, c, e, rng, h, hl => ⟨c, h, rfl, fun i => by rw [if_neg (by simp)], fun _ _ => rfl, rfl, rfl, rfl, rfl⟩
  | x :: xs, o, w, c, e, rng, h, hl => by
    obtain ⟨h1, h2, h3, h4, h5, h6⟩ := setCell_heap (o := o) (v := x) h
    simp only [List.length_cons] at hl
    obtain ⟨c', k1, k2, k3, k4, k5, k6, k7, k8⟩ := setCells_heap b xs (o + 1) (w.setCell ⟨b, o, none⟩ x) _ e rng h1 (by simp; omega)
    refine ⟨c', k1, by simpa using k2, fun i => ?_, fun b' hb => (k4 b' hb).trans (h2 b' hb), k5.trans h3, k6.trans h4, k7.trans h5, k8.trans h6⟩
    rw [k3]
    by_cases hi : i = o
    · subst hi
      rw [if_neg (by omega), if_pos (by simp)]
      simp [show i < c.size by omega]
    · by_cases hj : o + 1 ≤ i ∧ i < o + 1 + xs.length
      · rw [if_pos hj, if_pos (by simp; omega)]
        rw [show i - o = (i - (o + 1)) + 1 by omega]
        simp
      · rw [if_neg hj, if_neg (by simp; omega)]
        simp [Array.getElem?_setIfInBounds_ne (Ne.symm hi)]
end Go.Ri
set_option linter.unusedVariables false
set_option linter.unusedSimpArgs false
namespace Go.Ri
section
variable {E : Env} {g : Gh} {st st' : St} {w0 w : World}
theorem ones_spec : ∀ {l : List V}, ones l = true → ∀ v ∈ l, v.one = true
  | [], _, v, hv => by simp at hv
  | a :: l, h, v, hv => by
    change Bool.rec (motive := fun _ => Bool) false (ones l) a.one = true at h
    rw [bool_rec] at h
    split at h
    · rename_i ha
      rcases List.mem_cons.1 hv with rfl | hv
      · exact ha
      · exact ones_spec h v hv
    · cases h
theorem one_VR {v : V} {x : Value} (h : VR g v x) (h1 : v.one = true) : x.oneCell' = true := by
  cases h <;> first | rfl | cases h1
theorem VRs.ones {l : List V} {xs : List Value} (h : VRs g l xs) (h1 : ∀ v ∈ l, v.one = true) : ∀ x ∈ xs, x.oneCell' = true := by
  intro x hx
  obtain ⟨i, hi, rfl⟩ := List.getElem_of_mem hx
  have hl := h.len
  have hi' : i < l.length := by omega
  obtain ⟨y, hy, hvy⟩ := h.get (List.getElem?_eq_getElem hi')
  rw [List.getElem?_eq_getElem hi] at hy
  cases hy
  exact one_VR hvy (h1 _ (List.getElem_mem hi'))
theorem get_put {o x : O} {r n : Nat} (h : (st.put n o).get r = some x) : (r = n ∧ x = o) ∨ (r ≠ n ∧ st.get r = some x) := by
  unfold St.get St.put at h
  by_cases hr : r = n
  · subst hr
    simp only at h
    rcases TT.get_set_self (none : Option O) (some o) st.h r with e | e
    · rw [e] at h; cases h; exact .inl ⟨rfl, rfl⟩
    · rw [e] at h; cases h
  · simp only at h
    rw [TT.get_set_ne _ _ _ _ _ hr] at h
    exact .inr ⟨hr, h⟩
/-- Cells are written. -/
theorem wr_sound (hr : Rel g st w0 w) {p : Nat × Nat} {ws : List V} {ad : Addr} {xs : List Value} (h : st.wr p ws = some st') (ha : adr g p = some ad) (hx : VRs g ws xs) :
    ∃ w', (storeCells ad xs).run E.P w = .ok () w' ∧ Rel g st' w0 w' ∧ st'.nx = st.nx := by
  obtain ⟨b, off, top, hg, rfl⟩ := adr_some ha
  unfold St.wr at h
  split at h
  case h_2 => cases h
  rename_i cs e ex fz hst
  simp only [cond_eq_ite] at h
  split at h
  · cases h
  rename_i hfz
  have hfz : fz = false := by simpa using hfz
  subst hfz
  split at h
  · cases h
  rename_i hon
  have hon : ones ws = true := by simpa using hon
  split at h
  case h_2 => cases h
  rename_i cs' hov
  cases h
  obtain ⟨hle, rfl⟩ := overN_some hov
  have hlen := hx.len
  obtain ⟨b', off', top', o, hg', ho, hor⟩ := hr.live _ _ hst
  rw [hg] at hg'
  cases hg'
  cases hor with
  | cells _ c _ _ _ _ rng k1 k2 k3 k4 =>
    obtain ⟨c', e1, e2, e3, e4, e5, e6, e7, e8⟩ := setCells_heap b xs (off + p.2) w c e rng ho (by omega)
    refine ⟨w.setCells b (off + p.2) xs, ?_, ?_, rfl⟩
    · have hrun := run_storeCells_cells (P := E.P) b (off + p.2) xs 0 w (fun j hj => by
        have : off + p.2 + j < c.size := by omega
        simp [World.cell?, ho, this]) (fun j hj => by
        have := k4 rfl (off + p.2 + j) (by omega)
        simp [World.frozen?, ho]
        intro h1
        exact Nat.le_of_not_lt fun h2 => this ⟨h1, h2⟩) (hx.ones (ones_spec hon))
      simpa using hrun
    · have hobl : w0.heap.size ≤ b := by
        rcases hr.own _ _ _ _ hst hg with h | ⟨_, _, _, h⟩
        · exact h
        · cases h
      refine ⟨?_, ?_, ?_, ?_, ?_, ?_, e6.trans hr.os, e7.trans hr.out, e8.trans hr.tp⟩
      · intro r q hq
        rcases get_put hq with ⟨rfl, rfl⟩ | ⟨hne, hq⟩
        · refine ⟨b, off, c.size, _, hg, e1, ?_⟩
          rw [← e2]
          refine .cells _ c' e ex false off rng ?_ ?_ ?_ ?_
          · simp; omega
          · intro hex; have := k2 hex; simp; omega
          · intro i v hv
            rw [e3]
            by_cases hi : p.2 ≤ i ∧ i < p.2 + ws.length
            · rw [if_pos (by omega), show off + i - (off + p.2) = i - p.2 by omega]
              refine hx.get ?_
              rw [← hv, List.append_assoc, List.getElem?_append_right (by simp; omega), List.getElem?_append_left (by simp; omega)]
              congr 1
              simp; omega
            · rw [if_neg (by omega)]
              refine k3 i v ?_
              rw [← hv]
              by_cases h2 : i < p.2
              · rw [List.append_assoc, List.getElem?_append_left (by simp; omega), List.getElem?_take, if_pos h2]
              · rw [List.getElem?_append_right (by simp; omega), List.getElem?_drop]
                congr 1
                simp; omega
          · intro _ i hi; exact k4 rfl i (by omega)
        · obtain ⟨b', off', t', y, h1, h2, h3⟩ := hr.live _ _ hq
          refine ⟨b', off', t', y, h1, ?_, h3⟩
          rw [e4 b' (fun hb => hne (hr.inj _ _ _ _ _ _ _ hq hst h1 (by rw [hb]; exact hg)))]
          exact h2
      · intro r r' q q' b1 y y' hq hq' hb hb'
        have f : ∀ {r q}, (st.put p.1 (.cells (cs.take p.2 ++ ws ++ cs.drop (p.2 + ws.length)) e ex false)).get r = some q → ∃ q', st.get r = some q' := by
          intro r q hq
          rcases get_put hq with ⟨rfl, rfl⟩ | ⟨_, hq⟩
          · exact ⟨_, hst⟩
          · exact ⟨_, hq⟩
        obtain ⟨_, h1⟩ := f hq
        obtain ⟨_, h2⟩ := f hq'
        exact hr.inj _ _ _ _ _ _ _ h1 h2 hb hb'
      · intro r q b1 y hq hb
        rcases get_put hq with ⟨rfl, rfl⟩ | ⟨_, hq⟩
        · rw [hg] at hb; cases hb; exact .inl hobl
        · exact hr.own _ _ _ _ hq hb
      · intro r b1 y hb; rw [e5]; exact hr.bnd _ _ _ hb
      · rw [e5]; exact hr.size
      · intro b1 hb; rw [e4 b1 (by omega)]; exact hr.kept b1 hb
end
end Go.Ri
set_option linter.unusedVariables false
set_option linter.unusedSimpArgs false
namespace Go.Ri
section
variable {E : Env} {g : Gh} {st st' : St} {w0 w : World}
theorem store_sound (ok : E.Ok) (hr : Rel g st w0 w) {t : TypeId} {p : Nat × Nat} {ad : Addr} {v : V} {x : Value} {l : List V} {n : Nat} (ha : adr g p = some ad) (hv : VR g v x) (ht : v.told = some l)
    (hn : size E t = some n) (hl : l.length = n) (h : st.wr p l = some st') :
    Did E g st st' w0 w (do Instr.storeAt t (.pointer (some ad)) x; pure .skip) und := by
  have hx := told_VR hv ht
  obtain ⟨w', h1, h2, h3⟩ := wr_sound (E := E) hr h ha hx
  refine ⟨undef, w', g, .inr ⟨?_, rfl⟩, und_VR g, h2, Gh.le_refl g, fun _ _ => rfl, .inl ⟨h3, rfl⟩⟩
  have hs : x.cells.size = n := by have := hx.len; simp at this; omega
  simp [Instr.storeAt, Instr.sureAddr, storeVar, size_some ok hn, hs, h1]
theorem makeMap_sound (hr : Rel g st w0 w) (hn : g st.nx = none) {t : TypeId} : Did E g st (st.new (.map [])) w0 w (do pure (.value (← Instr.makeMap t none))) (.map (some st.nx)) := by
  have := hr.new hn (o := .map []) (x := .map #[] 0) (top := 0) (.map [] #[] 0 0 trivial)
  refine ⟨.map (some w.heap.size), _, _, .inl ?_, .map _ _ 0 Gh.put_self, this, Gh.le_put hn, fun r hne => Gh.put_ne hne, .inr rfl⟩
  simp [Instr.makeMap]
end
end Go.Ri

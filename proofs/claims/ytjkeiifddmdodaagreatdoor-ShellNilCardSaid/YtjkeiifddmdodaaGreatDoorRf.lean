/-
  Code, drawn regions and whole calls do in the machine what the interpreter says, whatever the tape answers.
-/
import Derived.Test.YtjkeiifddmdodaaGreatDoorRe
import Derived.Below
set_option linter.unusedVariables false
set_option linter.unusedSimpArgs false
namespace Go.Ri
section
variable {E : Env} {g : Gh} {st st' : St} {w0 w : World} {tm tm' : Fr} {a : Act} {cf : CF} {Q : Exit → Act → World → Prop}
theorem wp_loop_fuel {P : Program} {c : Code} (I : Nat → Act → World → Prop) {n : Nat} (h₀ : I n a w)
    (round : ∀ n a w, I n a w → c.wp P (Exit.then (fun a' w' => ∃ m, m < n ∧ I m a' w') Q) a w) : (Code.loop c).wp P Q a w := by
  intro b k cs
  have key : ∀ n a w, I n a w → ∃ e a' w', Q e a' w' ∧ Arrives P (lone (b.at a (.code c :: .inLoop c :: k)) cs w) b k cs e a' w' := by
    intro n
    induction n using Nat.strongRecOn with
    | _ n ih =>
      intro a w hI
      obtain ⟨e, a₁, w₁, hq, harr⟩ := round n a w hI b (.inLoop c :: k) cs
      cases e with
      | normal =>
        obtain ⟨m, hlt, hI₁⟩ := hq
        obtain ⟨e₂, a₂, w₂, hq₂, harr₂⟩ := ih m hlt a₁ w₁ hI₁
        exact ⟨e₂, a₂, w₂, hq₂, .of_steps (Steps.trans harr (.one step_inLoop)) harr₂⟩
      | exit id => exact ⟨_, a₁, w₁, hq, .pass (x := .inLoop c) rfl (fun _ _ => .inl (by simp)) harr⟩
      | goto l => exact ⟨_, a₁, w₁, hq, .pass (x := .inLoop c) rfl (fun _ _ => .inl (by simp)) harr⟩
      | ret => exact ⟨_, a₁, w₁, hq, .pass (x := .inLoop c) rfl (fun _ _ => .inl (by simp)) harr⟩
      | panic ch => exact ⟨_, a₁, w₁, hq, .pass (x := .inLoop c) rfl (fun _ _ => .inl (by simp)) harr⟩
      | outgrown => exact ⟨_, a₁, w₁, hq, .pass (x := .inLoop c) rfl (fun _ _ => .inl (by simp)) harr⟩
  obtain ⟨e, a', w', hq, harr⟩ := key n a w h₀
  exact ⟨e, a', w', hq, .of_steps (.one step_loop) harr⟩
def X.out : X → Exit
  | .nrm => .normal
  | .exit i => .exit i
  | .ret => .ret
/-- A region that draws its order does what the interpreter says. -/
def DrawOk (E : Env) (w0 : World) (cf : CF) : Prop :=
  ∀ (ops : Array Oper) tm st tm' st' g a w Q, drawI E cf ops tm st = some (tm', st') → FRel g tm a → Inv g st w0 w → a.defers = [] →
    (∀ g' a' w', FRel g' tm' a' → Inv g' st' w0 w' → Aft g g' st st' → a'.defers = [] → Q Exit.normal a' w') → wpAny E.P .any ops Q ops.size (Array.replicate ops.size false) a w
def CodeOk (E : Env) (w0 : World) (cf : CF) (c : Code) : Prop :=
  ∀ tm st x tm' st' g a w Q, run E cf c tm st = some (x, tm', st') → FRel g tm a → Inv g st w0 w → a.defers = [] →
    (∀ g' a' w', FRel g' tm' a' → Inv g' st' w0 w' → Aft g g' st st' → a'.defers = [] → Q x.out a' w') → c.wp E.P Q a w
theorem loopI_sound {c : Code} (ih : CodeOk E w0 cf c) {n : Nat} {tm : Fr} {st : St} {x : X} {g : Gh} {a : Act} {w : World} (h : loopI (run E cf c) n tm st = some (x, tm', st')) (hf : FRel g tm a) (hi : Inv g st w0 w) (hd : a.defers = [])
    (hq : ∀ g' a' w', FRel g' tm' a' → Inv g' st' w0 w' → Aft g g' st st' → a'.defers = [] → Q x.out a' w') : (Code.loop c).wp E.P Q a w := by
  refine wp_loop_fuel (fun m a1 w1 => ∃ tm1 st1 g1, loopI (run E cf c) m tm1 st1 = some (x, tm', st') ∧ FRel g1 tm1 a1 ∧ Inv g1 st1 w0 w1 ∧ Aft g g1 st st1 ∧ a1.defers = []) (n := n) ⟨tm, st, g, h, hf, hi, .refl _ _, hd⟩ ?_
  rintro m a1 w1 ⟨tm1, st1, g1, h1, h2, h3, h4, h5⟩
  cases m with
  | zero => cases h1
  | succ m =>
    simp only [loopI] at h1
    cases hb : run E cf c tm1 st1 with
    | none => rw [hb] at h1; cases h1
    | some r =>
      obtain ⟨y, tm2, st2⟩ := r
      rw [hb] at h1
      refine ih tm1 st1 y tm2 st2 g1 a1 w1 _ hb h2 h3 h5 fun g' a' w' k1 k2 k3 k4 => ?_
      cases y with
      | nrm => exact ⟨m, Nat.lt_succ_self _, tm2, st2, g', h1, k1, k2, h4.trans k3, k4⟩
      | exit i => cases h1; exact hq g' a' w' k1 k2 (h4.trans k3) k4
      | ret => cases h1; exact hq g' a' w' k1 k2 (h4.trans k3) k4
theorem run_sound (ok : E.Ok2) (cfok : CallOk E w0 cf) (dok : DrawOk E w0 cf) : ∀ c : Code, CodeOk E w0 cf c := by
  intro c
  induction c with
  | skip => intro tm st x tm' st' g a w Q h hf hi hd hq; simp only [run] at h; cases h; exact wp_skip (hq g a w hf hi (.refl _ _) hd)
  | label l => intro tm st x tm' st' g a w Q h hf hi hd hq; simp only [run] at h; cases h; exact wp_label (hq g a w hf hi (.refl _ _) hd)
  | ret => intro tm st x tm' st' g a w Q h hf hi hd hq; simp only [run] at h; cases h; exact wp_ret (hq g a w hf hi (.refl _ _) hd)
  | exit i => intro tm st x tm' st' g a w Q h hf hi hd hq; simp only [run] at h; cases h; exact wp_exit (hq g a w hf hi (.refl _ _) hd)
  | goto l => intro tm st x tm' st' g a w Q h hf hi hd hq; simp only [run] at h; cases h
  | refuse s => intro tm st x tm' st' g a w Q h hf hi hd hq; simp only [run] at h; cases h
  | rangeFunc f ps as b _ _ => intro tm st x tm' st' g a w Q h hf hi hd hq; simp only [run] at h; cases h
  | seq c1 c2 ih1 ih2 =>
    intro tm st x tm' st' g a w Q h hf hi hd hq
    simp only [run] at h
    refine wp_seq ?_
    cases hb : run E cf c1 tm st with
    | none => rw [hb] at h; cases h
    | some r =>
      obtain ⟨y, tm2, st2⟩ := r
      rw [hb] at h
      refine ih1 tm st y tm2 st2 g a w _ hb hf hi hd fun g' a' w' k1 k2 k3 k4 => ?_
      cases y with
      | nrm => exact ih2 _ _ _ _ _ _ _ _ _ h k1 k2 k4 fun g2 a2 w2 m1 m2 m3 m4 => hq g2 a2 w2 m1 m2 (k3.trans m3) m4
      | exit i => cases h; exact hq g' a' w' k1 k2 k3 k4
      | ret => cases h; exact hq g' a' w' k1 k2 k3 k4
  | cond o c1 c2 ih1 ih2 =>
    intro tm st x tm' st' g a w Q h hf hi hd hq
    simp only [run] at h
    split at h
    · rename_i hc
      have hv := ev_VR hi.glob hf hc
      generalize hav : a.eval o = av at hv
      cases hv
      exact wp_cond_true hav (ih1 _ _ _ _ _ _ _ _ _ h hf hi hd hq)
    · rename_i hc
      have hv := ev_VR hi.glob hf hc
      generalize hav : a.eval o = av at hv
      cases hv
      exact wp_cond_false hav (ih2 _ _ _ _ _ _ _ _ _ h hf hi hd hq)
    · cases h
  | block i c ih =>
    intro tm st x tm' st' g a w Q h hf hi hd hq
    simp only [run] at h
    refine wp_block ?_
    cases hb : run E cf c tm st with
    | none => rw [hb] at h; cases h
    | some r =>
      obtain ⟨y, tm2, st2⟩ := r
      rw [hb] at h
      refine ih tm st y tm2 st2 g a w _ hb hf hi hd fun g' a' w' k1 k2 k3 k4 => ?_
      cases y with
      | nrm => cases h; exact hq g' a' w' k1 k2 k3 k4
      | ret => cases h; exact hq g' a' w' k1 k2 k3 k4
      | exit j =>
        simp only [cond_eq_ite, Nat.beq_eq] at h
        simp only [X.out, Exit.inBlock]
        split at h
        · rename_i hj
          cases h
          rw [if_pos hj]
          exact hq g' a' w' k1 k2 k3 k4
        · rename_i hj
          cases h
          rw [if_neg hj]
          exact hq g' a' w' k1 k2 k3 k4
  | scope c ih =>
    intro tm st x tm' st' g a w Q h hf hi hd hq
    simp only [run] at h
    refine wp_scope_straight (ih _ _ _ _ _ _ _ _ _ h hf hi hd fun g' a' w' k1 k2 k3 k4 => ?_)
    have := hq g' a' w' k1 k2 k3 k4
    cases x <;> exact this
  | loop c ih =>
    intro tm st x tm' st' g a w Q h hf hi hd hq
    simp only [run] at h
    exact loopI_sound ih h hf hi hd hq
  | region id ops d =>
    intro tm st x tm' st' g a w Q h hf hi hd hq
    simp only [run] at h
    cases d
    · simp only [cond_false] at h
      split at h
      · rename_i tm1 st1 hb
        cases h
        refine wp_region ?_
        rw [List.range_eq_range']
        have := opsI_sound ok cfok (Q := Q) ops.toList 0 tm st g a w (by simp) hb hf hi hd hq
        simpa using this
      · cases h
    · simp only [cond_true] at h
      split at h
      · rename_i tm1 st1 hb
        cases h
        refine wp_region_any ok.mixed ?_
        exact dok ops tm st _ _ g a _ Q hb hf ⟨hi.rel.drew _, hi.glob, hi.fresh⟩ hd hq
      · cases h
theorem fill_whole (m : Nat) : ∀ (l : List V) (k : Nat) (t : TT V), t.whole 8 → (fill m l k t).whole 8
  | [], k, t, h => h
  | v :: l, k, t, h => fill_whole m l (k + 1) _ (TT.whole_set v 8 t k h)
theorem fill_get (m : Nat) : ∀ (l : List V) (k : Nat) (t : TT V), t.whole 8 → k + l.length < 255 → ∀ j, (fill m l k t).get und j = if k ≤ j ∧ j < k + l.length then l[j - k]?.getD und else t.get und j
  | [], k, t, h, hl, j => by rw [if_neg (by simp)]; rfl
  | v :: l, k, t, h, hl, j => by
    simp only [List.length_cons] at hl
    rw [fill, fill_get m l (k + 1) _ (TT.whole_set v 8 t k h) (by omega)]
    by_cases hj : j = k
    · subst hj
      rw [if_neg (by omega), if_pos (by simp), TT.get_set_eq und v 8 t j h (by omega)]
      simp
    · rw [TT.get_set_ne _ _ _ _ _ hj]
      by_cases hk : k + 1 ≤ j ∧ j < k + 1 + l.length
      · rw [if_pos hk, if_pos (by simp; omega), show j - k = (j - (k + 1)) + 1 by omega]
        simp
      · rw [if_neg hk, if_neg (by simp; omega)]
theorem start_FRel {args : List V} {xs : Array Value} {n : Nat} (h : VRs g args xs.toList) (hl : args.length ≤ n) (hn : n < 255) :
    FRel g { n := n, t := fill 0 args 0 (TT.full und 8) } { tmps := xs ++ Array.replicate (n - xs.size) undef, defers := [] } := by
  have hlen := h.len
  simp only [Array.length_toList] at hlen
  refine ⟨by simp; omega, hn, fill_whole 0 _ _ _ (TT.whole_full und 8), fun k => ?_⟩
  simp only
  rw [fill_get 0 args 0 _ (TT.whole_full und 8) (by omega), Array.getD_eq_getD_getElem?]
  by_cases hk : k < args.length
  · rw [if_pos (by omega), Nat.sub_zero]
    obtain ⟨y, hy, hv⟩ := h.get (List.getElem?_eq_getElem hk)
    rw [List.getElem?_eq_getElem hk, Array.getElem?_append_left (by omega), ← Array.getElem?_toList, hy]
    exact hv
  · rw [if_neg (by omega), TT.get_full]
    by_cases hk2 : k < n
    · rw [Array.getElem?_append_right (by omega), Array.getElem?_replicate]
      rw [if_pos (by omega)]
      exact und_VR g
    · rw [Array.getElem?_eq_none (by simp; omega)]
      exact und_VR g
def resF (tmps : Array Value) : ResultVar → Sem Value
  | .tmp t => pure (tmps.getD t undef)
  | .cell a t => do loadVar t (← asAddr (tmps.getD a undef))
theorem results_eq (fn : Func) (tmps : Array Value) : results fn tmps = (do
    let vs ← fn.results.mapM (resF tmps)
    pure (if h : vs.size = 1 then vs[0] else .tuple vs)) := rfl
theorem resI_sound (ok : E.Ok) (hf : FRel g tm a) (hi : Inv g st w0 w) : ∀ {rs : List ResultVar} {vs : List V}, resI E st tm rs = some vs →
    ∃ xs, (rs.mapM (resF a.tmps)).run E.P w = .ok xs w ∧ VRs g vs xs
  | [], vs, h => by cases h; exact ⟨[], rfl, .nil⟩
  | .tmp t :: rs, vs, h => by
    simp only [resI] at h
    obtain ⟨l, hl, rfl⟩ := Option.map_eq_some_iff.1 h
    obtain ⟨xs, h1, h2⟩ := resI_sound ok hf hi hl
    refine ⟨a.tmps.getD t undef :: xs, ?_, .cons _ _ _ _ (hf.get t) h2⟩
    rw [List.mapM_cons]
    simp only [Sem.run_bind, resF, Sem.run_pure, Result.andThen_ok, h1]
  | .cell b t :: rs, vs, h => by
    simp only [resI] at h
    split at h
    · rename_i p hp
      split at h
      · rename_i v l hv hl
        cases h
        obtain ⟨xs, h1, h2⟩ := resI_sound ok hf hi hl
        have hb := hf.get b
        rw [hp] at hb
        generalize hbv : a.tmps.getD b undef = y at hb
        cases hb with | ptr _ ad had =>
        obtain ⟨z, hz, hvz⟩ := ldV_sound ok hi.rel hv had
        refine ⟨z :: xs, ?_, .cons _ _ _ _ hvz h2⟩
        have h3 : (resF a.tmps (.cell b t)).run E.P w = .ok z w := by
          simp only [resF, hbv, asAddr, Sem.run_bind, Sem.run_pure, Result.andThen_ok, hz]
        rw [List.mapM_cons]
        simp only [Sem.run_bind, h3, Sem.run_pure, Result.andThen_ok, h1]
      · cases h
    · cases h
theorem results_sound (ok : E.Ok) (hf : FRel g tm a) (hi : Inv g st w0 w) {fn : Func} {vs : List V} (h : resI E st tm fn.results.toList = some vs) :
    ∃ x, (results fn a.tmps).run E.P w = .ok x w ∧ VR g (match (generalizing := false) vs with | [v] => v | l => .tuple l) x := by
  obtain ⟨xs, h1, h2⟩ := resI_sound ok hf hi h
  refine ⟨if h : xs.toArray.size = 1 then xs.toArray[0] else .tuple xs.toArray, ?_, ?_⟩
  · rw [results_eq]
    simp only [Sem.run_bind]
    rw [Array.mapM_eq_mapM_toList]
    simp only [Sem.run_map, h1, Result.andThen_ok, Sem.run_pure]
  · cases h2 with
    | nil => exact .tuple _ [] .nil
    | cons v x vs' xs' k1 k2 =>
      cases k2 with
      | nil => exact k1
      | cons v2 x2 vs2 xs2 m1 m2 => exact .tuple _ _ (.cons _ _ _ _ k1 (.cons _ _ _ _ m1 m2))
theorem call_sound (ok : E.Ok2) (dok : ∀ cf, CallOk E w0 cf → DrawOk E w0 cf) : ∀ n, CallOk E w0 (call E n)
  | 0 => fun f args st v st' g w xs h => by cases h
  | n + 1 => by
    intro f args st v st' g w xs h hx hi
    have ih := call_sound ok dok n
    simp only [call] at h
    split at h
    · cases h
    rename_i fn hfn
    have hF := ok.fn _ _ hfn
    split at h
    · rename_i hbody
      obtain ⟨e1, e2, e3⟩ := ok.ext _ _ hfn hbody
      have d := ext_sound (E := E) ok.ok hi.glob hi.rel (hi.fresh _ (Nat.le_refl _)) hx h
      obtain ⟨x, w', g', h1, h2, h3, h4⟩ := d.inv hi
      refine .inl ⟨x, w', g', ?_, h2, h3, h4⟩
      rw [run_callFunc_extern hF e1 (by rw [hbody]; rfl) e2 e3]
      rcases h1 with h1 | ⟨h1, _⟩
      · simp only [Sem.run_bind] at h1
        cases hr : (rowE ((E.ex.get none f).getD 0) fn xs).run E.P w with
        | ok y w1 => rw [hr] at h1; simp at h1; simp [h1]
        | halt y w1 => rw [hr] at h1; simp at h1
      · simp only [Sem.run_bind] at h1
        cases hr : (rowE ((E.ex.get none f).getD 0) fn xs).run E.P w with
        | ok y w1 => rw [hr] at h1; simp at h1
        | halt y w1 => rw [hr] at h1; simp at h1
    · rename_i c hbody
      simp only [lenN_eq, cond_eq_ite, Bool.and_eq_true] at h
      split at h
      case isFalse => cases h
      rename_i hn
      have hn1 : args.length ≤ fn.ntmps := Nat.le_of_ble_eq_true hn.1
      have hn2 : fn.ntmps < 255 := by have := hn.2; rw [bltN] at this; simpa using this
      refine .inr ⟨f, xs, ok.enter _ _ _ hfn hbody xs w, ?_⟩
      have hcode := run_sound ok ih (dok _ ih) c
      have hfr := start_FRel (g := g) hx hn1 hn2
      refine calls_of_wp hF hbody ?_
      split at h
      · rename_i tm2 st2 hb
        obtain ⟨vs, hvs, he⟩ := Option.map_eq_some_iff.1 h
        cases he
        refine hcode _ _ _ _ _ _ _ _ _ hb hfr hi rfl fun g' a' w' k1 k2 k3 k4 => ?_
        obtain ⟨x, hx1, hx2⟩ := results_sound ok.ok k1 k2 hvs
        exact ⟨k4, x, hx1, x, g', rfl, hx2, k2, k3⟩
      · rename_i tm2 st2 hb
        obtain ⟨vs, hvs, he⟩ := Option.map_eq_some_iff.1 h
        cases he
        refine hcode _ _ _ _ _ _ _ _ _ hb hfr hi rfl fun g' a' w' k1 k2 k3 k4 => ?_
        obtain ⟨x, hx1, hx2⟩ := results_sound ok.ok k1 k2 hvs
        exact ⟨k4, x, hx1, x, g', rfl, hx2, k2, k3⟩
      · cases h
end
end Go.Ri
set_option linter.unusedVariables false
set_option linter.unusedSimpArgs false
namespace Go.Ri
/-! ### What is the same is equal -/
theorem kind_beq {j k : IntKind} (h : (j == k) = true) : j = k := by simpa using h
mutual
theorem V.same_eq : ∀ {a b : V}, V.same a b = true → a = b
  | .bool a, .bool b, h => by simp [V.same] at h; rw [h]
  | .int k a, .int l b, h => by simp [V.same] at h; rw [h.1, h.2]
  | .str a, .str b, h => by simp [V.same] at h; rw [h]
  | .ptr a, .ptr b, h => by simp [V.same] at h; rw [h]
  | .slice a l c s e, .slice a' l' c' s' e', h => by simp [V.same] at h; obtain ⟨⟨⟨⟨h1, h2⟩, h3⟩, h4⟩, h5⟩ := h; rw [h1, h2, h3, h4, h5]
  | .map a, .map b, h => by simp [V.same] at h; rw [h]
  | .func f a, .func g b, h => by simp [V.same] at h; rw [h.1, V.sames_eq h.2]
  | .nilFunc, .nilFunc, _ => rfl
  | .iface t a, .iface u b, h => by simp [V.same] at h; rw [h.1, V.same_eq h.2]
  | .nilIface, .nilIface, _ => rfl
  | .empt, .empt, _ => rfl
  | .agg a, .agg b, h => by simp [V.same] at h; rw [V.sames_eq h]
  | .tuple a, .tuple b, h => by simp [V.same] at h; rw [V.sames_eq h]
  | .hole, .hole, _ => rfl
  | .bool _, .int _ _, h => by simp [V.same] at h
theorem V.sames_eq : ∀ {a b : List V}, V.sames a b = true → a = b
  | [], [], _ => rfl
  | a :: x, b :: y, h => by simp [V.sames] at h; rw [V.same_eq h.1, V.sames_eq h.2]
  | [], _ :: _, h => by simp [V.sames] at h
  | _ :: _, [], h => by simp [V.sames] at h
end
theorem pairsSame_eq : ∀ {a b : List (V × V)}, pairsSame a b = true → a = b
  | [], [], _ => rfl
  | (a, b) :: x, (c, d) :: y, h => by
    simp [pairsSame] at h
    rw [V.same_eq h.1.1, V.same_eq h.1.2, pairsSame_eq h.2]
  | [], _ :: _, h => by simp [pairsSame] at h
  | _ :: _, [], h => by simp [pairsSame] at h
theorem O.same_eq {a b : O} (h : O.same a b = true) : a = b := by
  cases a <;> cases b <;> simp [O.same] at h
  · obtain ⟨⟨⟨h1, h2⟩, h3⟩, h4⟩ := h; rw [h1, h2, h3, V.sames_eq h4]
  · rw [pairsSame_eq h]
  · rw [h]
theorem oSame_eq {a b : Option O} (h : oSame a b = true) : a = b := by
  cases a <;> cases b <;> simp [oSame] at h
  · rfl
  · rw [O.same_eq h]
theorem T.same_eq : ∀ {a b : TT (Option O)}, T.same a b = true → a = b
  | .e, .e, _ => rfl
  | .n l v r, .n l' v' r', h => by
    simp [T.same] at h
    rw [oSame_eq h.1.1, T.same_eq h.1.2, T.same_eq h.2]
  | .e, .n _ _ _, h => by simp [T.same] at h
  | .n _ _ _, .e, h => by simp [T.same] at h
theorem St.same_eq {a b : St} (h : St.same a b = true) : a = b := by
  obtain ⟨h1, n1⟩ := a
  obtain ⟨h2, n2⟩ := b
  simp only [St.same, Bool.and_eq_true, Nat.beq_eq] at h
  rw [h.1, T.same_eq h.2]
/-! ### Bits -/
theorem bitN_eq (m k : Nat) : bitN m k = m.testBit k := by
  unfold bitN Nat.testBit
  rw [beqN]
  have e : Nat.land 1 (Nat.shiftRight m k) = 1 &&& (m >>> k) := rfl
  rw [e, Nat.one_and_eq_mod_two]
  rcases Nat.mod_two_eq_zero_or_one (m >>> k) with h | h <;> simp [h]
theorem bit_or (m k j : Nat) : (m ||| 2 ^ k).testBit j = (m.testBit j || decide (k = j)) := by
  rw [Nat.testBit_or, Nat.testBit_two_pow]
theorem noneBit_intro {m k : Nat} : ∀ {its : List It}, (∀ j ∈ its, m.testBit j.k = true → j.m.testBit k = false) → noneBit m k its = true
  | [], _ => rfl
  | j :: its, h => by
    have ih := noneBit_intro (m := m) (k := k) (its := its) fun j hj => h j (by simp [hj])
    change Bool.rec (motive := fun _ => Bool) (noneBit m k its) (Bool.rec (motive := fun _ => Bool) (noneBit m k its) false (bitN j.m k)) (bitN m j.k) = true
    rw [bool_rec, bool_rec, bitN_eq, bitN_eq]
    split
    · rename_i hm
      rw [if_neg (by rw [h j (by simp) hm]; simp)]
      exact ih
    · exact ih
theorem enabled_intro {nq m : Nat} {its : List It} {i : It} (h1 : ∀ k, i.m.testBit k = true → nq.testBit k = true → m.testBit k = true) (h2 : m.testBit i.k = false)
    (h3 : ∀ j ∈ its, m.testBit j.k = true → j.m.testBit i.k = false) : enabled nq its i m = true := by
  unfold enabled
  have e : Nat.land (Nat.land i.m nq) m = Nat.land i.m nq := by
    change (i.m &&& nq) &&& m = i.m &&& nq
    apply Nat.eq_of_testBit_eq
    intro k
    rw [Nat.testBit_and, Nat.testBit_and]
    cases ha : i.m.testBit k <;> cases hb : nq.testBit k <;> simp [ha, hb]
    exact h1 k ha hb
  rw [e, bitN_eq, h2, noneBit_intro h3, beqN]
  simp
/-! ### Nodes -/
section
variable {E : Env} {cf : CF} {nx0 nq : Nat} {all : List It}
theorem addNode_spec {m : Nat} {s : St} : ∀ {l l' : List (Nat × St)}, addNode m s l = some l' → (m, s) ∈ l' ∧ ∀ n ∈ l, n ∈ l'
  | [], l', h => by cases h; simp
  | (m', s') :: r, l', h => by
    simp only [addNode, cond_eq_ite, Nat.beq_eq] at h
    split at h
    · rename_i hm
      subst hm
      split at h
      · rename_i hs
        cases h
        rw [St.same_eq hs]
        simp
      · cases h
    · obtain ⟨l2, h1, rfl⟩ := Option.map_eq_some_iff.1 h
      obtain ⟨h2, h3⟩ := addNode_spec h1
      refine ⟨by simp [h2], fun n hn => ?_⟩
      rcases List.mem_cons.1 hn with rfl | hn
      · simp
      · simp [h3 n hn]
theorem fromNode_spec {m : Nat} {s : St} : ∀ {l : List It} {acc acc' : List (Nat × St)}, fromNode E cf nx0 nq all m s l acc = some acc' →
    (∀ n ∈ acc, n ∈ acc') ∧ ∀ i ∈ l, enabled nq all i m = true → ∃ s', stepIt E cf nx0 i s = some s' ∧ (i.q = false → (m ||| 2 ^ i.k, s') ∈ acc')
  | [], acc, acc', h => by cases h; exact ⟨fun n hn => hn, fun i hi => by simp at hi⟩
  | i :: r, acc, acc', h => by
    simp only [fromNode, cond_eq_ite] at h
    split at h
    · rename_i hen
      split at h
      · cases h
      · rename_i s' hs
        split at h
        · rename_i hq
          obtain ⟨h1, h2⟩ := fromNode_spec h
          refine ⟨h1, fun j hj => ?_⟩
          rcases List.mem_cons.1 hj with rfl | hj
          · exact fun _ => ⟨s', hs, fun hf => by rw [hq] at hf; cases hf⟩
          · exact h2 j hj
        · rename_i hq
          split at h
          · rename_i acc2 ha
            obtain ⟨h1, h2⟩ := fromNode_spec h
            obtain ⟨h3, h4⟩ := addNode_spec ha
            refine ⟨fun n hn => h1 n (h4 n hn), fun j hj => ?_⟩
            rcases List.mem_cons.1 hj with rfl | hj
            · exact fun _ => ⟨s', hs, fun _ => h1 _ h3⟩
            · exact h2 j hj
          · cases h
    · rename_i hen
      obtain ⟨h1, h2⟩ := fromNode_spec h
      refine ⟨h1, fun j hj => ?_⟩
      rcases List.mem_cons.1 hj with rfl | hj
      · exact fun he => absurd he hen
      · exact h2 j hj
theorem layer_spec : ∀ {l acc acc' : List (Nat × St)}, layer E cf nx0 nq all l acc = some acc' →
    (∀ n ∈ acc, n ∈ acc') ∧ ∀ m s, (m, s) ∈ l → ∀ i ∈ all, enabled nq all i m = true → ∃ s', stepIt E cf nx0 i s = some s' ∧ (i.q = false → (m ||| 2 ^ i.k, s') ∈ acc')
  | [], acc, acc', h => by cases h; exact ⟨fun n hn => hn, fun m s hi => by simp at hi⟩
  | (m, s) :: r, acc, acc', h => by
    simp only [layer] at h
    split at h
    · rename_i acc2 ha
      obtain ⟨h1, h2⟩ := fromNode_spec ha
      obtain ⟨h3, h4⟩ := layer_spec h
      refine ⟨fun n hn => h3 n (h1 n hn), fun m1 s1 hm i hi he => ?_⟩
      rcases List.mem_cons.1 hm with hm | hm
      · cases hm
        obtain ⟨s', h5, h6⟩ := h2 i hi he
        exact ⟨s', h5, fun hq => h3 _ (h6 hq)⟩
      · exact h4 m1 s1 hm i hi he
    · cases h
end
/-! ### The first pass -/
theorem ahead_spec {its : List It} : ∀ {es : List Edge} {m k : Nat}, (ahead its es m).testBit k = true →
    m.testBit k = true ∨ ∃ e ∈ es, Region.binds .any e = true ∧ (k = e.on ∨ ∃ j ∈ its, j.k = e.on ∧ j.m.testBit k = true)
  | [], m, k, h => .inl h
  | e :: es, m, k, h => by
    unfold ahead at h
    rw [List.foldl_cons] at h
    rcases ahead_spec (its := its) (es := es) h with h1 | ⟨e', he', h2⟩
    · simp only [cond_eq_ite] at h1
      split at h1
      · rename_i hb
        rw [Nat.testBit_or, bit_or] at h1
        simp only [Bool.or_eq_true, decide_eq_true_eq] at h1
        rcases h1 with (h1 | h1) | h1
        · exact .inl h1
        · exact .inr ⟨e, by simp, hb, .inl h1.symm⟩
        · split at h1
          · rename_i j hj
            exact .inr ⟨e, by simp, hb, .inr ⟨j, List.mem_of_find?_eq_some hj, by have := List.find?_some hj; simpa using this, h1⟩⟩
          · simp at h1
      · exact .inl h1
    · exact .inr ⟨e', by simp [he'], h2⟩
/-- What the first pass leaves. -/
def Good (ops : List Oper) (tm : Fr) : Nat → List It → Prop
  | 0, [] => True
  | k + 1, i :: rest => (i.k = k ∧ ops[k]? = some i.o ∧ i.m = ahead rest i.o.after.toList 0 ∧ seen tm rest i.m = some i.tm ∧ wantI ops i.tm i.o = some i.w ∧ (i.w = false → i.q = true ∧ i.v = und)) ∧ Good ops tm k rest
  | _, _ => False
theorem items_good {E : Env} {cf : CF} {ops : List Oper} {tm : Fr} {nx0 : Nat} : ∀ {l : List Oper} {k : Nat} {its its' : List It} {st : St}, items E cf ops tm nx0 l k its st = some its' → ops.drop k = l → Good ops tm k its → Good ops tm ops.length its'
  | [], k, its, its', st, h, hl, hg => by
    simp only [items] at h
    cases h
    have hk : ops.length ≤ k := by
      have := congrArg List.length hl
      simp at this
      omega
    have : ∀ {k : Nat} {its : List It}, Good ops tm k its → k ≤ ops.length := by
      intro k
      cases k with
      | zero => intro its _; omega
      | succ k =>
        intro its hg
        cases its with
        | nil => exact hg.elim
        | cons i r =>
          have := (List.getElem?_eq_some_iff.1 hg.1.2.1).1
          omega
    have hk2 := this hg
    rw [show ops.length = k by omega]
    exact hg
  | o :: r, k, its, its', st, h, hl, hg => by
    have hk : ops[k]? = some o := by rw [← List.head?_drop, hl]; rfl
    have hl' : ops.drop (k + 1) = r := by rw [← List.tail_drop, hl]; rfl
    simp only [items] at h
    split at h
    · cases h
    · rename_i tk hseen
      split at h
      · rename_i hw
        split at h
        · rename_i v st1 hs
          exact items_good h hl' ⟨⟨rfl, hk, rfl, hseen, hw, fun h => by cases h⟩, hg⟩
        · cases h
      · rename_i hw
        exact items_good h hl' ⟨⟨rfl, hk, rfl, hseen, hw, fun _ => ⟨rfl, rfl⟩⟩, hg⟩
      · cases h
section
variable {ops : List Oper} {tm : Fr}
theorem Good.mem : ∀ {n : Nat} {its : List It}, Good ops tm n its → ∀ i ∈ its, i.k < n ∧ ops[i.k]? = some i.o ∧ (i.w = false → i.q = true ∧ i.v = und) ∧ wantI ops i.tm i.o = some i.w ∧
    ∃ rest, Good ops tm i.k rest ∧ (∀ j ∈ rest, j ∈ its) ∧ i.m = ahead rest i.o.after.toList 0 ∧ seen tm rest i.m = some i.tm
  | 0, [], _, i, hi => by simp at hi
  | k + 1, j :: rest, ⟨⟨h1, h2, h3, h4, h5, h6⟩, hg⟩, i, hi => by
    rcases List.mem_cons.1 hi with rfl | hi2
    · subst h1
      exact ⟨Nat.lt_succ_self _, h2, h6, h5, rest, hg, fun j hj => by simp [hj], h3, h4⟩
    · obtain ⟨k1, k2, k3, k4, r, k5, k6, k7, k8⟩ := Good.mem hg i hi2
      exact ⟨by omega, k2, k3, k4, r, k5, fun j hj => by simp [k6 j hj], k7, k8⟩
  | 0, _ :: _, h, _, _ => h.elim
  | _ + 1, [], h, _, _ => h.elim
theorem Good.uniq : ∀ {n : Nat} {its : List It}, Good ops tm n its → ∀ i ∈ its, ∀ j ∈ its, i.k = j.k → i = j
  | 0, [], _, i, hi, _, _, _ => by simp at hi
  | k + 1, a :: rest, ⟨⟨h1, _⟩, hg⟩, i, hi, j, hj, e => by
    rcases List.mem_cons.1 hi with rfl | hi2 <;> rcases List.mem_cons.1 hj with rfl | hj2
    · rfl
    · have := (Good.mem hg j hj2).1; omega
    · have := (Good.mem hg i hi2).1; omega
    · exact Good.uniq hg i hi2 j hj2 e
  | 0, _ :: _, h, _, _, _, _, _ => h.elim
  | _ + 1, [], h, _, _, _, _, _ => h.elim
theorem Good.ex : ∀ {n : Nat} {its : List It}, Good ops tm n its → ∀ k, k < n → ∃ i ∈ its, i.k = k
  | 0, [], _, k, hk => by omega
  | n + 1, a :: rest, ⟨⟨h1, _⟩, hg⟩, k, hk => by
    by_cases h : k = n
    · exact ⟨a, by simp, by omega⟩
    · obtain ⟨i, hi, e⟩ := Good.ex hg k (by omega)
      exact ⟨i, by simp [hi], e⟩
  | 0, _ :: _, h, _, _ => h.elim
  | _ + 1, [], h, _, _ => h.elim
theorem allN_spec {α : Type} {p : α → Bool} : ∀ {l : List α}, allN p l = true → ∀ a ∈ l, p a = true
  | [], _, a, ha => by simp at ha
  | b :: l, h, a, ha => by
    change Bool.rec (motive := fun _ => Bool) false (allN p l) (p b) = true at h
    rw [bool_rec] at h
    split at h
    · rename_i hb
      rcases List.mem_cons.1 ha with rfl | ha
      · exact hb
      · exact allN_spec h a ha
    · cases h
theorem memN_spec {d : Nat} : ∀ {l : List Nat}, d ∈ l → memN d l = true
  | a :: l, h => by
    change Bool.rec (motive := fun _ => Bool) (memN d l) true (Nat.beq a d) = true
    rw [bool_rec]
    split
    · rfl
    · rename_i hb
      rcases List.mem_cons.1 h with rfl | h
      · simp at hb
      · exact memN_spec h
/-- What an operation looks at. -/
noncomputable def looks (ops : List Oper) (o : Oper) : List Nat := tmpsOf o.op.operands.toList ++ (match o.guard with | some (g, _) => ((nth ops g).bind (·.dst)).toList | none => [])
theorem other_spec {i j : It} {d : Nat} (h : other i j d = true) (hi : i.o.dst = some d) : i.k = j.k := by
  unfold other at h
  rw [hi] at h
  simpa using h
theorem sound_spec {its : List It} (h : sound ops its = true) : ∀ i ∈ its, (∀ j ∈ its, ∀ d, j.o.dst = some d → (d ∈ looks ops i.o → i.m.testBit j.k = true ∨ j.m.testBit i.k = true) ∧ (i.o.dst = some d → i.k = j.k)) ∧
    ∀ e ∈ i.o.after.toList, Region.binds .any e = true → e.on < i.k := by
  intro i hi
  have h1 : (bif allN (fun j => match j.o.dst with
      | none => true
      | some d => bif memN d (looks ops i.o) then (bif bitN i.m j.k then other i j d else bif bitN j.m i.k then other i j d else false) else other i j d) its
    then allN (fun e => bif Region.binds .any e then Nat.ble (Nat.succ e.on) i.k else true) i.o.after.toList else false) = true := allN_spec h i hi
  simp only [cond_eq_ite] at h1
  split at h1
  · rename_i h2
    refine ⟨fun j hj d hd => ?_, fun e he hb => ?_⟩
    · have h3 := allN_spec h2 j hj
      rw [hd] at h3
      simp only at h3
      split at h3
      · rename_i hm
        rw [bitN_eq, bitN_eq] at h3
        split at h3
        · rename_i hb; exact ⟨fun _ => .inl hb, fun hi => other_spec h3 hi⟩
        · split at h3
          · rename_i hb; exact ⟨fun _ => .inr hb, fun hi => other_spec h3 hi⟩
          · cases h3
      · rename_i hm
        exact ⟨fun hl => absurd (memN_spec hl) hm, fun hi => other_spec h3 hi⟩
    · have h3 := allN_spec h1 e he
      rw [hb] at h3
      simp only [if_true] at h3
      exact Nat.le_of_ble_eq_true h3
  · cases h1
/-- All that comes ahead has a smaller number. -/
theorem ahead_lt {n : Nat} {its : List It} (hg : Good ops tm n its) (hs : ∀ i ∈ its, ∀ e ∈ i.o.after.toList, Region.binds .any e = true → e.on < i.k) : ∀ (N : Nat) (i : It), i.k < N → i ∈ its → ∀ k, i.m.testBit k = true → k < i.k
  | 0, i, h, _, _, _ => by omega
  | N + 1, i, hN, hi, k, hk => by
    obtain ⟨_, _, _, _, rest, h1, h2, h3, _⟩ := hg.mem i hi
    rw [h3] at hk
    rcases ahead_spec hk with h | ⟨e, he, hb, h4⟩
    · simp at h
    · have h5 := hs i hi e he hb
      rcases h4 with rfl | ⟨j, hj, h6, h7⟩
      · exact h5
      · have := ahead_lt hg hs N j (by omega) (h2 j hj) k h7
        omega
/-- The frame behind the operations in a set, in the machine. -/
def seenA (a : Act) (X : Nat → Value) : List It → Nat → Act
  | [], _ => a
  | i :: r, m => if m.testBit i.k = true then (seenA a X r m).put i.o.dst (X i.k) else seenA a X r m
theorem seen_cons {i : It} {r : List It} {m : Nat} {tk : Fr} (h : seen tm (i :: r) m = some tk) : ∃ t, seen tm r m = some t ∧ ((m.testBit i.k = true ∧ putT t i.o.dst i.v = some tk) ∨ (m.testBit i.k = false ∧ tk = t)) := by
  simp only [seen] at h
  split at h
  · rename_i t ht
    rw [bool_rec, bitN_eq] at h
    split at h
    · rename_i hb; exact ⟨t, ht, .inl ⟨hb, h⟩⟩
    · rename_i hb; cases h; exact ⟨_, ht, .inr ⟨by simpa using hb, rfl⟩⟩
  · cases h
theorem seen_FRel {g : Gh} {a : Act} {X : Nat → Value} {m : Nat} (hf : FRel g tm a) : ∀ {its : List It} {tk : Fr}, seen tm its m = some tk → (∀ i ∈ its, m.testBit i.k = true → VR g i.v (X i.k)) → FRel g tk (seenA a X its m)
  | [], tk, h, _ => by cases h; exact hf
  | i :: r, tk, h, hx => by
    obtain ⟨t, h1, h2⟩ := seen_cons h
    have ih := seen_FRel hf h1 fun j hj => hx j (by simp [hj])
    unfold seenA
    rcases h2 with ⟨hb, h2⟩ | ⟨hb, rfl⟩
    · rw [if_pos hb]
      exact ih.put h2 (hx i (by simp) hb)
    · rw [if_neg (by rw [hb]; simp)]
      exact ih
theorem putT_lt {t tk : Fr} {d : Nat} {v : V} (h : putT t (some d) v = some tk) : d < t.n ∧ tk.n = t.n := by
  obtain ⟨n, tr⟩ := t
  change Bool.rec (motive := fun _ => _) _ _ _ = _ at h
  rw [bool_rec] at h
  split at h
  · rename_i hd
    cases h
    exact ⟨Nat.le_of_ble_eq_true hd, rfl⟩
  · cases h
theorem seen_n {m : Nat} : ∀ {its : List It} {tk : Fr}, seen tm its m = some tk → tk.n = tm.n ∧ ∀ i ∈ its, m.testBit i.k = true → ∀ d, i.o.dst = some d → d < tm.n
  | [], tk, h => by cases h; exact ⟨rfl, fun i hi => by simp at hi⟩
  | i :: r, tk, h => by
    obtain ⟨t, h1, h2⟩ := seen_cons h
    obtain ⟨k1, k2⟩ := seen_n h1
    rcases h2 with ⟨hb, h2⟩ | ⟨hb, rfl⟩
    · cases hd : i.o.dst with
      | none =>
        rw [hd] at h2
        cases h2
        refine ⟨k1, fun j hj hm d hjd => ?_⟩
        rcases List.mem_cons.1 hj with rfl | hj
        · rw [hd] at hjd; cases hjd
        · exact k2 j hj hm d hjd
      | some x =>
        rw [hd] at h2
        obtain ⟨m1, m2⟩ := putT_lt h2
        refine ⟨m2.trans k1, fun j hj hm d hjd => ?_⟩
        rcases List.mem_cons.1 hj with rfl | hj
        · rw [hd] at hjd; cases hjd; exact Nat.lt_of_lt_of_eq m1 k1
        · exact k2 j hj hm d hjd
    · refine ⟨k1, fun j hj hm d hjd => ?_⟩
      rcases List.mem_cons.1 hj with rfl | hj
      · rw [hb] at hm; cases hm
      · exact k2 j hj hm d hjd
theorem put_getD (a : Act) (dst : Option Tmp) (x : Value) (t : Nat) : (a.put dst x).tmps.getD t undef = if dst = some t ∧ t < a.tmps.size then x else a.tmps.getD t undef := by
  cases dst with
  | none => simp [Act.put]
  | some d =>
    by_cases h : d = t
    · subst h
      by_cases hl : d < a.tmps.size
      · simp [Act.put, hl]
      · rw [if_neg (fun h => hl h.2)]
        simp [Act.put, hl]
    · rw [if_neg (by rintro ⟨h1, _⟩; exact h (Option.some.inj h1))]
      simp [Act.put, Array.getElem?_setIfInBounds_ne h]
theorem put_size (a : Act) (dst : Option Tmp) (x : Value) : (a.put dst x).tmps.size = a.tmps.size := by
  cases dst <;> simp [Act.put]
theorem put_defs (a : Act) (dst : Option Tmp) (x : Value) : (a.put dst x).defers = a.defers := by
  cases dst <;> rfl
theorem seenA_spec {a : Act} {X : Nat → Value} {m : Nat} (t : Nat) : ∀ {l : List It}, (∀ i ∈ l, ∀ j ∈ l, ∀ d, j.o.dst = some d → i.o.dst = some d → i.k = j.k) → (∀ i ∈ l, m.testBit i.k = true → ∀ d, i.o.dst = some d → d < a.tmps.size) →
    (seenA a X l m).tmps.size = a.tmps.size ∧ (∀ j ∈ l, m.testBit j.k = true → j.o.dst = some t → (seenA a X l m).tmps.getD t undef = X j.k) ∧
    ((∀ j ∈ l, m.testBit j.k = true → j.o.dst ≠ some t) → (seenA a X l m).tmps.getD t undef = a.tmps.getD t undef)
  | [], _, _ => ⟨rfl, fun j hj => by simp at hj, fun _ => rfl⟩
  | i :: r, hu, hb => by
    obtain ⟨h1, h2, h3⟩ := seenA_spec (a := a) (X := X) (m := m) t (l := r) (fun i hi j hj => hu i (by simp [hi]) j (by simp [hj])) (fun i hi => hb i (by simp [hi]))
    unfold seenA
    by_cases hm : m.testBit i.k = true
    · rw [if_pos hm]
      refine ⟨by rw [put_size, h1], fun j hj hjm hjd => ?_, fun hno => ?_⟩
      · rw [put_getD, h1]
        by_cases hid : i.o.dst = some t
        · rw [if_pos ⟨hid, hb i (by simp) hm t hid⟩, hu i (by simp) j hj t hjd hid]
        · rw [if_neg (fun h => hid h.1)]
          rcases List.mem_cons.1 hj with rfl | hj
          · exact absurd hjd hid
          · exact h2 j hj hjm hjd
      · rw [put_getD, if_neg (fun h => hno i (by simp) hm h.1)]
        exact h3 fun j hj => hno j (by simp [hj])
    · rw [if_neg hm]
      refine ⟨h1, fun j hj hjm hjd => ?_, fun hno => h3 fun j hj => hno j (by simp [hj])⟩
      rcases List.mem_cons.1 hj with rfl | hj
      · exact absurd hjm hm
      · exact h2 j hj hjm hjd
theorem filter_drop {p : It → Bool} : ∀ {n : Nat} {its : List It}, Good ops tm n its → ∀ i ∈ its, p i = true → (its.filter p).length = (its.filter fun j => p j && decide (j.k ≠ i.k)).length + 1
  | 0, [], _, i, hi, _ => by simp at hi
  | k + 1, a :: rest, ⟨⟨h1, h2⟩, hg⟩, i, hi, hp => by
    rcases List.mem_cons.1 hi with rfl | hi
    · have : rest.filter (fun j => p j && decide (j.k ≠ i.k)) = rest.filter p := by
        apply List.filter_congr
        intro j hj
        have := (Good.mem hg j hj).1
        have hne : j.k ≠ i.k := by omega
        simp [hne]
      rw [List.filter_cons_of_pos hp, List.filter_cons_of_neg (by simp), this]
      rfl
    · have ih := filter_drop hg i hi hp
      have hne : a.k ≠ i.k := by have := (Good.mem hg i hi).1; omega
      by_cases hpa : p a = true
      · rw [List.filter_cons_of_pos hpa, List.filter_cons_of_pos (by simp [hpa, hne]), List.length_cons, List.length_cons, ih]
      · rw [List.filter_cons_of_neg hpa, List.filter_cons_of_neg (by simp [hpa]), ih]
  | 0, _ :: _, h, _, _, _ => h.elim
  | _ + 1, [], h, _, _, _ => h.elim
end
end Go.Ri
set_option linter.unusedVariables false
set_option linter.unusedSimpArgs false
namespace Go.Ri
theorem getD_set {l : Array Bool} {i : Nat} (hi : i < l.size) (k : Nat) : (l.setIfInBounds i true).getD k false = (l.getD k false || decide (k = i)) := by
  rw [Array.getD_eq_getD_getElem?, Array.getD_eq_getD_getElem?]
  by_cases h : k = i
  · subst h; simp [hi]
  · simp [Array.getElem?_setIfInBounds_ne (Ne.symm h), h]
/-- What holds between two operations of such a region. -/
structure Mid (E : Env) (cf : CF) (nx0 nq : Nat) (its : List It) (sfin : St) (len : Nat) (g0 : Gh) (w0 : World) (a0 : Act) (U : Nat → Bool) (X : Nat → Value) (g : Gh) (m : Nat) (s : St) (n : Nat) (L : List (Nat × St)) (a : Act) (w : World) : Prop where
  closed : ∀ i ∈ its, U i.k = true → ∀ k, i.m.testBit k = true → U k = true
  mask : ∀ i ∈ its, m.testBit i.k = (U i.k && !i.q)
  mask2 : ∀ k, m.testBit k = true → U k = true
  node : (m, s) ∈ L
  lay : layers E cf nx0 nq its n L = some sfin
  cnt : (its.filter fun i => !i.q && !U i.k).length = n
  rel : Rel g s w0 w
  glob : Glob g
  fresh : ∀ r, s.nx ≤ r → g r = none
  fresh2 : ∀ k, k < len → U k = false → g (nx0 + k) = none
  nx : nx0 + len ≤ s.nx
  le : g0.le g
  keep : ∀ r, r < nx0 → g r = g0 r
  x : ∀ i ∈ its, U i.k = true → VR g i.v (X i.k)
  size : a.tmps.size = a0.tmps.size
  done : ∀ t, ∀ i ∈ its, U i.k = true → i.o.dst = some t → a.tmps.getD t undef = X i.k
  rest : ∀ t, (∀ i ∈ its, U i.k = true → i.o.dst ≠ some t) → a.tmps.getD t undef = a0.tmps.getD t undef
  defers : a.defers = []
section
variable {E : Env} {g g0 : Gh} {st st' : St} {w0 w : World} {tm : Fr} {a a0 : Act} {cf : CF} {Q : Exit → Act → World → Prop} {nx0 nq len : Nat} {its : List It} {sfin : St}
/-- One operation more is done. -/
theorem Mid.step {ops : List Oper} (hg : Good ops tm len its) {U U' : Nat → Bool} {X : Nat → Value} {m m' n n' : Nat} {s s' : St} {L L' : List (Nat × St)} {g' : Gh} {w' : World} {x : Value} {i : It}
    (h : Mid E cf nx0 nq its sfin len g0 w0 a0 U X g m s n L a w) (hi : i ∈ its) (hun : U i.k = false) (hU : ∀ k, U' k = (U k || decide (k = i.k)))
    (hready : ∀ k, i.m.testBit k = true → U k = true) (huniq : ∀ j ∈ its, ∀ d, j.o.dst = some d → i.o.dst = some d → i.k = j.k) (hdst : ∀ d, i.o.dst = some d → d < a0.tmps.size)
    (hm : ∀ k, m'.testBit k = (m.testBit k || (!i.q && decide (i.k = k)))) (hnode : (m', s') ∈ L') (hlay : layers E cf nx0 nq its n' L' = some sfin) (hn : n = n' + (if i.q then 0 else 1))
    (hrel : Rel g' s' w0 w') (hfresh : ∀ r, s'.nx ≤ r → g' r = none) (hfresh2 : ∀ k, k < len → U' k = false → g' (nx0 + k) = none) (hnx : s.nx ≤ s'.nx) (hle : g.le g') (hkeep : ∀ r, r < nx0 → g' r = g r) (hx : VR g' i.v x) :
    Mid E cf nx0 nq its sfin len g0 w0 a0 U' (fun k => if k = i.k then x else X k) g' m' s' n' L' (a.put i.o.dst x) w' := by
  have uq := hg.uniq
  refine ⟨?_, ?_, ?_, hnode, hlay, ?_, hrel, h.glob.mono hle, hfresh, hfresh2, Nat.le_trans h.nx hnx, Gh.le_trans h.le hle, fun r hr => (hkeep r hr).trans (h.keep r hr), ?_, by rw [put_size, h.size], ?_, ?_, by rw [put_defs, h.defers]⟩
  · intro j hj hUj k hk
    rw [hU] at hUj ⊢
    simp only [Bool.or_eq_true, decide_eq_true_eq] at hUj ⊢
    rcases hUj with hUj | hUj
    · exact .inl (h.closed j hj hUj k hk)
    · have := uq j hj i hi hUj
      subst this
      exact .inl (hready k hk)
  · intro j hj
    rw [hm, h.mask j hj, hU]
    by_cases hji : j.k = i.k
    · have := uq j hj i hi hji
      subst this
      simp [hun]
    · have : ¬ i.k = j.k := fun e => hji e.symm
      simp [hji, this]
  · intro k hk
    rw [hm] at hk
    rw [hU]
    simp only [Bool.or_eq_true, Bool.and_eq_true, decide_eq_true_eq] at hk ⊢
    rcases hk with hk | ⟨_, hk⟩
    · exact .inl (h.mask2 k hk)
    · exact .inr hk.symm
  · have hf : (its.filter fun j => !j.q && !U' j.k) = its.filter fun j => (!j.q && !U j.k) && decide (j.k ≠ i.k) := by
      apply List.filter_congr
      intro j hj
      rw [hU]
      by_cases hji : j.k = i.k <;> simp [hji]
    rw [hf]
    cases hq : i.q
    · have := filter_drop (p := fun j => !j.q && !U j.k) hg i hi (by simp [hq, hun])
      rw [h.cnt, hn, hq] at this
      simp at this
      simp
      omega
    · rw [hq] at hn
      simp at hn
      rw [← hn, ← h.cnt]
      congr 1
      apply List.filter_congr
      intro j hj
      by_cases hji : j.k = i.k
      · have := uq j hj i hi hji
        subst this
        simp [hq]
      · simp [hji]
  · intro j hj hUj
    by_cases hji : j.k = i.k
    · have := uq j hj i hi hji
      subst this
      simpa using hx
    · rw [hU] at hUj
      simp [hji] at hUj
      simp only [hji, if_false]
      exact (h.x j hj hUj).mono hle
  · intro t j hj hUj hjd
    rw [put_getD]
    by_cases hji : j.k = i.k
    · have := uq j hj i hi hji
      subst this
      rw [if_pos ⟨hjd, by rw [h.size]; exact hdst t hjd⟩]
      simp
    · have hne : i.o.dst ≠ some t := fun e => hji (huniq j hj t hjd e).symm
      rw [if_neg (fun e => hne e.1)]
      rw [hU] at hUj
      simp [hji] at hUj
      simp only [hji, if_false]
      exact h.done t j hj hUj hjd
  · intro t hno
    have hne : i.o.dst ≠ some t := hno i hi (by rw [hU]; simp)
    rw [put_getD, if_neg (fun e => hne e.1)]
    exact h.rest t fun j hj hUj => hno j hj (by rw [hU, hUj]; rfl)
theorem isCall_quiet {o : Oper} (h : isQuiet o = true) : isCall o = false := by
  obtain ⟨dst, op, type, pos, after, guard⟩ := o
  cases op <;> first | rfl | skip
  rename_i c
  obtain ⟨callee, args, ats⟩ := c
  cases callee <;> first | rfl | cases h
theorem looks_eq (ops : Array Oper) (o : Oper) : o.looksAt ops = looks ops.toList o := by
  unfold Oper.looksAt looks tmpsOf
  congr 1
  cases o.guard with
  | none => rfl
  | some gw =>
    obtain ⟨j, want⟩ := gw
    simp only
    rw [nth_eq, Array.getElem?_toList]
theorem quiet_noSelect {o : Oper} {v : V} (h : quiet E tm o st = some v) (cs : Array SelectCase) (b : Bool) : o.op ≠ .select cs b := by
  intro e
  unfold quiet at h
  rw [e] at h
  cases h
theorem loud_noSelect {o : Oper} {r : V × St} (h : loud E tm o st = some r) (cs : Array SelectCase) (b : Bool) : o.op ≠ .select cs b := by
  intro e
  unfold loud at h
  rw [e] at h
  simp only [quiet] at h
  rw [e] at h
  cases h
theorem call_noSelect {o : Oper} (h : isCall o = true) (cs : Array SelectCase) (b : Bool) : o.op ≠ .select cs b := by
  intro e
  unfold isCall at h
  rw [e] at h
  cases h
theorem nq_spec : ∀ {l : List It} {z k : Nat}, (l.foldl (fun m i => m ||| 2 ^ i.k) z).testBit k = true → z.testBit k = true ∨ ∃ i ∈ l, i.k = k
  | [], z, k, h => .inl h
  | i :: l, z, k, h => by
    rw [List.foldl_cons] at h
    rcases nq_spec (l := l) h with h | ⟨j, hj, e⟩
    · rw [bit_or] at h
      simp only [Bool.or_eq_true, decide_eq_true_eq] at h
      rcases h with h | h
      · exact .inl h
      · exact .inr ⟨i, by simp, h⟩
    · exact .inr ⟨j, by simp [hj], e⟩
theorem draw_run (ok : E.Ok2) (cfok : CallOk E w0 cf) {ops : Array Oper} {st0 : St} {tmF : Fr} (hnq : nq = (its.filter fun i => !i.q).foldl (fun m i => m ||| 2 ^ i.k) 0) (hg : Good ops.toList tm ops.size its) (hs : sound ops.toList its = true)
    (hnx0 : nx0 = st0.nx) (hf0 : FRel g0 tm a0) (hseen : seen tm its (2 ^ ops.size - 1) = some tmF)
    (hq : ∀ g' a' w', FRel g' tmF a' → Inv g' sfin w0 w' → Aft g0 g' st0 sfin → a'.defers = [] → Q .normal a' w') :
    ∀ (fuel : Nat) (listed : Array Bool) (a : Act) (w : World) (X : Nat → Value) (g : Gh) (m n : Nat) (s : St) (L : List (Nat × St)), listed.size = ops.size → (its.filter fun i => !listed.getD i.k false).length = fuel →
      Mid E cf nx0 nq its sfin ops.size g0 w0 a0 (fun k => listed.getD k false) X g m s n L a w → wpAny E.P .any ops Q fuel listed a w := by
  have hsnd := sound_spec hs
  have huniq : ∀ i ∈ its, ∀ j ∈ its, ∀ d, j.o.dst = some d → i.o.dst = some d → i.k = j.k := fun i hi j hj d hd => ((hsnd i hi).1 j hj d hd).2
  have hedge : ∀ i ∈ its, ∀ e ∈ i.o.after.toList, Region.binds .any e = true → e.on < i.k := fun i hi => (hsnd i hi).2
  have hseenF := seen_n hseen
  have hbit : ∀ i ∈ its, (2 ^ ops.size - 1).testBit i.k = true := fun i hi => by
    rw [Nat.testBit_two_pow_sub_one]; simpa using (hg.mem i hi).1
  have hdst : ∀ i ∈ its, ∀ d, i.o.dst = some d → d < a0.tmps.size := fun i hi d hd => by
    rw [hf0.n]; exact hseenF.2 i hi (hbit i hi) d hd
  -- when nothing is ready, all is done
  have hall : ∀ (listed : Array Bool), listed.size = ops.size → Region.ready .any ops listed = [] → ∀ N k, k < N → k < ops.size → listed.getD k false = true := by
    intro listed hsz hr N
    induction N with
    | zero => intro k hk; omega
    | succ N ih =>
      intro k hk hks
      cases hU : listed.getD k false with
      | true => rfl
      | false =>
        obtain ⟨i, hi, rfl⟩ := hg.ex k hks
        obtain ⟨_, hoi, _⟩ := hg.mem i hi
        rw [Array.getElem?_toList] at hoi
        have : i.k ∈ Region.ready .any ops listed := by
          rw [mem_ready]
          refine ⟨?_, i.o, hoi, fun e he hb => ?_⟩
          · rw [Array.getD_eq_getD_getElem?] at hU ⊢
            rw [Array.getElem?_eq_getElem (by omega)] at hU ⊢
            simpa using hU
          · have := hedge i hi e (by simpa using he) hb
            exact ih e.on (by omega) (by omega)
        rw [hr] at this
        cases this
  have hend : ∀ (listed : Array Bool) (a : Act) (w : World) (X : Nat → Value) (g : Gh) (m n : Nat) (s : St) (L : List (Nat × St)), listed.size = ops.size →
      Mid E cf nx0 nq its sfin ops.size g0 w0 a0 (fun k => listed.getD k false) X g m s n L a w → Region.ready .any ops listed = [] → Q .normal a w := by
    intro listed a w X g m n s L hsz h hr
    have hU : ∀ i ∈ its, listed.getD i.k false = true := fun i hi => hall listed hsz hr _ i.k (Nat.lt_succ_self _) (hg.mem i hi).1
    have hn : n = 0 := by
      rw [← h.cnt]
      rw [List.length_eq_zero_iff, List.filter_eq_nil_iff]
      intro i hi
      simp [hU i hi]
    subst hn
    have hlay := h.lay
    unfold layers at hlay
    split at hlay
    · rename_i s1 _
      cases hlay
      have hnode := h.node
      simp at hnode
      obtain ⟨_, rfl⟩ := hnode
      refine hq g a w ?_ ⟨h.rel, h.glob, h.fresh⟩ ⟨h.le, fun r hr => h.keep r (by omega), by have := h.nx; omega⟩ h.defers
      have hA := seen_FRel (hf0.mono h.le) hseen (X := X) fun i hi _ => h.x i hi (hU i hi)
      refine ⟨by rw [h.size]; have := hA.n; rw [(seenA_spec (a := a0) (X := X) (m := 2 ^ ops.size - 1) 0 (fun i hi j hj => huniq i hi j hj) (fun i hi _ => hdst i hi)).1] at this; exact this, hA.lt, hA.wh, fun t => ?_⟩
      have e := seenA_spec (a := a0) (X := X) (m := 2 ^ ops.size - 1) t (fun i hi j hj => huniq i hi j hj) (fun i hi _ => hdst i hi)
      have ht := hA.get t
      by_cases hex : ∃ i ∈ its, i.o.dst = some t
      · obtain ⟨i, hi, hd⟩ := hex
        rw [e.2.1 i hi (hbit i hi) hd] at ht
        rw [h.done t i hi (hU i hi) hd]
        exact ht
      · rw [e.2.2 fun i hi _ hd => hex ⟨i, hi, hd⟩] at ht
        rw [h.rest t fun i hi _ hd => hex ⟨i, hi, hd⟩]
        exact ht
    · cases hlay
  intro fuel
  induction fuel with
  | zero =>
    intro listed a w X g m n s L hsz hfu h
    have hr : Region.ready .any ops listed = [] := by
      rw [List.eq_nil_iff_forall_not_mem]
      intro k hk
      obtain ⟨hu, o, ho, _⟩ := mem_ready.1 hk
      have hks : k < ops.size := (Array.getElem?_eq_some_iff.1 ho).1
      obtain ⟨i, hi, rfl⟩ := hg.ex k hks
      rw [List.length_eq_zero_iff, List.filter_eq_nil_iff] at hfu
      have := hfu i hi
      rw [Array.getD_eq_getD_getElem?] at this hu
      rw [Array.getElem?_eq_getElem (by omega)] at this hu
      simp at this hu
      rw [hu] at this
      cases this
    exact ⟨hr, hend listed a w X g m n s L hsz h hr⟩
  | succ fuel ih =>
    intro listed a w X g m n s L hsz hfu h
    refine ⟨hend listed a w X g m n s L hsz h, fun k hk => ?_⟩
    obtain ⟨hu, o, ho, hafter⟩ := mem_ready.1 hk
    have hks : k < ops.size := (Array.getElem?_eq_some_iff.1 ho).1
    have hun : listed.getD k false = false := by
      rw [Array.getD_eq_getD_getElem?] at hu ⊢
      rw [Array.getElem?_eq_getElem (by omega)] at hu ⊢
      simpa using hu
    obtain ⟨i, hi, hik⟩ := hg.ex k hks
    subst hik
    obtain ⟨_, hoi, hw1, hwant, rest, hgr, hsub, hm, hseeni⟩ := hg.mem i hi
    rw [Array.getElem?_toList, ho] at hoi
    cases hoi
    -- what comes ahead is done
    have hready : ∀ k, i.m.testBit k = true → listed.getD k false = true := by
      intro k hk
      rw [hm] at hk
      rcases ahead_spec hk with hk | ⟨e, he, hb, hk⟩
      · simp at hk
      · have hd := hafter e (by simpa using he) hb
        rcases hk with rfl | ⟨j, hj, hje, hjk⟩
        · exact hd
        · exact h.closed j (hsub j hj) (by rw [hje]; exact hd) k hjk
    have hlt := ahead_lt hg hedge
    -- the frame that it sees
    have hfa : FRel g i.tm (seenA a0 X rest i.m) := seen_FRel (hf0.mono h.le) hseeni fun j hj hb => h.x j (hsub j hj) (hready _ hb)
    have hagree : ∀ d, d ∈ looks ops.toList i.o → a.tmps.getD d undef = (seenA a0 X rest i.m).tmps.getD d undef := by
      intro d hd
      have e := seenA_spec (a := a0) (X := X) (m := i.m) d (l := rest) (fun p hp q hq => huniq p (hsub p hp) q (hsub q hq)) (fun p hp _ => hdst p (hsub p hp))
      by_cases hex : ∃ j ∈ its, j.o.dst = some d
      · obtain ⟨j, hj, hjd⟩ := hex
        rcases ((hsnd i hi).1 j hj d hjd).1 hd with hb | hb
        · have hjr : j ∈ rest := by
            obtain ⟨j', hj', hk'⟩ := hgr.ex j.k (hlt _ i (Nat.lt_succ_self _) hi _ hb)
            rw [hg.uniq j hj j' (hsub j' hj') hk'.symm]
            exact hj'
          rw [e.2.1 j hjr hb hjd, h.done d j hj (hready _ hb) hjd]
        · have hnj : listed.getD j.k false = false := by
            cases hU : listed.getD j.k false with
            | false => rfl
            | true =>
              have := h.closed j hj hU i.k hb
              try simp only at this
              rw [hun] at this
              cases this
          rw [e.2.2 fun p hp hpb hpd => by
            have h1 := huniq p (hsub p hp) j hj d hjd hpd
            have h2 := hready _ hpb
            rw [h1, hnj] at h2
            cases h2]
          exact h.rest d fun p hp hpU hpd => by
            have h1 := huniq p hp j hj d hjd hpd
            rw [h1, hnj] at hpU
            cases hpU
      · rw [e.2.2 fun p hp _ hpd => hex ⟨p, hsub p hp, hpd⟩]
        exact h.rest d fun p hp _ hpd => hex ⟨p, hp, hpd⟩
    have heval : ∀ x ∈ i.o.op.operands, a.eval x = (seenA a0 X rest i.m).eval x := by
      intro x hx
      cases x with
      | tmp t =>
        refine hagree t ?_
        unfold looks tmpsOf
        exact List.mem_append_left _ (List.mem_filterMap.2 ⟨.tmp t, by simpa using hx, rfl⟩)
      | _ => rfl
    have hwanted : Region.wanted i.o (yielded ops a.tmps) = i.w := by
      refine wantI_sound (g := g) hwant fun j want d hgd hd => ?_
      rw [hagree d]
      · exact hfa.get d
      · unfold looks
        refine List.mem_append_right _ ?_
        rw [hgd]
        simp only
        rw [nth_eq, Array.getElem?_toList, hd]
        simp
    -- the node leads on
    have hen1 : ∀ k, i.m.testBit k = true → nq.testBit k = true → m.testBit k = true := by
      intro k hk hkq
      rw [hnq] at hkq
      rcases nq_spec hkq with hkq | ⟨j, hj, rfl⟩
      · simp at hkq
      · obtain ⟨hj1, hj2⟩ := List.mem_filter.1 hj
        have hj3 := h.mask j hj1
        have hj4 := hready _ hk
        rw [hj3]
        simp only [Bool.and_eq_true]
        exact ⟨hj4, hj2⟩
    have hen2 : m.testBit i.k = false := by
      rw [h.mask i hi]
      have : (listed.getD i.k false && !i.q) = false := by rw [hun]; rfl
      exact this
    have hen3 : ∀ j ∈ its, m.testBit j.k = true → j.m.testBit i.k = false := by
      intro j hj hjm
      cases hb : j.m.testBit i.k with
      | false => rfl
      | true =>
        rw [h.mask j hj] at hjm
        simp only [Bool.and_eq_true] at hjm
        have : listed.getD i.k false = true := h.closed j hj hjm.1 i.k hb
        rw [hun] at this
        cases this
    have hen : enabled nq its i m = true := enabled_intro hen1 hen2 hen3
    have hU' : ∀ k, (listed.setIfInBounds i.k true).getD k false = (listed.getD k false || decide (k = i.k)) := fun k => getD_set (by omega) k
    have hfuel : (its.filter fun j => !(listed.setIfInBounds i.k true).getD j.k false).length = fuel := by
      have hd := filter_drop (p := fun j => !listed.getD j.k false) hg i hi (by simp [hun])
      rw [hfu] at hd
      have : (its.filter fun j => !(listed.setIfInBounds i.k true).getD j.k false) = its.filter fun j => (!listed.getD j.k false) && decide (j.k ≠ i.k) := by
        apply List.filter_congr
        intro j hj
        rw [hU']
        by_cases hji : j.k = i.k <;> simp [hji]
      rw [this]
      omega
    have hfresh2 : ∀ (g' : Gh), (∀ r, r ≠ nx0 + i.k → r < nx0 + ops.size → g' r = g r) → ∀ k, k < ops.size → (listed.setIfInBounds i.k true).getD k false = false → g' (nx0 + k) = none := by
      intro g' hk' k hkl hkU
      rw [hU'] at hkU
      simp only [Bool.or_eq_false_iff, decide_eq_false_iff_not] at hkU
      rw [hk' _ (by omega) (by omega)]
      exact h.fresh2 k hkl hkU.1
    have hmq : i.q = true → ∀ k, m.testBit k = (m.testBit k || (!i.q && decide (i.k = k))) := fun hq k => by simp [hq]
    have hmn : i.q = false → ∀ k, (m ||| 2 ^ i.k).testBit k = (m.testBit k || (!i.q && decide (i.k = k))) := fun hq k => by rw [bit_or]; simp [hq]
    unfold wpOp
    rw [ho]
    simp only
    rw [hwanted]
    cases hiw : i.w with
    | false =>
      simp only [Bool.false_eq_true, if_false]
      obtain ⟨hq1, hv1⟩ := hw1 hiw
      exact ih _ _ w _ g m n s L (by simpa using hsz) hfuel (h.step hg (x := undef) hi hun hU' hready (huniq i hi) (hdst i hi) (hmq hq1) h.node h.lay (by simp [hq1]) h.rel h.fresh
        (hfresh2 g fun _ _ _ => rfl) (Nat.le_refl _) (Gh.le_refl g) (fun _ _ => rfl) (by rw [hv1]; exact und_VR g))
    | true =>
      simp only [if_true]
      left
      have hstep : ∃ n' L', (i.q = true → n' = n ∧ L' = L) ∧ (n = n' + if i.q then 0 else 1) ∧ layers E cf nx0 nq its n' L' = some sfin ∧ ∃ s', stepIt E cf nx0 i s = some s' ∧ (i.q = false → (m ||| 2 ^ i.k, s') ∈ L') := by
        have hlay := h.lay
        cases n with
        | zero =>
          have hq1 : i.q = true := by
            cases hq : i.q with
            | true => rfl
            | false =>
              have := h.cnt
              rw [List.length_eq_zero_iff, List.filter_eq_nil_iff] at this
              have := this i hi
              simp [hq, hun] at this
          unfold layers at hlay
          split at hlay
          · rename_i acc s1 hl
            have hsp := (layer_spec hl).2 m s (by simpa using h.node) i hi hen
            obtain ⟨s', h1, h2⟩ := hsp
            refine ⟨0, _, fun _ => ⟨rfl, rfl⟩, by simp [hq1], h.lay, s', h1, fun hq => ?_⟩
            rw [hq1] at hq; cases hq
          · cases hlay
        | succ n =>
          simp only [layers] at hlay
          split at hlay
          · rename_i L' hl
            obtain ⟨s', h1, h2⟩ := (layer_spec hl).2 m s h.node i hi hen
            cases hq : i.q with
            | true => exact ⟨n + 1, L, (fun _ => ⟨rfl, rfl⟩), by simp, h.lay, s', h1, (fun hf => by cases hf)⟩
            | false => exact ⟨n, L', (fun hf => by cases hf), by simp, hlay, s', h1, fun _ => h2 hq⟩
          · cases hlay
      obtain ⟨n', L', hL, hn', hlay', s', hst, hnode'⟩ := hstep
      unfold stepIt at hst
      rw [hiw] at hst
      simp only [Bool.not_true, cond_false, cond_eq_ite, Bool.false_eq_true, if_false] at hst
      cases hq1 : i.q with
      | true =>
        rw [hq1] at hst
        simp only [if_true] at hst
        obtain ⟨rfl, rfl⟩ := hL hq1
        split at hst
        · rename_i v hv
          split at hst
          · rename_i hsame
            cases hst
            have := V.same_eq hsame
            subst this
            have hex := execOp_congr i.o (fun cs b => quiet_noSelect hv cs b) heval
            obtain ⟨x, hx1, hx2⟩ := quiet_sound ok.ok h.glob hfa h.rel hv
            unfold Oper.wp
            rw [hex, hx1]
            exact ih _ _ w _ g m n' s L' (by simpa using hsz) hfuel (h.step hg (x := x) hi hun hU' hready (huniq i hi) (hdst i hi) (hmq hq1) h.node h.lay (by simp [hq1]) h.rel h.fresh
              (hfresh2 g fun _ _ _ => rfl) (Nat.le_refl _) (Gh.le_refl g) (fun _ _ => rfl) hx2)
          · cases hst
        · cases hst
      | false =>
        rw [hq1] at hst
        simp only [Bool.false_eq_true, if_false] at hst
        split at hst
        · rename_i v s1 hv
          split at hst
          · rename_i hsame
            cases hst
            have := V.same_eq hsame
            subst this
            unfold stepD at hv
            cases hc : isCall i.o with
            | true =>
              rw [hc] at hv
              simp only [cond_true] at hv
              have hex := execOp_congr i.o (fun cs b => call_noSelect hc cs b) heval
              obtain ⟨sm, k1, k2⟩ := step1_call ok cfok hfa ⟨h.rel, h.glob, h.fresh⟩ hc hv
              refine upon_comes (by rw [hex]; exact k1) k2 fun x w' g' e1 e2 e3 => ?_
              have hnx := h.nx
              exact ih _ _ w' _ g' (m ||| 2 ^ i.k) n' s' L' (by simpa using hsz) hfuel (h.step hg (x := x) hi hun hU' hready (huniq i hi) (hdst i hi) (hmn hq1) (hnode' hq1) hlay' (by simp [hq1]; simpa [hq1] using hn') e2.rel e2.fresh
                (hfresh2 g' fun r _ hr => e3.keep r (by omega)) e3.nx e3.le (fun r hr => e3.keep r (by omega)) e1)
            | false =>
              rw [hc] at hv
              simp only [cond_false] at hv
              split at hv
              · rename_i v2 s2 hv2
                cases hv
                rw [step1_loud hc] at hv2
                have hex := execOp_congr i.o (fun cs b => loud_noSelect hv2 cs b) heval
                have hrel : Rel g { s with nx := nx0 + i.k } w0 w := ⟨h.rel.live, h.rel.inj, h.rel.own, h.rel.bnd, h.rel.size, h.rel.kept, h.rel.os, h.rel.out, h.rel.tp⟩
                have d := loud_sound ok.ok h.glob hfa hrel (h.fresh2 i.k hks hun) hv2
                refine upon_did hex d fun x w' g' e1 e2 e3 e4 e5 => ?_
                have hnx := h.nx
                simp only at e4
                exact ih _ _ w' _ g' (m ||| 2 ^ i.k) n' _ L' (by simpa using hsz) hfuel (h.step hg (x := x) hi hun hU' hready (huniq i hi) (hdst i hi) (hmn hq1) (hnode' hq1) hlay' (by simp [hq1]; simpa [hq1] using hn')
                  ⟨e2.live, e2.inj, e2.own, e2.bnd, e2.size, e2.kept, e2.os, e2.out, e2.tp⟩ (fun r hr => by rw [e4 r (by simp only at hr; omega)]; exact h.fresh r hr)
                  (hfresh2 g' fun r hr _ => e4 r hr) (Nat.le_refl _) e3 (fun r hr => e4 r (by omega)) e1)
              · cases hv
          · cases hst
        · cases hst
theorem draw_sound (ok : E.Ok2) (cfok : CallOk E w0 cf) : DrawOk E w0 cf := by
  intro ops tm st tm' st' g a w Q h hf hi hd hq
  unfold drawI at h
  simp only [cond_eq_ite] at h
  split at h
  · cases h
  rename_i its hits
  split at h
  case isFalse => cases h
  rename_i hsnd
  split at h
  case h_2 => cases h
  rename_i s tmF hlay hseen
  cases h
  have hg := items_good hits (by simp) (trivial : Good ops.toList tm 0 [])
  rw [Array.length_toList] at hg
  rw [lenN_eq, Array.length_toList] at hlay hseen
  have hun : ∀ k, (Array.replicate ops.size false).getD k false = false := fun k => by
    rw [Array.getD_eq_getD_getElem?, Array.getElem?_replicate]
    split <;> rfl
  refine draw_run ok cfok (its := its) rfl hg hsnd rfl hf hseen hq ops.size (Array.replicate ops.size false) a w (fun _ => undef) g 0 (its.filter fun i => !i.q).length { st with nx := st.nx + ops.size } [(0, { st with nx := st.nx + ops.size })] (by simp) ?_ ?_
  · have : its.filter (fun i => !(Array.replicate ops.size false).getD i.k false) = its := by
      rw [List.filter_eq_self]
      intro i _
      rw [hun]; rfl
    rw [this]
    have : ∀ {n : Nat} {its : List It}, Good ops.toList tm n its → its.length = n := by
      intro n
      induction n with
      | zero => intro its hg; cases its with | nil => rfl | cons _ _ => exact hg.elim
      | succ n ih => intro its hg; cases its with | nil => exact hg.elim | cons i r => rw [List.length_cons, ih hg.2]
    exact this hg
  · refine ⟨fun i hi hU => ?_, fun i hi => ?_, fun k hk => ?_, by simp, hlay, ?_, ⟨hi.rel.live, hi.rel.inj, hi.rel.own, hi.rel.bnd, hi.rel.size, hi.rel.kept, hi.rel.os, hi.rel.out, hi.rel.tp⟩, hi.glob, fun r hr => hi.fresh r (by simp only at hr; omega),
      fun k _ _ => hi.fresh _ (by omega), Nat.le_refl _, Gh.le_refl g, fun _ _ => rfl, fun i hi hU => ?_, rfl, fun t i hi hU => ?_, fun _ _ => rfl, hd⟩
    · rw [hun] at hU; cases hU
    · rw [hun]; simp
    · simp at hk
    · congr 1
      apply List.filter_congr
      intro i _
      rw [hun]; simp
    · rw [hun] at hU; cases hU
    · rw [hun] at hU; cases hU
/-- A CALL THAT THE INTERPRETER CARRIES OUT IS CARRIED OUT SO BY THE MACHINE. -/
theorem calls_ok (ok : E.Ok2) (n : Nat) : CallOk E w0 (call E n) := call_sound ok (fun cf h => draw_sound ok h) n
end
end Go.Ri
set_option linter.unusedVariables false
set_option linter.unusedSimpArgs false
namespace Go.Ri
open Go.RowKit
section
variable {E : Env} {g : Gh} {st st' : St} {w0 w w' : World}
theorem Rel.below (hr : Rel g st w0 w) : Below w0.heap.size w0 w := ⟨hr.os, hr.tp, hr.out, hr.size, hr.kept⟩
/-- What is made besides turns nothing of what is told. -/
theorem Rel.beside (hr : Rel g st w0 w) (h : Below w.heap.size w w') : Rel g st w0 w' := by
  refine ⟨fun r o hr1 => ?_, hr.inj, hr.own, fun r b x hb => Nat.lt_of_lt_of_le (hr.bnd r b x hb) h.size, Nat.le_trans hr.size h.size, fun b hb => ?_, h.os.trans hr.os, h.output.trans hr.out, h.tape.trans hr.tp⟩
  · obtain ⟨b, off, top, x, h1, h2, h3⟩ := hr.live r o hr1
    exact ⟨b, off, top, x, h1, (h.block b (hr.bnd _ _ _ h1)).trans h2, h3⟩
  · exact (h.block b (Nat.lt_of_lt_of_le hb hr.size)).trans (hr.kept b hb)
theorem Inv.beside (hi : Inv g st w0 w) (h : Below w.heap.size w w') : Inv g st w0 w' := ⟨hi.rel.beside h, hi.glob, hi.fresh⟩
/-- A call of a function that has a body. -/
theorem calls_of (ok : E.Ok2) {n f : Nat} {fn : Func} {c : Code} {args : List V} {v : V} {xs : Array Value} (h : call E n f args st = some (v, st')) (hfn : E.fn.get none f = some fn) (hb : fn.body = some c) (hx : VRs g args xs.toList) (hi : Inv g st w0 w) :
    Calls E.P f xs w fun e w' => ∃ x g', e = .returned x ∧ VR g' v x ∧ Inv g' st' w0 w' ∧ Aft g g' st st' := by
  have hF := ok.fn _ _ hfn
  have hrun : (callFunc f xs).run E.P w = .ok (.enter f xs) w := ok.enter _ _ _ hfn hb xs w
  rcases calls_ok (w0 := w0) ok n f args st v st' g w xs h hx hi with ⟨x, w1, g', h1, _⟩ | ⟨f1, xs1, h1, h2⟩
  · rw [hrun] at h1; cases h1
  · rw [hrun] at h1; cases h1; exact h2
/-! ### Tables -/
theorem laid_mem {α : Type} {n : Nat} : ∀ {l : List (Nat × α)} {k : Nat} {a : α}, (laid l (TT.full none n)).get none k = some a → (k, a) ∈ l
  | [], k, a, h => by rw [laid, TT.get_full] at h; cases h
  | (j, b) :: r, k, a, h => by
    rw [laid] at h
    by_cases hk : k = j
    · subst hk
      rcases TT.get_set_self (none : Option α) (some b) (laid r (TT.full none n)) k with e | e
      · rw [e] at h; cases h; simp
      · rw [e] at h; cases h
    · rw [TT.get_set_ne _ _ _ _ _ hk] at h
      exact List.mem_cons_of_mem _ (laid_mem h)
def AllP {α : Type} (p : α → Prop) : List α → Prop
  | [] => True
  | a :: l => p a ∧ AllP p l
theorem AllP.mem {α : Type} {p : α → Prop} : ∀ {l : List α}, AllP p l → ∀ a ∈ l, p a
  | [], _, a, h => by simp at h
  | b :: l, ⟨h1, h2⟩, a, h => by
    rcases List.mem_cons.1 h with rfl | h
    · exact h1
    · exact AllP.mem h2 a h
end
end Go.Ri

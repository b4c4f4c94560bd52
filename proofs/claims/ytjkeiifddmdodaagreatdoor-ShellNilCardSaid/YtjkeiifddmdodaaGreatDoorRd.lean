/-
  All operations that turn memory do in the machine what the interpreter says.
-/
import Derived.Test.YtjkeiifddmdodaaGreatDoorRc
import Derived.Laws.MakeOwn
import Derived.MapKept
import Derived.Deep.AppendSrc
import Derived.Laws.BytesString
set_option linter.unusedVariables false
set_option linter.unusedSimpArgs false
namespace Go.Ri
section
variable {E : Env} {g : Gh} {st st' : St} {w0 w : World}
theorem Did.quiet {s : Sem Value} {x : Value} {v : V} (hr : Rel g st w0 w) (h : s.run E.P w = .ok x w) (hv : VR g v x) : Did E g st st w0 w (do pure (.value (← s))) v :=
  ⟨x, w, g, .inl (by simp [h]), hv, hr, Gh.le_refl g, fun _ _ => rfl, .inl ⟨rfl, rfl⟩⟩
def PsR (g : Gh) : List (Nat × V) → List (Nat × Value) → Prop
  | [], [] => True
  | (i, v) :: l, (j, x) :: r => i = j ∧ VR g v x ∧ PsR g l r
  | _, _ => False
theorem foldl_set (off : Nat) : ∀ (l : List Value) (j : Nat) (cs : Array Value), off + j + l.length ≤ cs.size →
    ((l.zipIdx j).foldl (fun (cs : Array Value) (x : Value × Nat) => cs.setIfInBounds (off + x.2) x.1) cs).size = cs.size ∧
    ∀ i, ((l.zipIdx j).foldl (fun (cs : Array Value) (x : Value × Nat) => cs.setIfInBounds (off + x.2) x.1) cs)[i]? = if off + j ≤ i ∧ i < off + j + l.length then l[i - (off + j)]? else cs[i]?
  | [], j, cs, _ => ⟨rfl, fun i => by rw [if_neg (by simp)]; rfl⟩
  | x :: l, j, cs, h => by
    simp only [List.length_cons] at h
    obtain ⟨h1, h2⟩ := foldl_set off l (j + 1) (cs.setIfInBounds (off + j) x) (by simp; omega)
    simp only [List.zipIdx_cons, List.foldl_cons]
    refine ⟨by rw [h1]; simp, fun i => ?_⟩
    rw [h2]
    by_cases hi : i = off + j
    · subst hi
      rw [if_neg (by omega), if_pos (by simp)]
      simp [show off + j < cs.size by omega]
    · by_cases hj : off + (j + 1) ≤ i ∧ i < off + (j + 1) + l.length
      · rw [if_pos hj, if_pos (by simp; omega)]
        rw [show i - (off + j) = (i - (off + (j + 1))) + 1 by omega]
        simp
      · rw [if_neg hj, if_neg (by simp; omega)]
        simp [Array.getElem?_setIfInBounds_ne (Ne.symm hi)]
theorem fill_sound {pI pM : Nat → Option (Nat × Nat)} (hp : ∀ i x, pI i = some x → pM i = some x) : ∀ {ps : List (Nat × V)} {qs : List (Nat × Value)} {cs r : List V} {xs : Array Value},
    fillI pI cs ps = some r → PsR g ps qs → VRs g cs xs.toList → ∃ ys : Array Value, Instr.fill pM xs qs = some ys ∧ VRs g r ys.toList
  | [], [], cs, r, xs, h, _, hc => by cases h; exact ⟨xs, rfl, hc⟩
  | (i, v) :: ps, (j, x) :: qs, cs, r, xs, h, ⟨hij, hv, hq⟩, hc => by
    subst hij
    simp only [fillI] at h
    split at h
    · rename_i off sz l h1 h2
      simp only [cond_eq_ite, lenN_eq, Nat.beq_eq] at h
      split at h
      · rename_i hl
        split at h
        · rename_i cs' hov
          obtain ⟨hle, rfl⟩ := overN_some hov
          have hx := told_VR hv h2
          have hlx := hx.len
          have hlc := hc.len
          simp only [Array.length_toList] at hlx hlc
          obtain ⟨k1, k2⟩ := foldl_set off x.cells.toList 0 xs (by simp; omega)
          have hfold : (x.cells.zipIdx.foldl (fun cs (c, j) => cs.setIfInBounds (off + j) c) xs) =
              ((x.cells.toList.zipIdx 0).foldl (fun (cs : Array Value) (x : Value × Nat) => cs.setIfInBounds (off + x.2) x.1) xs) := by
            rw [← Array.foldl_toList, Array.toList_zipIdx]
          have hcond : (x.cells.size ≠ sz || off + x.cells.size > xs.size) = false := by
            simp; omega
          simp only [Instr.fill, hp _ _ h1]
          rw [show (decide (x.cells.size ≠ sz) || decide (off + x.cells.size > xs.size)) = false from hcond]
          simp only [Bool.false_eq_true, if_false]
          refine fill_sound hp h hq ?_
          rw [hfold]
          refine VRs.of_get (by simp; omega) fun n u hu => ?_
          rw [Array.getElem?_toList, k2]
          simp only [Array.length_toList]
          by_cases hn : off ≤ n ∧ n < off + l.length
          · rw [if_pos (by omega)]
            refine hx.get ?_
            rw [← hu, List.append_assoc, List.getElem?_append_right (by simp; omega), List.getElem?_append_left (by simp; omega)]
            congr 1
            simp; omega
          · rw [if_neg (by omega), ← Array.getElem?_toList]
            refine hc.get ?_
            rw [← hu]
            by_cases h2 : n < off
            · rw [List.append_assoc, List.getElem?_append_left (by simp; omega), List.getElem?_take, if_pos h2]
            · rw [List.getElem?_append_right (by simp; omega), List.getElem?_drop]
              congr 1
              simp; omega
        · cases h
      · cases h
    · cases h
  | [], _ :: _, _, _, _, _, hq, _ => hq.elim
  | _ :: _, [], _, _, _, _, hq, _ => hq.elim
theorem mapM_places {P : Program} {w : World} : ∀ (l : List Field), (∀ f ∈ l, ∃ ti, P.info? f.type = some ti) →
    ((l.mapM fun f => (do pure (f.offset, ← sizeOf f.type) : Sem (Nat × Nat))).run P w = .ok (l.map fun f => (f.offset, ((P.info? f.type).map (·.size)).getD 0)) w)
  | [], _ => rfl
  | f :: l, h => by
    obtain ⟨ti, hti⟩ := h f (by simp)
    have ih := mapM_places (P := P) (w := w) l fun f hf => h f (by simp [hf])
    have hs : (sizeOf f.type).run P w = .ok ti.size w := by simp [sizeOf, run_info hti]
    rw [List.mapM_cons]
    simp only [Sem.run_bind, Sem.run_pure, Result.andThen_ok, hs, ih, List.map_cons, hti, Option.map_some, Option.getD_some]
theorem size_info (ok : E.Ok) {t : TypeId} {n : Nat} (h : size E t = some n) : ((E.P.info? t).map (·.size)).getD 0 = n := by
  unfold size at h
  obtain ⟨i, hi, h5⟩ := Option.map_eq_some_iff.1 h
  obtain ⟨ti, k1, k2, k3, _⟩ := ok.ty _ _ hi
  simp [k1, k3, h5]
theorem build_sound (ok : E.Ok) (hr : Rel g st w0 w) {t : TypeId} {ps : List (Nat × V)} {qs : Array (Nat × Value)} {d : TypeDesc} {z : V} {cs : List V} (hd : under E t = some d) (hz : zero E t = some z)
    (hq : PsR g ps qs.toList)
    (h : (∃ fs, d = .struct fs ∧ fillI (fun i => (fs[i]?).bind fun f => (size E f.type).map fun s => (f.offset, s)) z.cells ps = some cs) ∨
      (∃ n elem s, d = .array n elem ∧ size E elem = some s ∧ fillI (fun i => some (i * s, s)) z.cells ps = some cs)) :
    Did E g st st w0 w (do pure (.value (← Instr.build t qs))) (.agg cs) := by
  obtain ⟨x, h1, h2⟩ := zero_told (g := g) ok hz w
  have hu := under_some ok hd
  rcases h with ⟨fs, rfl, hf⟩ | ⟨n, elem, s, rfl, hs, hf⟩
  · have hfl : ∀ f ∈ fs.toList, ∃ ti, E.P.info? f.type = some ti := by
      unfold under at hd
      obtain ⟨i, hi, h5⟩ := Option.map_eq_some_iff.1 hd
      exact ok.fld _ _ _ hi h5
    obtain ⟨ys, e1, e2⟩ := fill_sound (pM := fun i => ((fs.toList.map fun f => (f.offset, ((E.P.info? f.type).map (·.size)).getD 0)).toArray)[i]?) (fun i y hy => by
      obtain ⟨f, hf1, hf2⟩ := Option.bind_eq_some_iff.1 hy
      obtain ⟨s, hs1, rfl⟩ := Option.map_eq_some_iff.1 hf2
      have := size_info ok hs1
      simp [hf1, this]) hf hq h2
    have hv : VR g (.agg cs) (.agg ys) := by simpa using VR.agg _ _ e2
    refine Did.quiet hr (x := .agg ys) ?_ hv
    have hm := mapM_places (P := E.P) (w := w) fs.toList hfl
    simp only [Instr.build, Sem.run_bind, h1, Result.andThen_ok, run_under hu]
    rw [Array.mapM_eq_mapM_toList]
    simp only [Sem.run_map, hm, Result.andThen_ok, e1, Sem.run_pure]
  · obtain ⟨ys, e1, e2⟩ := fill_sound (pM := fun i => some (i * s, s)) (fun i y hy => hy) hf hq h2
    have hv : VR g (.agg cs) (.agg ys) := by simpa using VR.agg _ _ e2
    refine Did.quiet hr (x := .agg ys) ?_ hv
    simp [Instr.build, h1, run_under hu, size_some ok hs, e1]
theorem repeatI_len (z : List V) : ∀ n, (repeatI z n).length = n * z.length
  | 0 => by simp [repeatI]
  | n + 1 => by rw [repeatI, List.length_append, repeatI_len z n, Nat.succ_mul, Nat.add_comm]
theorem repeatI_get (z : List V) : ∀ n i, i < n * z.length → (repeatI z n)[i]? = z[i % z.length]?
  | 0, i, h => by simp at h
  | n + 1, i, h => by
    rw [repeatI]
    by_cases hi : i < z.length
    · rw [List.getElem?_append_left hi, Nat.mod_eq_of_lt hi]
    · rw [List.getElem?_append_right (by omega), repeatI_get z n (i - z.length) (by rw [Nat.succ_mul] at h; omega)]
      congr 1
      rw [Nat.mod_eq_sub_mod (by omega : i ≥ z.length)]
theorem made_VRs {z : V} {x : Value} {s n : Nat} (h : VRs g z.cells x.cells.toList) (hs : z.cells.length = s) : VRs g (repeatI z.cells n) (madeCells x.cells (n * s)).toList := by
  have hl := h.len
  simp only [Array.length_toList] at hl
  refine VRs.of_get (by rw [repeatI_len, hs]; simp [size_madeCells]) fun i v hv => ?_
  have hi : i < n * z.cells.length := by
    rw [← repeatI_len]; exact (List.getElem?_eq_some_iff.1 hv).1
  rw [repeatI_get _ _ _ hi] at hv
  obtain ⟨y, hy, hvy⟩ := h.get hv
  refine ⟨y, ?_, hvy⟩
  have hpos : 0 < z.cells.length := by
    rcases Nat.eq_zero_or_pos z.cells.length with h0 | h0
    · rw [h0] at hi; omega
    · exact h0
  have hm : i % x.cells.size < x.cells.size := Nat.mod_lt _ (by omega)
  rw [hl] at hy
  have hget : x.cells[i % x.cells.size]! = y := by
    rw [Array.getElem?_toList] at hy
    rw [getElem!_def, hy]
  rw [hs] at hi
  simp only [madeCells, Array.toList_map, List.getElem?_map, Array.toList_range, List.getElem?_range hi, Option.map_some, hget]
theorem zc_some (ok : E.Ok) {t : TypeId} {z : V} {s : Nat} (hz : zero E t = some z) (hs : size E t = some s) : z.cells.length = s := by
  unfold zero at hz
  unfold size at hs
  obtain ⟨i, hi, h5⟩ := Option.bind_eq_some_iff.1 hz
  rw [hi] at hs
  cases hs
  exact ok.zc _ _ _ hi h5
theorem buildSlice_sound (ok : E.Ok) (hr : Rel g st w0 w) (hn : g st.nx = none) {t elem : TypeId} {ps : List (Nat × V)} {qs : Array (Nat × Value)} {z : V} {cs : List V} {len s : Nat}
    (hd : under E t = some (.slice elem)) (hz : zero E elem = some z) (hs : size E elem = some s) (hq : PsR g ps qs.toList) (hl : len * s ≤ 2 ^ 20)
    (h : fillI (fun i => some (i * s, s)) (repeatI z.cells len) ps = some cs) :
    Did E g st (st.new (.cells cs elem true false)) w0 w (do pure (.value (← Instr.buildSlice t len qs))) (.slice (some (st.nx, 0)) len len s true) := by
  obtain ⟨x, h1, h2⟩ := zero_told (g := g) ok hz w
  have hu := under_some ok hd
  have hzl := zc_some ok hz hs
  have hm : VRs g (repeatI z.cells len) (madeCells x.cells (len * s)).toList := made_VRs h2 hzl
  obtain ⟨ys, e1, e2⟩ := fill_sound (pM := fun i => some (i * s, s)) (fun i y hy => hy) h hq hm
  have hsz : ys.size = len * s := by
    have h3 := e2.len
    have h4 := hm.len
    have : ∀ {ps : List (Nat × V)} {cs r : List V}, fillI (fun i => some (i * s, s)) cs ps = some r → r.length = cs.length := by
      intro ps
      induction ps with
      | nil => intro cs r h; cases h; rfl
      | cons p ps ih =>
        obtain ⟨i, v⟩ := p
        intro cs r h
        simp only [fillI] at h
        split at h
        · rename_i off sz l k1 k2
          simp only [cond_eq_ite] at h
          split at h
          · split at h
            · rename_i cs' hov
              obtain ⟨hle, rfl⟩ := overN_some hov
              rw [ih h]; simp; omega
            · cases h
          · cases h
        · cases h
    have h5 := this h
    rw [repeatI_len, hzl] at h5
    simp at h3
    omega
  obtain ⟨g', rfl, f1, f2, f3, f4⟩ := newRow_sound (E := E) hr hn (e := elem) e2
  refine ⟨.slice (some ⟨w.heap.size, 0, none⟩) len len, _, _, .inl ?_, ?_, f2, f3, f4, .inr rfl⟩
  · have hgt : ¬ (len * s > 2 ^ 24) := by omega
    by_cases h0 : len * s = 0
    · have e1' : Instr.fill (fun i => some (i * s, s)) #[] qs.toList = some ys := by
        rw [← e1]; simp [madeCells, h0, Array.range_zero']
      simp only [Instr.buildSlice, Sem.run_bind, run_under hu, Result.andThen_ok, size_some ok hs, Sem.run_ite, if_neg hgt, Sem.run_pure, h0]
      simp [e1', f1, Array.range_zero']
    · simp only [Instr.buildSlice, Sem.run_bind, run_under hu, Result.andThen_ok, size_some ok hs, Sem.run_ite, if_neg hgt, Sem.run_pure, h0]
      simp only [madeCells] at e1
      simp [h1, e1, f1]
  · exact VR.sl st.nx 0 w.heap.size 0 ys.size len len s len true Gh.put_self (Nat.le_refl _) (fun _ => rfl) (Nat.le_refl _) (by omega)
theorem makeSlice_sound (ok : E.Ok) (hr : Rel g st w0 w) (hn : g st.nx = none) {t elem : TypeId} {z : V} {a b : Int} {s by_ : Nat}
    (hd : under E t = some (.slice elem)) (hz : zero E elem = some z) (hs : size E elem = some s) (hb : bytes E elem = some by_)
    (h : 0 ≤ a ∧ a ≤ b ∧ b * by_ ≤ 2 ^ 30 ∧ b ≤ 2 ^ 30) :
    Did E g st (st.new (.cells (repeatI z.cells b.toNat) elem true false)) w0 w (do pure (.value (← Instr.makeSlice t (.int .i64 a) (.int .i64 b)))) (.slice (some (st.nx, 0)) a.toNat b.toNat s true) := by
  obtain ⟨x, h1, h2, ti, h3, h4⟩ := zero_some ok hz w
  obtain ⟨x', h1', h2'⟩ := zero_told (g := g) ok hz w
  rw [h1] at h1'
  cases h1'
  obtain ⟨ti', h5, h6⟩ := bytes_some ok hb
  rw [h3] at h5
  cases h5
  have hsi := size_info ok hs
  rw [h3] at hsi
  simp at hsi
  have hu := under_some ok hd
  have hzl := zc_some ok hz hs
  have hm : VRs g (repeatI z.cells b.toNat) (madeCells x.cells (b.toNat * s)).toList := made_VRs h2' hzl
  have hrun := run_make (P := E.P) w t elem ti x hu h3 h4 .i64 .i64 a b h.1 h.2.1 (by rw [h6, Int.mul_comm]; omega) (by omega)
  rw [hsi] at hrun
  obtain ⟨g', rfl, f1, f2, f3, f4⟩ := newRow_sound (E := E) hr hn (e := elem) hm
  refine ⟨.slice (some ⟨w.heap.size, 0, none⟩) a.toNat b.toNat, _, _, .inl ?_, ?_, f2, f3, f4, .inr rfl⟩
  ·simp [hrun]
  · exact VR.sl st.nx 0 w.heap.size 0 (madeCells x.cells (b.toNat * s)).size a.toNat b.toNat s b.toNat true Gh.put_self (Nat.le_refl _) (fun _ => rfl) (by omega) (by simp [size_madeCells])
end
end Go.Ri
set_option linter.unusedVariables false
set_option linter.unusedSimpArgs false
namespace Go.Ri
section
variable {E : Env} {g : Gh} {st st' : St} {w0 w : World}
/-- One block that is no row of cells is turned. -/
theorem Rel.setObj (hr : Rel g st w0 w) {r b off top : Nat} {o o' : O} {x' : Obj} (hst : st.get r = some o) (hg : g r = some (b, off, top)) (hob : w0.heap.size ≤ b) (hb : b < w.heap.size) (ho : OR g o' x' off top) :
    Rel g (st.put r o') w0 { w with heap := w.heap.setIfInBounds b x' } := by
  have f : ∀ {r1 q}, (st.put r o').get r1 = some q → ∃ q', st.get r1 = some q' := by
    intro r1 q hq
    rcases get_put hq with ⟨rfl, rfl⟩ | ⟨_, hq⟩
    · exact ⟨_, hst⟩
    · exact ⟨_, hq⟩
  refine ⟨?_, ?_, ?_, ?_, ?_, ?_, hr.os, hr.out, hr.tp⟩
  · intro r1 q hq
    rcases get_put hq with ⟨rfl, rfl⟩ | ⟨hne, hq⟩
    · exact ⟨b, off, top, x', hg, by simp [hb], ho⟩
    · obtain ⟨b', off', t', y, h1, h2, h3⟩ := hr.live _ _ hq
      refine ⟨b', off', t', y, h1, ?_, h3⟩
      have hbb : b ≠ b' := fun e => hne (hr.inj _ _ _ _ _ _ _ hq hst h1 (by rw [← e]; exact hg))
      simp [Array.getElem?_setIfInBounds_ne hbb, h2]
  · intro r1 r2 q q' b1 y y' hq hq' hb1 hb2
    obtain ⟨_, h1⟩ := f hq
    obtain ⟨_, h2⟩ := f hq'
    exact hr.inj _ _ _ _ _ _ _ h1 h2 hb1 hb2
  · intro r1 q b1 y hq hb1
    rcases get_put hq with ⟨rfl, rfl⟩ | ⟨_, hq⟩
    · rw [hg] at hb1; cases hb1; exact .inl hob
    · exact hr.own _ _ _ _ hq hb1
  · intro r1 b1 y hb1; simpa using hr.bnd _ _ _ hb1
  · simpa using hr.size
  · intro b1 hb1
    rw [← hr.kept b1 hb1]
    have : b ≠ b1 := by omega
    simp [Array.getElem?_setIfInBounds_ne this]
theorem findKey_run {P : Program} {key : TypeId} {l : List MapEntry} {k : Value} {a : Option (Nat × Value)} (hu : P.underlying key = some .string) (h : Instr.findNow .string k l 0 = some a) (w : World) : (Instr.findKey key k l).run P w = .ok a w := by
  simp [Instr.findKey, run_under hu, h]
theorem setObj_run {P : Program} {r : Nat} {en : Array MapEntry} {cl : Nat} {w : World} (o : Obj) (h : w.heap[r]? = some (.map en cl)) : (setObj r o).run P w = .ok () { w with heap := w.heap.setIfInBounds r o } := by
  simp [setObj, Sem.run, h]
theorem upd_sound {sb : ByteArray} {v : V} {x : Value} (hv : VR g v x) : ∀ {es es' : List (V × V)} {en : List MapEntry} (i : Nat), updI (enc sb) v es = some es' → PRs g es en →
    (Instr.findNow .string (.string sb) en i = some none ∧ ∀ c, PRs g es' (en ++ [{ key := .string sb, val := x, born := c }])) ∨
    (∃ j y e, Instr.findNow .string (.string sb) en i = some (some (i + j, y)) ∧ en[j]? = some e ∧ e.key = .string sb ∧ PRs g es' (en.modify j fun e => { e with key := .string sb, val := x }))
  | [], es', [], i, h, _ => by
    cases h
    exact .inl ⟨rfl, fun c => ⟨.str sb, hv, trivial⟩⟩
  | (k, u) :: es, es', e :: en, i, h, ⟨hk, hu, hp⟩ => by
    cases k with
    | str s =>
      obtain ⟨ek, ev, born⟩ := e
      cases hk with | str kb =>
      simp only [updI, cond_eq_ite] at h
      split at h
      · rename_i he
        cases h
        have hbe : (sb == kb) = true := by rw [beq_bytes]; exact he
        have hsk : kb = sb := enc_inj (by have := he; rw [eqL_eq] at this; exact (eq_of_beq this).symm)
        refine .inr ⟨0, ev, _, ?_, rfl, by rw [hsk], ?_⟩
        · simp [Instr.findNow, Instr.sameNow, hbe]
        · exact ⟨.str sb, hv, hp⟩
      · rename_i he
        have hbe : (sb == kb) = false := by rw [beq_bytes]; simpa using he
        obtain ⟨r, hr1, rfl⟩ := Option.map_eq_some_iff.1 h
        rcases upd_sound hv (i + 1) hr1 hp with ⟨h1, h2⟩ | ⟨j, y, e, h1, h2, h3, h4⟩
        · refine .inl ⟨?_, fun c => ⟨.str kb, hu, h2 c⟩⟩
          simp only [Instr.findNow, Instr.sameNow, hbe]
          exact h1
        · refine .inr ⟨j + 1, y, e, ?_, by simpa using h2, h3, ⟨.str kb, hu, h4⟩⟩
          simp only [Instr.findNow, Instr.sameNow, hbe]
          rw [h1, show i + 1 + j = i + (j + 1) by omega]
    | _ => simp [updI] at h
theorem mapUpdate_sound (ok : E.Ok) (hr : Rel g st w0 w) {t key elem : TypeId} {r : Nat} {sb : ByteArray} {v : V} {a x : Value} {es es' : List (V × V)} (hd : under E t = some (.map key elem))
    (hk : under E key = some .string) (ha : VR g (.map (some r)) a) (hv : VR g v x) (hst : st.get r = some (.map es)) (h : updI (enc sb) v es = some es') :
    Did E g st (st.put r (.map es')) w0 w (do Instr.mapUpdate t a (.string sb) x; pure .skip) und := by
  cases ha with | map _ b top hg =>
  obtain ⟨b', off', top', o, hg', ho, hor⟩ := hr.live _ _ hst
  rw [hg] at hg'
  cases hg'
  cases hor with
  | map _ en clock _ hp =>
    have hu := under_some ok hd
    have huk := under_some ok hk
    have hblt := hr.bnd _ _ _ hg
    have hown : w0.heap.size ≤ b := by
      rcases hr.own _ _ _ _ hst hg with h | ⟨_, _, _, h⟩
      · exact h
      · cases h
    rcases upd_sound hv 0 h hp with ⟨h1, h2⟩ | ⟨j, y, e, h1, h2, h3, h4⟩
    · refine ⟨undef, { w with heap := w.heap.setIfInBounds b (.map (en.push { key := .string sb, val := x, born := clock }) (clock + 1)) }, g, .inr ⟨?_, rfl⟩, und_VR g, ?_, Gh.le_refl g, fun _ _ => rfl, .inl ⟨rfl, rfl⟩⟩
      · simp only [Instr.mapUpdate, Sem.run_bind, run_under hu, Result.andThen_ok, getObj_run ho, checkKey_run huk false 9999, findKey_run huk h1, setObj_run _ ho, Sem.run_pure]
      · exact hr.setObj hst hg hown hblt (.map _ _ _ _ (by simpa using h2 clock))
    · simp only [Nat.zero_add] at h1
      obtain ⟨ek, ev, born⟩ := e
      have h3 : ek = .string sb := h3
      subst h3
      have hsame : Instr.sameBits 10000 (.string sb) (.string sb) = true := by
        have : (sb == sb) = true := by rw [beq_bytes, eqL_eq]; simp
        simp [Instr.sameBits, this]
      have hes : en[j]? = some ⟨.string sb, ev, born⟩ := by rw [← Array.getElem?_toList]; exact h2
      refine ⟨undef, { w with heap := w.heap.setIfInBounds b (.map (en.modify j fun e => { e with key := .string sb, val := x }) clock) }, g, .inr ⟨?_, rfl⟩, und_VR g, ?_, Gh.le_refl g, fun _ _ => rfl, .inl ⟨rfl, rfl⟩⟩
      · simp only [Instr.mapUpdate, Sem.run_bind, run_under hu, Result.andThen_ok, getObj_run ho, checkKey_run huk false 9999, findKey_run huk h1, hes, Option.map_some, Option.getD_some, Instr.keyThatStays, hsame, if_true, Sem.run_pure,
          setObj_run _ ho]
      · exact hr.setObj hst hg hown hblt (.map _ _ _ _ (by simpa using h4))
theorem range_sound (ok : E.Ok) (hr : Rel g st w0 w) (hn : g st.nx = none) {t : TypeId} {k el : TypeId} {m : Nat} {a : Value} (hd : under E t = some (.map k el)) (ha : VR g (.map (some m)) a) (hst : st.get m = some (.map [])) :
    Did E g st (st.new (.iter m)) w0 w (do pure (.value (← Instr.range t a))) (.ptr (some (st.nx, 0))) := by
  cases ha with | map _ b top hg =>
  obtain ⟨b', off', top', o, hg', ho, hor⟩ := hr.live _ _ hst
  rw [hg] at hg'
  cases hg'
  cases hor with
  | map _ en clock _ hp =>
    have hle := Gh.le_put (b := (w.heap.size, 0, 0)) hn
    have := hr.new hn (o := .iter m) (x := .mapIter (some b) clock #[] clock) (top := 0) (.iter m b top clock clock 0 (hle _ _ hg))
    refine ⟨.pointer (some ⟨w.heap.size, 0, none⟩), _, _, .inl ?_, .ptr _ _ (by simp [adr, Gh.put_self]), this, hle, fun r hne => Gh.put_ne hne, .inr rfl⟩
    simp [Instr.range, run_under (under_some ok hd), getObj_run ho]
theorem next_sound (hr : Rel g st w0 w) {r m : Nat} {a : Value} {ty : TypeId} (ha : VR g (.ptr (some (r, 0))) a) (hst : st.get r = some (.iter m)) (hsm : st.get m = some (.map [])) :
    Did E g st st w0 w (do pure (.value (← Instr.next a false ty))) (.tuple [.bool false]) := by
  cases ha with | ptr _ ad had =>
  obtain ⟨b, off, top, hg, rfl⟩ := adr_some had
  obtain ⟨b', off', top', o, hg', ho, hor⟩ := hr.live _ _ hst
  rw [hg] at hg'
  cases hg'
  cases hor with
  | iter _ bm topm since last _ hgm =>
    obtain ⟨b2, off2, top2, o2, hg2, ho2, hor2⟩ := hr.live _ _ hsm
    rw [hgm] at hg2
    cases hg2
    cases hor2 with
    | map _ en clock _ hp =>
      have hen : en = #[] := by
        cases hl : en.toList with
        | nil => exact Array.toList_eq_nil_iff.1 hl
        | cons e l => rw [hl] at hp; exact hp.elim
      subst hen
      have hgo : (getObj b).run E.P w = .ok (.mapIter (some bm) since #[] last) w := by simp [getObj, Sem.run, ho]
      refine Did.quiet hr (x := .tuple #[.bool false]) ?_ (.tuple _ [.bool false] (.cons _ _ _ _ (.bool _) .nil))
      simp [Instr.next, hgo, getObj_run ho2, Question.forced]
end
end Go.Ri
set_option linter.unusedVariables false
set_option linter.unusedSimpArgs false
namespace Go.Ri
section
variable {E : Env} {g : Gh} {st st' : St} {w0 w : World}
theorem get_kill {o : O} {r n : Nat} (h : (st.kill n).get r = some o) : r ≠ n ∧ st.get r = some o := by
  unfold St.get St.kill at h
  by_cases hr : r = n
  · subst hr
    simp only at h
    rcases TT.get_set_self (none : Option O) none st.h r with e | e <;> rw [e] at h <;> cases h
  · simp only at h
    rw [TT.get_set_ne _ _ _ _ _ hr] at h
    exact ⟨hr, h⟩
theorem Rel.kill (hr : Rel g st w0 w) (n : Nat) : Rel g (st.kill n) w0 w :=
  ⟨fun r o h => hr.live r o (get_kill h).2, fun r r' o o' b x y h h' => hr.inj r r' o o' b x y (get_kill h).2 (get_kill h').2, fun r o b x h => hr.own r o b x (get_kill h).2, hr.bnd, hr.size, hr.kept, hr.os, hr.out, hr.tp⟩
theorem bytes_VRs (l : List UInt8) : VRs g (l.map fun b => V.int .u8 (.ofNat b.toNat)) (l.map fun b => Value.int .u8 b.toNat) := by
  induction l with
  | nil => exact .nil
  | cons b l ih => exact .cons _ _ _ _ (.int _ _) ih
theorem firstCells_slice {P : Program} {w : World} {p : Addr} {k z n c : Nat} {xs : List Value} (hl : xs.length = k * z) (h : ∀ (j : Nat) x, xs[j]? = some x → w.cell? (p.add j) = some x) (d : Nat) :
    (Builtin.firstCells z k (.slice (some p) n c)).run P { w with drawn := d } = .ok xs.toArray { w with drawn := d } := by
  have := run_loadCells_list (P := P) { w with drawn := d } p xs h
  rw [hl] at this
  exact this
theorem firstCells_str {P : Program} {w : World} {z k : Nat} {s : ByteArray} (d : Nat) :
    (Builtin.firstCells z k (.string s)).run P { w with drawn := d } = .ok ((s.data.toList.take k).map fun b => Value.int .u8 b.toNat).toArray { w with drawn := d } := by
  have : ((s.extract 0 k).data.map fun b => Value.int .u8 b.toNat) = ((s.data.toList.take k).map fun b => Value.int .u8 b.toNat).toArray := by
    apply Array.ext'
    simp [List.extract_eq_take_drop]
  simp only [Builtin.firstCells]
  rw [← this]
  rfl
theorem srcC_sound (hr : Rel g st w0 w) {z lim n : Nat} {x : V} {xv : Value} {l : List V} (h : srcC z lim x st = some (n, l)) (hx : VR g x xv) :
    (∃ m, Builtin.lenOf xv = pure m ∧ min m lim = n) ∧ ∃ xs, VRs g l xs ∧ ∀ (P : Program) d, (Builtin.firstCells z n xv).run P { w with drawn := d } = .ok xs.toArray { w with drawn := d } := by
  unfold srcC at h
  split at h
  · rename_i a n0 cap sz2 ex
    split at h
    · rename_i hsz
      subst hsz
      obtain ⟨l', hl', he⟩ := Option.map_eq_some_iff.1 h
      cases he
      cases hx with | sl r o b off top _ _ _ c _ h1 h2 h3 h4 h5 =>
      obtain ⟨xs, k1, k2, k3⟩ := rd_sound hr hl' (a := ⟨b, off + o, none⟩) (by simp [adr, h1])
      exact ⟨⟨n0, rfl, rfl⟩, xs, k2, fun P d => firstCells_slice k1 k3 d⟩
    · cases h
  · split at h
    · rename_i hn
      subst hn
      cases h
      cases hx
      exact ⟨⟨0, rfl, by simp⟩, [], .nil, fun P d => rfl⟩
    · cases h
  · cases h
    cases hx
    exact ⟨⟨0, rfl, by simp⟩, [], .nil, fun P d => firstCells_slice (xs := []) (by simp) (by simp) d⟩
  · cases h
    cases hx with | str sb =>
    refine ⟨⟨sb.size, rfl, by rw [lenN_eq, enc_len]⟩, _, ?_, fun P d => firstCells_str d⟩
    have := bytes_VRs (g := g) (sb.data.toList.take (min (lenN (enc sb)) lim))
    simp only [enc, List.map_take, List.map_map] at this ⊢
    exact this
  · cases h
theorem srcA_sound (hr : Rel g st w0 w) {z n : Nat} {x : V} {xv : Value} {l : List V} (h : srcA z x st = some (n, l)) (hx : VR g x xv) :
    Builtin.lenOf xv = pure n ∧ ∃ xs, VRs g l xs ∧ xs.length = n * z ∧ ∀ (P : Program) d, (Builtin.firstCells z n xv).run P { w with drawn := d } = .ok xs.toArray { w with drawn := d } := by
  unfold srcA at h
  split at h
  · rename_i a n0 cap sz2 ex
    split at h
    · rename_i hsz
      subst hsz
      obtain ⟨l', hl', he⟩ := Option.map_eq_some_iff.1 h
      cases he
      cases hx with | sl r o b off top _ _ _ c _ h1 h2 h3 h4 h5 =>
      obtain ⟨xs, k1, k2, k3⟩ := rd_sound hr hl' (a := ⟨b, off + o, none⟩) (by simp [adr, h1])
      exact ⟨rfl, xs, k2, k1, fun P d => firstCells_slice k1 k3 d⟩
    · cases h
  · split at h
    · rename_i hn
      subst hn
      cases h
      cases hx
      exact ⟨rfl, [], .nil, by simp, fun P d => rfl⟩
    · cases h
  · cases h
    cases hx
    exact ⟨rfl, [], .nil, by simp, fun P d => firstCells_slice (xs := []) (by simp) (by simp) d⟩
  · split at h
    · rename_i hz
      subst hz
      cases h
      cases hx with | str sb =>
      refine ⟨by rw [lenN_eq, enc_len]; rfl, _, ?_, ?_, fun P d => firstCells_str d⟩
      · have := bytes_VRs (g := g) (sb.data.toList.take (lenN (enc sb)))
        rw [List.take_of_length_le (by simp [enc])] at this ⊢
        simp only [enc, List.map_map] at this ⊢
        exact this
      · simp [enc]
    · cases h
  · cases h
theorem run_append_in {P : Program} {w : World} {ts : Array TypeId} {t tx ty e : TypeId} {d : TypeDesc} {i : TypeInfo} {base : Option Addr} {sLen sCap n : Nat} {x : Value} {news : List Value}
    (h0 : ts[0]? = some t) (h1 : ts[1]? = some tx) (ht : P.underlying t = some (.slice e)) (htx : P.underlying tx = some d) (hd : okD d = true) (hi : P.info? e = some i)
    (hlen : Builtin.lenOf x = pure n) (hc : (Builtin.firstCells i.size n x).run P w = .ok news.toArray w) (hroom : sLen + n ≤ sCap) :
    (Builtin.append_ ts ty #[.slice base sLen sCap, x]).run P w =
      (match base with | some a => (storeCells (a.add (sLen * i.size)) news).run P w | none => .ok () w).andThen fun _ w' => .ok (.slice base (sLen + n) sCap) w' := by
  cases d <;> simp only [okD] at hd <;> first | (cases hd; done) | skip
  all_goals
    cases base <;> simp [Builtin.append_, h0, h1, run_under ht, run_under htx, sizeOf, run_info hi, hlen, hroom, hc]
theorem run_append_grow {P : Program} {w : World} {ts : Array TypeId} {t tx ty e : TypeId} {d : TypeDesc} {i : TypeInfo} {z : Value} {base : Option Addr} {sLen sCap n : Nat} {x : Value} {olds news : List Value}
    (h0 : ts[0]? = some t) (h1 : ts[1]? = some tx) (ht : P.underlying t = some (.slice e)) (htx : P.underlying tx = some d) (hd : okD d = true) (hi : P.info? e = some i) (hz : i.zero = some z)
    (hlen : Builtin.lenOf x = pure n) (ho : (Builtin.firstCells i.size sLen (.slice base sLen sCap)).run P w.drew = .ok olds.toArray w.drew) (hc : (Builtin.firstCells i.size n x).run P w.drew = .ok news.toArray w.drew)
    (hg : sCap < sLen + n) (h63 : ((sLen + n : Nat) : Int) ≤ 9223372036854775807) (hfit : Builtin.nextslicecap (sLen + n) sCap * i.bytes ≤ 281474976710656) :
    (Builtin.append_ ts ty #[.slice base sLen sCap, x]).run P w =
      .ok (.slice (some ⟨w.heap.size, 0, none⟩) (sLen + n) (grownCap w (sLen + n) sCap e))
        (w.drew.alloc (.cells ((olds ++ news).toArray ++ Builtin.zeroCells z.cells (grownCap w (sLen + n) sCap e - (sLen + n))) e)) := by
  have hn : ¬ (sLen + n ≤ sCap) := by omega
  have h63' : ¬ (9223372036854775807 < ((sLen : Int) + (n : Int))) := by omega
  have h48' : ¬ (281474976710656 < Builtin.nextslicecap (sLen + n) sCap * i.bytes) := by omega
  cases d <;> simp only [okD] at hd <;> first | (cases hd; done) | skip
  all_goals
    simp [Builtin.append_, h0, h1, run_under ht, run_under htx, sizeOf, typeInfo, zeroValue, hi, hz, hlen, hn, h63', h48', Question.forced, hc, ho, newRow, grownCap]
    congr 2
    apply Array.ext'
    simp [List.append_assoc]
/-- A block goes on under a new name. -/
theorem Rel.moved {w' : World} (hr : Rel g st w0 w) (hn : g st.nx = none) {r b off top off' : Nat} {o o' : O} {x' : Obj} (hst : st.get r = some o) (hg : g r = some (b, off, top)) (hob : w0.heap.size ≤ b)
    (hb : w'.heap[b]? = some x') (hoth : ∀ b', b' ≠ b → w'.heap[b']? = w.heap[b']?) (hsz : w'.heap.size = w.heap.size) (hos : w'.os = w.os) (hout : w'.output = w.output) (htp : w'.tape = w.tape)
    (ho : OR (g.put st.nx (b, off', top)) o' x' off' top) :
    Rel (g.put st.nx (b, off', top)) ((st.kill r).new o') w0 w' := by
  have hle := Gh.le_put (b := (b, off', top)) hn
  have hblt := hr.bnd _ _ _ hg
  have hdead : ∀ {r1 q b1 y}, (st.kill r).get r1 = some q → (g.put st.nx (b, off', top)) r1 = some (b1, y) → r1 ≠ st.nx → b1 ≠ b := by
    intro r1 q b1 y hq hb1 hne e
    obtain ⟨k1, k2⟩ := get_kill hq
    rw [Gh.put_ne hne] at hb1
    exact k1 (hr.inj _ _ _ _ _ _ _ k2 hst hb1 (by rw [e]; exact hg))
  refine ⟨?_, ?_, ?_, ?_, ?_, ?_, hos.trans hr.os, hout.trans hr.out, htp.trans hr.tp⟩
  · intro r1 p hp
    rcases get_new hp with ⟨rfl, rfl⟩ | ⟨hne, hp⟩
    · exact ⟨_, _, _, x', Gh.put_self, hb, ho⟩
    · obtain ⟨k1, k2⟩ := get_kill hp
      obtain ⟨b1, off1, t, y, h1, h2, h3⟩ := hr.live _ _ k2
      refine ⟨b1, off1, t, y, hle _ _ h1, ?_, h3.mono hle⟩
      rw [hoth b1 (hdead hp (hle _ _ h1) hne)]
      exact h2
  · intro r1 r2 p p' b1 y y' hp hp' hb1 hb2
    have hk : (st.kill r).nx = st.nx := rfl
    rcases get_new hp with ⟨e1, _⟩ | ⟨hne, hp1⟩ <;> rcases get_new hp' with ⟨e2, _⟩ | ⟨hne', hp2⟩
    · rw [e1, e2]
    · have := hdead hp2 hb2 hne'
      rw [e1, hk, Gh.put_self] at hb1
      cases hb1
      exact absurd rfl this
    · have := hdead hp1 hb1 hne
      rw [e2, hk, Gh.put_self] at hb2
      cases hb2
      exact absurd rfl this
    · have hne : r1 ≠ st.nx := hne
      have hne' : r2 ≠ st.nx := hne'
      rw [Gh.put_ne hne] at hb1
      rw [Gh.put_ne hne'] at hb2
      exact hr.inj _ _ _ _ _ _ _ (get_kill hp1).2 (get_kill hp2).2 hb1 hb2
  · intro r1 p b1 y hp hb1
    rcases get_new hp with ⟨rfl, rfl⟩ | ⟨hne, hp⟩
    · rw [show (st.kill r).nx = st.nx from rfl, Gh.put_self] at hb1
      cases hb1
      exact .inl hob
    · have hne : r1 ≠ st.nx := hne
      rw [Gh.put_ne hne] at hb1
      exact hr.own _ _ _ _ (get_kill hp).2 hb1
  · intro r1 b1 y hb1
    rw [hsz]
    by_cases hne : r1 = st.nx
    · subst hne
      rw [Gh.put_self] at hb1
      cases hb1
      exact hblt
    · rw [Gh.put_ne hne] at hb1
      exact hr.bnd _ _ _ hb1
  · rw [hsz]; exact hr.size
  · intro b1 hb1
    rw [hoth b1 (by omega)]
    exact hr.kept b1 hb1
/-- A new row of which the head is told. -/
theorem newHead_sound (hr : Rel g st w0 w) (hn : g st.nx = none) {vs : List V} {xs : List Value} {e : TypeId} (h : VRs g vs xs) (rest : Array Value) (rng : Nat × Nat) (hrng : ∀ i, i < (xs.toArray ++ rest).size → ¬ (rng.1 ≤ i ∧ i < rng.2)) (n : Nat) :
    Rel (g.put st.nx (w.heap.size, 0, (xs.toArray ++ rest).size)) (st.new (.cells vs e false false)) w0 { w with drawn := n, heap := w.heap.push (.cells (xs.toArray ++ rest) e rng) } := by
  refine ((hr.drew n).new hn (o := .cells vs e false false) (x := .cells (xs.toArray ++ rest) e rng) (top := (xs.toArray ++ rest).size) ?_)
  have h' := h.mono (Gh.le_put (b := (w.heap.size, 0, (xs.toArray ++ rest).size)) hn)
  refine .cells vs _ e false false 0 rng (by have := h.len; simp; omega) (fun h => by cases h) (fun i v hv => ?_) (fun _ => hrng)
  obtain ⟨x, hx, hvx⟩ := h'.get hv
  refine ⟨x, ?_, hvx⟩
  have hi : i < xs.length := (List.getElem?_eq_some_iff.1 hx).1
  rw [Nat.zero_add, Array.getElem?_append_left (by simpa using hi)]
  simpa using hx
theorem append_grow_did (ok : E.Ok) (hr : Rel g st w0 w) (hn : g st.nx = none) {ts : Array TypeId} {t tx ty e : TypeId} {d : TypeDesc} {base : Option Addr} {sLen sCap n z by_ : Nat} {x : Value} {zv : V} {lo ln : List V} {olds news : List Value}
    (h0 : ts[0]? = some t) (h1 : ts[1]? = some tx) (ht : under E t = some (.slice e)) (htx : under E tx = some d) (hd : okD d = true) (hs : size E e = some z) (hb : bytes E e = some by_) (hz : zero E e = some zv)
    (hlen : Builtin.lenOf x = pure n) (ho : (Builtin.firstCells z sLen (.slice base sLen sCap)).run E.P w.drew = .ok olds.toArray w.drew) (hc : (Builtin.firstCells z n x).run E.P w.drew = .ok news.toArray w.drew)
    (hlo : VRs g lo olds) (hln : VRs g ln news) (hol : olds.length = sLen * z) (hnl : news.length = n * z)
    (hg : sCap < sLen + n) (hb0 : by_ ≠ 0) (hmax : (sLen + n) * by_ ≤ 2 ^ 40) :
    ∃ c x' w' g', (Builtin.append_ ts ty #[.slice base sLen sCap, x]).run E.P w = .ok x' w' ∧ sLen + n ≤ c ∧ VR g' (.slice (some (st.nx, 0)) (sLen + n) (sLen + n) z false) x' ∧
      Rel g' (st.new (.cells (lo ++ ln) e false false)) w0 w' ∧ g.le g' ∧ (∀ r, r ≠ st.nx → g' r = g r) := by
  obtain ⟨xz, k1, k2, ti, k3, k4⟩ := zero_some ok hz w
  obtain ⟨ti', k5, k6⟩ := bytes_some ok hb
  rw [k3] at k5
  cases k5
  have k7 := size_info ok hs
  rw [k3] at k7
  simp at k7
  have hle1 : sLen + n ≤ (sLen + n) * by_ := Nat.le_mul_of_pos_right _ (by omega)
  have hnx := nextslicecap_le hg
  have hfit : Builtin.nextslicecap (sLen + n) sCap * ti.bytes ≤ 281474976710656 := by
    rw [k6]
    have : Builtin.nextslicecap (sLen + n) sCap * by_ ≤ (2 * (sLen + n)) * by_ := Nat.mul_le_mul_right _ hnx
    rw [Nat.mul_assoc] at this
    omega
  have hrun := run_append_grow (P := E.P) (w := w) (ty := ty) (z := xz) h0 h1 (under_some ok ht) (under_some ok htx) hd k3 k4 hlen (by rw [k7]; exact ho) (by rw [k7]; exact hc) hg (by omega) hfit
  have hcap := grownCap_ge w (sLen + n) sCap e
  refine ⟨grownCap w (sLen + n) sCap e, _, _, _, hrun, hcap, ?_, newHead_sound hr hn (hlo.app hln) _ (0, 0) (fun i _ h => by simp at h) _, Gh.le_put hn, fun r hne => Gh.put_ne hne⟩
  refine VR.sl _ 0 _ 0 _ _ _ _ _ _ Gh.put_self hcap (fun h => by cases h) (Nat.le_refl _) ?_
  have hzl := zc_some ok hz hs
  obtain ⟨xz', e1, e2⟩ := zero_told (g := g) ok hz w
  rw [k1] at e1
  cases e1
  have e3 := e2.len
  simp at e3
  simp only [Nat.zero_add, Nat.add_zero, Array.size_append, List.size_toArray, List.length_append, size_zeroCells, hol, hnl, ← e3, hzl, ← Nat.add_mul]
  rw [Nat.add_sub_cancel' hcap]
  exact Nat.le_refl _
theorem append_sound (ok : E.Ok) (hr : Rel g st w0 w) (hn : g st.nx = none) {ts : Array TypeId} {ty : TypeId} {vs : List V} {xs : Array Value} {v : V} (hxs : VRs g vs xs.toList)
    (h : appendI E ts.toList vs st = some (v, st')) : Did E g st st' w0 w (do pure (.value (← Builtin.append_ ts ty xs))) v := by
  unfold appendI at h
  split at h
  case h_2 => cases h
  rename_i t t2 tr base len cap sz ex x hts
  have h0 : ts[0]? = some t := by rw [← Array.getElem?_toList, hts]; rfl
  have h1 : ts[1]? = some t2 := by rw [← Array.getElem?_toList, hts]; rfl
  obtain ⟨s, xv, rfl, hs, hx⟩ : ∃ s xv, xs = #[s, xv] ∧ VR g (.slice base len cap sz ex) s ∧ VR g x xv := by
    generalize hl : xs.toList = l at hxs
    cases hxs with | cons _ s _ _ k1 k2 =>
    cases k2 with | cons _ xv _ _ k3 k4 =>
    cases k4
    exact ⟨s, xv, by rw [← Array.toList_inj, hl], k1, k3⟩
  split at h
  case h_2 => cases h
  rename_i elem d2 ht hd2
  split at h
  case h_2 => cases h
  rename_i z by_ zv hod hz hb hzv
  split at h
  case h_2 => cases h
  rename_i n new hsrc
  obtain ⟨hlen, news, hln, hnl, hcells⟩ := srcA_sound hr hsrc hx
  unfold appendA at h
  split at h
  · cases h
  rename_i hbz
  have hb0 : by_ ≠ 0 := fun e => hbz (.inl e)
  have hsz : ∀ a, base = some a → sz = z := by
    intro a e
    rcases Nat.decEq sz z with h | h
    · exact absurd (.inr ⟨by simp [e], h⟩) hbz
    · exact h
  split at h
  · cases h
  rename_i hmx
  have hmax : (len + n) * by_ ≤ 2 ^ 40 := by omega
  obtain ⟨xz, k1, k2, ti, k3, k4⟩ := zero_some ok hzv w
  have k7 := size_info ok hz
  rw [k3] at k7
  simp at k7
  split at h
  · rename_i hroom
    cases base with
    | none =>
      cases h
      cases hs
      have hn0 : n = 0 := by omega
      subst hn0
      refine Did.quiet hr (x := .slice none 0 0) ?_ (.sl0 _)
      rw [run_append_in h0 h1 (under_some ok ht) (under_some ok hd2) hod k3 hlen (by rw [k7]; exact hcells E.P w.drawn) (by omega)]
      rfl
    | some a =>
      have := hsz a rfl
      subst this
      simp only at h
      split at h
      case h_2 => cases h
      rename_i st2 hwr
      cases h
      cases hs with | sl r o b off top _ _ _ c _ g1 g2 g3 g4 g5 =>
      have had : adr g (plus (r, o) (len * sz)) = some ((⟨b, off + o, none⟩ : Addr).add (len * sz)) := adr_plus (by simp [adr, g1]) _
      obtain ⟨w', e1, e2, e3⟩ := wr_sound (E := E) hr hwr had hln
      refine ⟨.slice (some ⟨b, off + o, none⟩) (len + n) c, w', g, .inl ?_, .sl r o b off top _ _ _ c _ g1 g2 g3 (by omega) g5, e2, Gh.le_refl g, fun _ _ => rfl, .inl ⟨e3, rfl⟩⟩
      have hrun := run_append_in (ty := ty) (base := some ⟨b, off + o, none⟩) (sLen := len) (sCap := c) h0 h1 (under_some ok ht) (under_some ok hd2) hod k3 hlen (by rw [k7]; exact hcells E.P w.drawn) (by omega)
      rw [k7] at hrun
      simp [hrun, e1]
  · rename_i hroom
    cases base with
    | none =>
      simp only at h
      split at h
      case isFalse => cases h
      rename_i hl0
      subst hl0
      cases h
      cases hs
      obtain ⟨c, x', w', g', e1, e2, e3, e4, e5, e6⟩ := append_grow_did ok hr hn (base := none) (sLen := 0) (sCap := 0) (ty := ty) h0 h1 ht hd2 hod hz hb hzv hlen (lo := []) (olds := []) (by rfl) (hcells E.P (w.drawn + 1)) .nil hln (by simp) hnl (by omega) hb0 hmax
      exact ⟨x', w', g', .inl (by simp [e1]), e3, e4, e5, e6, .inr rfl⟩
    | some a =>
      have := hsz a rfl
      subst this
      simp only at h
      split at h
      case h_2 => cases h
      rename_i vs0 el exb fz old hst hrd
      cases hs with | sl r o b off top _ _ _ c _ g1 g2 g3 g4 g5 =>
      obtain ⟨olds, o1, o2, o3⟩ := rd_sound hr hrd (a := ⟨b, off + o, none⟩) (by simp [adr, g1])
      have grow : c < len + n → ∃ c' x' w' g', (Builtin.append_ ts ty #[.slice (some ⟨b, off + o, none⟩) len c, xv]).run E.P w = .ok x' w' ∧ len + n ≤ c' ∧ VR g' (.slice (some (st.nx, 0)) (len + n) (len + n) sz false) x' ∧
          Rel g' (st.new (.cells (old ++ new) elem false false)) w0 w' ∧ g.le g' ∧ (∀ r, r ≠ st.nx → g' r = g r) := fun hlt =>
        append_grow_did ok hr hn (base := some ⟨b, off + o, none⟩) (sLen := len) (sCap := c) (ty := ty) h0 h1 ht hd2 hod hz hb hzv hlen (firstCells_slice o1 o3 (w.drawn + 1)) (hcells E.P (w.drawn + 1)) o2 hln o1 hnl hlt hb0 hmax
      split at h
      · rename_i hex
        cases h
        have hcc := g3 hex
        obtain ⟨c', x', w', g', e1, e2, e3, e4, e5, e6⟩ := grow (by omega)
        exact ⟨x', w', g', .inl (by simp [e1]), e3, e4, e5, e6, .inr rfl⟩
      · rename_i hex
        split at h
        · cases h
        rename_i hfe
        have hfz : fz = false := by
          cases fz
          · rfl
          · exact absurd (.inl rfl) hfe
        have hel : el = elem := by
          rcases Nat.decEq el elem with h | h
          · exact absurd (.inr h) hfe
          · exact h
        subst hfz
        subst hel
        simp only [cond_eq_ite] at h
        split at h
        case isFalse => cases h
        rename_i hones
        cases h
        by_cases hlt : c < len + n
        · obtain ⟨c', x', w', g', e1, e2, e3, e4, e5, e6⟩ := append_grow_did ok (hr.kill r) (st := st.kill r) hn (base := some ⟨b, off + o, none⟩) (sLen := len) (sCap := c) (ty := ty) h0 h1 ht hd2 hod hz hb hzv hlen (firstCells_slice o1 o3 (w.drawn + 1)) (hcells E.P (w.drawn + 1)) o2 hln o1 hnl hlt hb0 hmax
          exact ⟨x', w', g', .inl (by simp [e1]), e3, e4, e5, e6, .inr rfl⟩
        · obtain ⟨b', off', top', oo, hg', ho, hor⟩ := hr.live _ _ hst
          rw [g1] at hg'
          cases hg'
          cases hor with
          | cells _ ca _ _ _ _ rng m1 m2 m3 m4 =>
            have hob : w0.heap.size ≤ b := by
              rcases hr.own _ _ _ _ hst g1 with h | ⟨_, _, _, h⟩
              · exact h
              · cases h
            have hfit : off + o + len * sz + n * sz ≤ ca.size := by
              have : (len + n) * sz ≤ c * sz := Nat.mul_le_mul_right _ (by omega)
              rw [Nat.add_mul] at this
              omega
            obtain ⟨c', e1, e2, e3, e4, e5, e6, e7, e8⟩ := setCells_heap b news (off + o + len * sz) w ca el rng ho (by rw [hnl]; omega)
            have hstore : (storeCells ((⟨b, off + o, none⟩ : Addr).add (len * sz)) news).run E.P w = .ok () (w.setCells b (off + o + len * sz) news) := by
              rw [addr_add]
              have hrun := run_storeCells_cells (P := E.P) b (off + o + len * sz) news 0 w (fun j hj => by
                have : off + o + len * sz + j < ca.size := by omega
                simp [World.cell?, ho, this]) (fun j hj => by
                have := m4 rfl (off + o + len * sz + j) (by omega)
                simp [World.frozen?, ho]
                intro h1
                exact Nat.le_of_not_lt fun h2 => this ⟨h1, h2⟩) (hln.ones (ones_spec hones))
              simpa using hrun
            have hin := run_append_in (ty := ty) (base := some ⟨b, off + o, none⟩) (sLen := len) (sCap := c) h0 h1 (under_some ok ht) (under_some ok hd2) hod k3 hlen (by rw [k7]; exact hcells E.P w.drawn) (by omega)
            rw [k7] at hin
            have hlo := o2.len
            have hlnl := hln.len
            have hmoved := hr.moved hn hst g1 hob (off' := off + o) (o' := .cells (old ++ new) el false false) (x' := .cells c' el rng) e1 e4 e5 e6 e7 e8 (by
              have hle := Gh.le_put (b := (b, off + o, ca.size)) hn
              rw [← e2] at hle ⊢
              refine .cells _ c' el false false (off + o) rng ?_ (fun h => by cases h) (fun i v hv => ?_) (fun _ i hi => m4 rfl i (by omega))
              · simp; omega
              · rw [e3]
                by_cases hi : i < old.length
                · rw [List.getElem?_append_left hi] at hv
                  rw [if_neg (by omega)]
                  obtain ⟨x1, hx1, hx2⟩ := o2.get hv
                  have hx3 := o3 _ _ hx1
                  rw [addr_add] at hx3
                  simp only [World.cell?, ho, Option.isSome_none, Bool.false_eq_true, if_false] at hx3
                  exact ⟨x1, hx3, hx2.mono hle⟩
                · rw [List.getElem?_append_right (by omega)] at hv
                  have hi2 := (List.getElem?_eq_some_iff.1 hv).1
                  rw [if_pos (by omega), show off + o + i - (off + o + len * sz) = i - old.length by omega]
                  obtain ⟨x1, hx1, hx2⟩ := hln.get hv
                  exact ⟨x1, hx1, hx2.mono hle⟩)
            refine ⟨.slice (some ⟨b, off + o, none⟩) (len + n) c, _, _, .inl (by simp [hin, hstore]), ?_, hmoved, Gh.le_put hn, fun r hne => Gh.put_ne hne, .inr rfl⟩
            exact .sl _ 0 b (off + o) ca.size _ _ _ c _ Gh.put_self (by omega) (fun h => by cases h) (Nat.le_refl _) (by omega)
theorem copy_sound (ok : E.Ok) (hr : Rel g st w0 w) {ts : Array TypeId} {ty : TypeId} {vs : List V} {xs : Array Value} {v : V} (hxs : VRs g vs xs.toList)
    (h : copyI E ts.toList vs st = some (v, st')) : Did E g st st' w0 w (do pure (.value (← Builtin.copy_ ts ty xs))) v := by
  unfold copyI at h
  split at h
  case h_2 => cases h
  rename_i t tr base dl dcap sz dex x hts
  have h0 : ts[0]? = some t := by rw [← Array.getElem?_toList, hts]; rfl
  obtain ⟨s, xv, rfl, hs, hx⟩ : ∃ s xv, xs = #[s, xv] ∧ VR g (.slice base dl dcap sz dex) s ∧ VR g x xv := by
    generalize hl : xs.toList = l at hxs
    cases hxs with | cons _ s _ _ k1 k2 =>
    cases k2 with | cons _ xv _ _ k3 k4 =>
    cases k4
    exact ⟨s, xv, by rw [← Array.toList_inj, hl], k1, k3⟩
  split at h
  case h_2 => cases h
  rename_i elem ht
  split at h
  case h_2 => cases h
  rename_i z hz
  split at h
  · cases h
  split at h
  · cases h
  rename_i n new hsrc
  obtain ⟨⟨m, hlen, hmin⟩, news, hln, hcells⟩ := srcC_sound hr hsrc hx
  have hmin' : Nat.min m dl = n := hmin
  have hc := hcells E.P w.drawn
  cases base with
  | none =>
    cases h
    cases hs
    have hn0 : n = 0 := by omega
    subst hn0
    have hc : (Builtin.firstCells z 0 xv).run E.P w = .ok news.toArray w := hc
    refine Did.quiet hr (x := .int .i64 (0 : Nat)) ?_ (.int _ _)
    simp [Builtin.copy_, h0, run_under (under_some ok ht), size_some ok hz, hlen, hmin', hc, goInt]
  | some a =>
    simp only at h
    split at h
    case h_2 => cases h
    rename_i st2 hwr
    cases h
    cases hs with | sl r o b off top _ _ _ c _ g1 g2 g3 g4 g5 =>
    obtain ⟨w', e1, e2, e3⟩ := wr_sound (E := E) hr hwr (ad := ⟨b, off + o, none⟩) (by simp [adr, g1]) hln
    refine ⟨.int .i64 n, w', g, .inl ?_, .int _ _, e2, Gh.le_refl g, fun _ _ => rfl, .inl ⟨e3, rfl⟩⟩
    simp [Builtin.copy_, h0, run_under (under_some ok ht), size_some ok hz, hlen, hmin', hc, goInt, e1]
end
end Go.Ri
set_option linter.unusedVariables false
set_option linter.unusedSimpArgs false
namespace Go.Ri
section
variable {E : Env} {g : Gh} {st st' : St} {w0 w : World}
theorem bytesI_spec : ∀ {l : List V} {r : List Nat} {xs : List Value}, bytesI l = some r → VRs g l xs → ∃ s : List UInt8, r = s.map UInt8.toNat ∧ xs = s.map fun b => Value.int .u8 b.toNat
  | [], r, xs, h, hx => by cases h; cases hx; exact ⟨[], rfl, rfl⟩
  | v :: l, r, xs, h, hx => by
    cases hx with | cons _ x _ xs hv hx =>
    unfold bytesI at h
    split at h
    · rename_i he; cases he
    · rename_i n l' he
      cases he
      cases hv
      split at h
      · rename_i hn
        obtain ⟨r', hr', rfl⟩ := Option.map_eq_some_iff.1 h
        obtain ⟨s, rfl, rfl⟩ := bytesI_spec hr' hx
        refine ⟨n.toNat.toUInt8 :: s, ?_, ?_⟩
        · simp; omega
        · simp; omega
      · cases h
    · cases h
theorem rowOf_bytes (s : List UInt8) : enc ⟨s.toArray⟩ = s.map UInt8.toNat := by simp [enc]
theorem bytesToString_run {P : Program} {w : World} {p : Addr} {c : Nat} {s : List UInt8} (h : ∀ (j : Nat) x, (s.map fun b => Value.int .u8 b.toNat)[j]? = some x → w.cell? (p.add j) = some x) :
    (Conv.bytesToString (.slice (some p) s.length c)).run P w = .ok (.string ⟨s.toArray⟩) w := by
  have hl := run_loadCells_list (P := P) w p _ h
  simp only [List.length_map] at hl
  have hm : (s.map fun b => Value.int .u8 b.toNat) = ((s.map fun b => ((b.toNat : Nat) : Int)).map (Value.int .u8)) := by simp
  rw [hm] at hl
  rw [run_bytesToString w p s.length c _ hl]
  have hfold : ∀ (l : List UInt8) (acc : ByteArray), (l.map fun b => ((b.toNat : Nat) : Int)).foldl (fun r n => r.push (UInt8.ofNat n.toNat)) acc = ⟨acc.data ++ l.toArray⟩ := by
    intro l
    induction l with
    | nil => intro acc; simp
    | cons b l ih => intro acc; rw [List.map_cons, List.foldl_cons, ih]; simp [ByteArray.push]
  rw [hfold]
  simp [ByteArray.empty, ByteArray.emptyWithCapacity]
  rfl
theorem loadBytes_run {P : Program} {w : World} : ∀ (s : List UInt8) (p : Addr) (acc : ByteArray), (∀ (j : Nat) x, (s.map fun b => Value.int .u8 b.toNat)[j]? = some x → w.cell? (p.add j) = some x) →
    (loadBytes p acc s.length).run P w = .ok ⟨acc.data ++ s.toArray⟩ w
  | [], p, acc, _ => by simp [loadBytes]
  | b :: s, p, acc, h => by
    have h0 := h 0 (.int .u8 b.toNat) (by simp)
    have e0 : p.add 0 = p := rfl
    rw [e0] at h0
    have ih := loadBytes_run (P := P) (w := w) s (p.add 1) (acc.push b) (fun j x hx => by
      have := h (j + 1) x (by simpa using hx)
      rw [← this]
      congr 1
      unfold Addr.add
      by_cases hj : j = 0
      · subst hj; rfl
      · simp [hj]; omega)
    simp only [List.length_cons, loadBytes, Sem.run_bind, run_load, h0, Result.andThen_ok]
    have e1 : ((b.toNat : Int)).toNat.toUInt8 = b := by simp
    rw [e1, ih]
    simp [ByteArray.push]
theorem modify_push (a : Array Obj) (o : Obj) (f : Obj → Obj) : (a.push o).modify a.size f = a.push (f o) := by
  apply Array.ext_getElem?
  intro i
  simp only [Array.getElem?_modify, Array.getElem?_push]
  by_cases h : i = a.size
  · subst h; simp
  · simp [h, Ne.symm h]
theorem strBytes_sound (hr : Rel g st w0 w) (hn : g st.nx = none) {elem : TypeId} {s : ByteArray} :
    Did E g st (st.new (.cells ((enc s).map fun b : Nat => .int .u8 (.ofNat b)) elem false false)) w0 w (do pure (.value (← Conv.stringToBytes elem s))) (.slice (some (st.nx, 0)) (enc s).length (enc s).length 1 false) := by
  have hcap := grownCap_ge w s.size 0 elem
  have hb := bytes_VRs (g := g) s.data.toList
  have hl : ((enc s).map fun b : Nat => V.int .u8 (.ofNat b)) = (s.data.toList.map fun b => V.int .u8 (.ofNat b.toNat)) := by simp [enc]
  rw [hl, enc_len]
  have harr : (s.data.map fun b => Value.int .u8 b.toNat) = (s.data.toList.map fun b => Value.int .u8 b.toNat).toArray := by
    apply Array.ext'; simp
  have hsz : ((s.data.toList.map fun b => Value.int .u8 b.toNat).toArray ++ Array.replicate (grownCap w s.size 0 elem - s.size) (Value.int .u8 0)).size = grownCap w s.size 0 elem := by
    simp
    omega
  have hnew := newHead_sound (w := w) hr hn hb (e := elem) (Array.replicate (grownCap w s.size 0 elem - s.size) (Value.int .u8 0)) (grownCap w s.size 0 elem, grownCap w s.size 0 elem + 1) (fun i hi h => by rw [hsz] at hi; simp at h; omega) (w.drawn + 1)
  refine ⟨.slice (some ⟨w.heap.size, 0, none⟩) s.size (grownCap w s.size 0 elem), _, _, .inl ?_, ?_, hnew, Gh.le_put hn, fun r hne => Gh.put_ne hne, .inr rfl⟩
  · have hq : (Question.appendCap s.size 0 elem).forced = false := rfl
    simp only [Conv.stringToBytes, Sem.run_bind, run_choose, hq, Bool.false_eq_true, if_false, Result.andThen_ok, newRow, run_newObj, Sem.run_pure, markStringish, run_shape, World.shape?, Array.getElem?_push_size, harr]
    have hC : (Question.appendCap s.size 0 elem).cut (w.tape w.drawn (Question.appendCap s.size 0 elem)) = grownCap w s.size 0 elem := rfl
    simp only [hC, hsz]
    simp only [run_freeze, Result.andThen_ok, Sem.run_pure, World.freeze, Nat.one_ne_zero, if_false, modify_push, beq_self_eq_true, if_true]
  · refine VR.sl _ 0 _ 0 _ _ _ _ _ _ Gh.put_self hcap (fun h => by cases h) (Nat.le_refl _) ?_
    rw [hsz]; omega
theorem cellsOf_size (ok : E.Ok) {t : TypeId} {n : Nat} (h : size E t = some n) : E.P.cellsOf t = n := by
  have := size_info ok h
  simpa [Program.cellsOf] using this
theorem live_cells (hr : Rel g st w0 w) {p : Nat × Nat} {ad : Addr} {vs : List V} {e : TypeId} {ex fz : Bool} (ha : adr g p = some ad) (hst : st.get p.1 = some (.cells vs e ex fz)) :
    ∃ b off top c rng, ad = ⟨b, off + p.2, none⟩ ∧ g p.1 = some (b, off, top) ∧ w.heap[b]? = some (.cells c e rng) ∧ off + vs.length ≤ c.size ∧ (ex = true → off = 0 ∧ c.size = vs.length) := by
  obtain ⟨b, off, top, hg, rfl⟩ := adr_some ha
  obtain ⟨b', off', top', o, hg', ho, hor⟩ := hr.live _ _ hst
  rw [hg] at hg'
  cases hg'
  cases hor with
  | cells _ c _ _ _ _ rng k1 k2 k3 k4 => exact ⟨b, off, _, c, rng, rfl, hg, ho, k1, k2⟩
theorem toUnsafe_sound (ok : E.Ok) (hr : Rel g st w0 w) {s d t : TypeId} {p : Nat × Nat} {a : Value} {n : Nat} {vs : List V} {e : TypeId} {ex fz : Bool} (hs : under E s = some (.pointer t)) (hd : under E d = some .unsafePointer)
    (hx : VR g (.ptr (some p)) a) (hn : size E t = some (n + 1)) (hst : st.get p.1 = some (.cells vs e ex fz)) (hlt : p.2 < vs.length) : (convert s d a).run E.P w = .ok a w := by
  cases hx with | ptr _ ad had =>
  obtain ⟨b, off, top, c, rng, rfl, hg, ho, k1, k2⟩ := live_cells hr had hst
  have hsh : w.shape? b = some (e, c.size) := by simp [World.shape?, ho]
  have hoff : ¬ c.size ≤ off + p.2 := by omega
  simp [convert, run_under (under_some ok hs), run_under (under_some ok hd), Conv.unsafePointer, Conv.seenAt, viewAt, hsh, cellsIn, size_some ok hn, hoff]
theorem ofUnsafe_sound (ok : E.Ok) (hr : Rel g st w0 w) {s d u : TypeId} {p : Nat × Nat} {a : Value} {n : Nat} {vs : List V} {e : TypeId} {fz : Bool} (hs : under E s = some .unsafePointer) (hd : under E d = some (.pointer u))
    (hx : VR g (.ptr (some p)) a) (hn : size E u = some (n + 1)) (hst : st.get p.1 = some (.cells vs e true fz)) (hl : liesAt E.P E.P.depth e (vs.length / E.P.cellsOf e) p.2 u 1 = true) : (convert s d a).run E.P w = .ok a w := by
  cases hx with | ptr _ ad had =>
  obtain ⟨b, off, top, c, rng, rfl, hg, ho, k1, k2⟩ := live_cells hr had hst
  obtain ⟨rfl, hcs⟩ := k2 rfl
  have hsh : w.shape? b = some (e, c.size) := by simp [World.shape?, ho]
  rw [← hcs] at hl
  simp [convert, run_under (under_some ok hs), run_under (under_some ok hd), Conv.unsafePointer, Conv.seenAt, viewAt, hsh, variablesAt, size_some ok hn, hl]
theorem nilUnsafe_sound (ok : E.Ok) {s d : TypeId} {a : Value} {t : TypeId} (h : (under E s = some (.pointer t) ∧ under E d = some .unsafePointer) ∨ (under E s = some .unsafePointer ∧ under E d = some (.pointer t)))
    (hx : VR g (.ptr none) a) : (convert s d a).run E.P w = .ok a w := by
  cases hx
  rcases h with ⟨hs, hd⟩ | ⟨hs, hd⟩ <;> simp [convert, run_under (under_some ok hs), run_under (under_some ok hd), Conv.unsafePointer]
theorem bytesStr_sound (ok : E.Ok) (hr : Rel g st w0 w) {s d elem : TypeId} {p : Nat × Nat} {a : Value} {len cap sz : Nat} {ex : Bool} {l : List Nat} (hs : under E s = some (.slice elem)) (hd : under E d = some .string) (he : under E elem = some (.int .u8))
    (hx : VR g (.slice (some p) len cap sz ex) a) (h : (st.rd p len).bind bytesI = some l) : ∃ x, (convert s d a).run E.P w = .ok x w ∧ VR g (.str l) x := by
  obtain ⟨vs, h1, h2⟩ := Option.bind_eq_some_iff.1 h
  cases hx with | sl r o b off top _ _ _ c _ g1 g2 g3 g4 g5 =>
  obtain ⟨xs, k1, k2, k3⟩ := rd_sound hr h1 (a := ⟨b, off + o, none⟩) (by simp [adr, g1])
  obtain ⟨bs, rfl, rfl⟩ := bytesI_spec h2 k2
  simp only [List.length_map] at k1
  subst k1
  refine ⟨.string ⟨bs.toArray⟩, ?_, by rw [← rowOf_bytes]; exact .str _⟩
  have := bytesToString_run (P := E.P) (c := c) k3
  simp [convert, run_under (under_some ok hs), run_under (under_some ok hd), run_under (under_some ok he), this]
theorem liesAt_at {P : Program} {e : TypeId} (hc : P.cellsOf e = 1) (count off n : Nat) (hn : off + n ≤ count) : liesAt P P.depth e count off e n = true := by
  have hd : P.depth = (2 * (P.types.size + Made.depth) + 1) + 1 := rfl
  rw [hd]
  simp only [liesAt, Bool.or_eq_true]
  left
  rw [hd]
  simp [rowAt, hc, hn, sameLayout, Nat.mod_one]
theorem freeze_heap {w : World} {b o n : Nat} {c : Array Value} {e : TypeId} {rng : Nat × Nat} (h : w.heap[b]? = some (.cells c e rng)) (hn : n ≠ 0) :
    ∃ rng', (w.freeze ⟨b, o, none⟩ n).heap[b]? = some (.cells c e rng') ∧ (∀ b', b' ≠ b → (w.freeze ⟨b, o, none⟩ n).heap[b']? = w.heap[b']?) ∧
      (w.freeze ⟨b, o, none⟩ n).heap.size = w.heap.size ∧ (w.freeze ⟨b, o, none⟩ n).os = w.os ∧ (w.freeze ⟨b, o, none⟩ n).output = w.output ∧ (w.freeze ⟨b, o, none⟩ n).tape = w.tape := by
  obtain ⟨lo, hi⟩ := rng
  refine ⟨if lo == hi then (o, o + n) else (min lo o, max hi (o + n)), ?_, ?_, ?_, ?_, ?_, ?_⟩
  · simp [World.freeze, hn, Array.getElem?_modify, h]
  · intro b' hb
    simp [World.freeze, hn, Array.getElem?_modify, Ne.symm hb]
  all_goals simp [World.freeze, hn]
theorem unsafeString_sound (ok : E.Ok) (hr : Rel g st w0 w) {ts : Array TypeId} {ty pt u e : TypeId} {p : Nat × Nat} {a : Value} {k : IntKind} {n : Int} {vs : List V} {ex : Bool} {l : List Nat} (ht : ts[0]? = some pt) (hpt : under E pt = some (.pointer u))
    (hx : VR g (.ptr (some p)) a) (hst : st.get p.1 = some (.cells vs e ex false)) (heu : e = u) (h0 : 0 ≤ n) (hmx : n ≤ 2 ^ 40) (hne : n ≠ 0) (he : under E e = some (.int .u8)) (hs : size E e = some 1) (h : (st.rd p n.toNat).bind bytesI = some l) :
    Did E g st (st.put p.1 (.cells vs e ex true)) w0 w (do pure (.value (← Builtin.unsafeString_ ts ty #[a, .int k n]))) (.str l) := by
  subst heu
  cases hx with | ptr _ ad had =>
  obtain ⟨ws, h1, h2⟩ := Option.bind_eq_some_iff.1 h
  obtain ⟨xs, k1, k2, k3⟩ := rd_sound hr h1 had
  obtain ⟨bs, rfl, rfl⟩ := bytesI_spec h2 k2
  simp only [List.length_map] at k1
  obtain ⟨b, off, top, hg, rfl⟩ := adr_some had
  obtain ⟨b', off', top', o, hg', ho, hor⟩ := hr.live _ _ hst
  rw [hg] at hg'
  cases hg'
  cases hor with
  | cells _ c _ _ _ _ rng m1 m2 m3 m4 =>
    have hn0 : n.toNat ≠ 0 := by omega
    obtain ⟨rng', f1, f2, f3, f4, f5, f6⟩ := freeze_heap (o := off + p.2) ho hn0
    have hown : w0.heap.size ≤ b := by
      rcases hr.own _ _ _ _ hst hg with h | ⟨_, _, _, h⟩
      · exact h
      · cases h
    have hrange : p.2 + n.toNat ≤ vs.length := by
      have hrd := h1
      unfold St.rd at hrd
      rw [hst] at hrd
      obtain ⟨l1, q1, q2⟩ := Option.bind_eq_some_iff.1 hrd
      obtain ⟨q3, rfl⟩ := dropN_some q1
      obtain ⟨q4, _⟩ := takeN_some q2
      simp at q4
      omega
    have hcell := cellsOf_size ok hs
    have hsh : w.shape? b = some (e, c.size) := by simp [World.shape?, ho]
    have hlies := liesAt_at (P := E.P) hcell (c.size / E.P.cellsOf e) (off + p.2) n.toNat (by rw [hcell, Nat.div_one]; omega)
    have hload := loadBytes_run (P := E.P) (w := w) bs ⟨b, off + p.2, none⟩ .empty k3
    rw [k1] at hload
    refine ⟨.string ⟨bs.toArray⟩, w.freeze ⟨b, off + p.2, none⟩ n.toNat, g, .inl ?_, by rw [← rowOf_bytes]; exact .str _, ?_, Gh.le_refl g, fun _ _ => rfl, .inl ⟨rfl, rfl⟩⟩
    · have h63 : ¬ (n > IntKind.i64.max) := by
        have : IntKind.i64.max = 9223372036854775807 := rfl
        omega
      have hneg : ¬ n < 0 := by omega
      change ((do pure (.value (← (do
        let n ← asInt (.int k n)
        let some pt := ts[0]? | stuck "unsafe.String: no argument types"
        if n < 0 then runtimePanic (.error "unsafe.String: len out of range")
        if n > IntKind.i64.max then unsupported (.unsafePointer "String: a length above the largest int")
        if n = 0 then pure (.string .empty)
        else if ← variablesAt ⟨b, off + p.2, none⟩ (← elemOf pt) n.toNat then do
          let s ← loadBytes ⟨b, off + p.2, none⟩ .empty n.toNat
          freeze ⟨b, off + p.2, none⟩ n.toNat
          pure (.string s)
        else unsupported (.unsafePointer "String: not so many bytes at ptr") : Sem Value))) : Sem Next).run E.P w) = _
      have hmax : n ≤ 9223372036854775807 := by omega
      have hmx2 : IntKind.i64.max = 9223372036854775807 := rfl
      simp [asInt, asIntOf, ht, hneg, hmx2, hmax, hne, elemOf, run_under (under_some ok hpt), variablesAt, hsh, hlies, hload]
      try rfl
    · refine ⟨?_, ?_, ?_, ?_, ?_, ?_, f4.trans hr.os, f5.trans hr.out, f6.trans hr.tp⟩
      · intro r q hq
        rcases get_put hq with ⟨rfl, rfl⟩ | ⟨hne', hq⟩
        · exact ⟨b, off, c.size, _, hg, f1, .cells vs c e ex true off rng' m1 m2 m3 (fun h => by cases h)⟩
        · obtain ⟨b1, off1, t1, y, h1, h2, h3⟩ := hr.live _ _ hq
          refine ⟨b1, off1, t1, y, h1, ?_, h3⟩
          rw [f2 b1 (fun hb => hne' (hr.inj _ _ _ _ _ _ _ hq hst h1 (by rw [hb]; exact hg)))]
          exact h2
      · intro r r' q q' b1 y y' hq hq' hb hb'
        have f : ∀ {r q}, (st.put p.1 (.cells vs e ex true)).get r = some q → ∃ q', st.get r = some q' := by
          intro r q hq
          rcases get_put hq with ⟨rfl, rfl⟩ | ⟨_, hq⟩
          · exact ⟨_, hst⟩
          · exact ⟨_, hq⟩
        obtain ⟨_, h1⟩ := f hq
        obtain ⟨_, h2⟩ := f hq'
        exact hr.inj _ _ _ _ _ _ _ h1 h2 hb hb'
      · intro r q b1 y hq hb
        rcases get_put hq with ⟨rfl, rfl⟩ | ⟨_, hq⟩
        · rw [hg] at hb; cases hb; exact .inl hown
        · exact hr.own _ _ _ _ hq hb
      · intro r b1 y hb; rw [f3]; exact hr.bnd _ _ _ hb
      · rw [f3]; exact hr.size
      · intro b1 hb; rw [f2 b1 (by omega)]; exact hr.kept b1 hb
end
end Go.Ri
set_option linter.unusedVariables false
set_option linter.unusedSimpArgs false
namespace Go.Ri
section
variable {E : Env} {g : Gh} {st st' : St} {w0 w : World} {tm : Fr} {a : Act}
theorem quiet_did (ok : E.Ok) (hg : Glob g) (hf : FRel g tm a) (hr : Rel g st w0 w) {o : Oper} {v : V} (h : (quiet E tm o st).map (fun v => (v, st)) = some (v, st')) :
    Did E g st st' w0 w (execOp a.eval o) v := by
  obtain ⟨u, hu, he⟩ := Option.map_eq_some_iff.1 h
  cases he
  obtain ⟨x, h1, h2⟩ := quiet_sound ok hg hf hr hu
  exact ⟨x, w, g, .inl h1, h2, hr, Gh.le_refl g, fun _ _ => rfl, .inl ⟨rfl, rfl⟩⟩
theorem Did.conv {s : Sem Value} {x : Value} {v : V} (hr : Rel g st w0 w) (h : s.run E.P w = .ok x w) (hv : VR g v x) : Did E g st st w0 w (do pure (.value (← s))) v := Did.quiet hr h hv
theorem partsI_rel (hg : Glob g) (hf : FRel g tm a) : ∀ {l : List (Nat × Operand)} {ps : List (Nat × V)}, partsI tm l = some ps → PsR g ps (l.map fun x => (x.1, a.eval x.2))
  | [], ps, h => by cases h; trivial
  | (i, x) :: l, ps, h => by
    simp only [partsI] at h
    split at h
    · rename_i v r h1 h2
      cases h
      exact ⟨rfl, ev_VR hg hf h1, partsI_rel hg hf h2⟩
    · cases h
theorem parts_arr (hg : Glob g) (hf : FRel g tm a) {l : Array (Nat × Operand)} {ps : List (Nat × V)} (h : partsI tm l.toList = some ps) : PsR g ps (l.map fun (i, x) => (i, a.eval x)).toList := by
  have := partsI_rel hg hf h
  simpa using this
theorem loud_sound (ok : E.Ok) (hg : Glob g) (hf : FRel g tm a) (hr : Rel g st w0 w) (hn : g st.nx = none) {o : Oper} {v : V} (h : loud E tm o st = some (v, st')) :
    Did E g st st' w0 w (execOp a.eval o) v := by
  obtain ⟨dst, op, type, pos, after, guard⟩ := o
  cases op
  case alloc t =>
    simp only [loud] at h
    split at h
    · rename_i z hz
      cases h
      exact alloc_sound ok hr hn hz
    · cases h
  case box t x =>
    simp only [loud] at h
    split at h
    · rename_i l hl
      cases h
      obtain ⟨u, h1, h2⟩ := Option.bind_eq_some_iff.1 hl
      exact box_sound hr hn (ev_VR hg hf h1) h2
    · cases h
  case build t parts =>
    simp only [loud] at h
    split at h
    · rename_i fs z ps h1 h2 h3
      obtain ⟨cs, h4, he⟩ := Option.map_eq_some_iff.1 h
      cases he
      exact build_sound ok hr h1 h2 (parts_arr hg hf h3) (.inl ⟨fs, rfl, h4⟩)
    · rename_i n elem z ps h1 h2 h3
      split at h
      · rename_i s hs
        obtain ⟨cs, h4, he⟩ := Option.map_eq_some_iff.1 h
        cases he
        exact build_sound ok hr h1 h2 (parts_arr hg hf h3) (.inr ⟨n, elem, s, rfl, hs, h4⟩)
      · cases h
    · cases h
  case buildSlice t len parts =>
    simp only [loud] at h
    split at h
    · rename_i elem ps h1 h3
      split at h
      · rename_i s z hs hz
        split at h
        · cases h
        · rename_i hl
          split at h
          · rename_i cs hcs
            cases h
            exact buildSlice_sound ok hr hn h1 hz hs (parts_arr hg hf h3) (by omega) hcs
          · cases h
      · cases h
    · cases h
  case makeSlice t l c =>
    simp only [loud] at h
    split at h
    · rename_i elem p q h1 h2 h3
      split at h
      · rename_i s by_ z hs hb hz
        split at h
        · rename_i hc
          cases h
          have e1 := ev_VR hg hf h2
          have e2 := ev_VR hg hf h3
          have d := makeSlice_sound ok hr hn h1 hz hs hb hc
          generalize hv1 : a.eval l = v1 at e1
          generalize hv2 : a.eval c = v2 at e2
          cases e1
          cases e2
          simp only [execOp, hv1, hv2]
          exact d
        · cases h
      · cases h
    · cases h
  case store t ad x =>
    simp only [loud] at h
    split at h
    · rename_i p l n h1 h2 h3
      simp only [cond_eq_ite, lenN_eq, Nat.beq_eq] at h
      split at h
      · rename_i hl
        obtain ⟨st1, h4, he⟩ := Option.map_eq_some_iff.1 h
        cases he
        obtain ⟨u, h5, h6⟩ := Option.bind_eq_some_iff.1 h2
        have e1 := ev_VR hg hf h1
        generalize hv1 : a.eval ad = v1 at e1
        cases e1 with | ptr _ d hd =>
        simp only [execOp, hv1]
        exact store_sound ok hr hd (ev_VR hg hf h5) h6 h3 hl h4
      · cases h
    · cases h
  case makeMap t r =>
    cases r with
    | none =>
      simp only [loud] at h
      cases h
      exact makeMap_sound hr hn
    | some r => exact quiet_did ok hg hf hr (by simpa only [loud] using h)
  case mapUpdate t m k x =>
    simp only [loud] at h
    split at h
    · rename_i key el h1
      split at h
      · rename_i r s u h2 h3 h4 h5
        split at h
        · rename_i es hes
          obtain ⟨es', h6, he⟩ := Option.map_eq_some_iff.1 h
          cases he
          have e1 := ev_VR hg hf h4
          generalize hv1 : a.eval k = v1 at e1
          cases e1 with | str sb =>
          simp only [execOp, hv1]
          exact mapUpdate_sound ok hr h1 h2 (ev_VR hg hf h3) (ev_VR hg hf h5) hes h6
        · cases h
      · cases h
    · cases h
  case convert s d x =>
    simp only [loud] at h
    split at h
    case h_2 => cases h
    rename_i u hu
    have hx := ev_VR hg hf hu
    split at h
    · rename_i y hy
      cases h
      obtain ⟨z, hz, hv⟩ := conv_sound ok hy hx w
      exact Did.quiet hr hz hv
    · rename_i hcv
      split at h
      · rename_i elem l h1 h2
        split at h
        · rename_i h3 h4
          split at h
          · cases h
          · rename_i hl
            cases h
            generalize hv1 : a.eval x = v1 at hx
            cases hx with | str sb =>
            have d1 := strBytes_sound (E := E) hr hn (elem := elem) (s := sb)
            obtain ⟨x1, w1, g1, hrun, rest⟩ := d1
            refine ⟨x1, w1, g1, ?_, rest⟩
            simp only [execOp, hv1]
            have e : ∀ W, (convert s d (.string sb)).run E.P W = (Conv.stringToBytes elem sb).run E.P W := by
              intro W
              simp [convert, run_under (under_some ok h1), run_under (under_some ok h2), run_under (under_some ok h3)]
            simp only [Sem.run_bind, e] at hrun ⊢
            exact hrun
        · cases h
      · rename_i elem p len cp sz ex h1 h2
        split at h
        · rename_i h3
          split at h
          · rename_i l hl
            cases h
            obtain ⟨z, hz, hv⟩ := bytesStr_sound ok hr h1 h2 h3 hx hl
            exact Did.quiet hr hz hv
          · cases h
        · cases h
      · rename_i elem len cp sz ex h1 h2
        split at h
        · rename_i h3
          cases h
          generalize hv1 : a.eval x = v1 at hx
          cases hx
          simp only [execOp, hv1]
          refine Did.quiet hr (x := .string .empty) ?_ (.str .empty)
          simp [convert, run_under (under_some ok h1), run_under (under_some ok h2), run_under (under_some ok h3), Conv.bytesToString]
        · cases h
      · rename_i t h1 h2
        cases h
        exact Did.quiet hr (nilUnsafe_sound ok (.inl ⟨h1, h2⟩) hx) hx
      · rename_i t p h1 h2
        split at h
        · rename_i n vs e ex fz h3 h4
          split at h
          · rename_i hlt
            cases h
            exact Did.quiet hr (toUnsafe_sound ok hr h1 h2 hx h3 h4 hlt) hx
          · cases h
        · cases h
      · rename_i t h1 h2
        cases h
        exact Did.quiet hr (nilUnsafe_sound ok (.inr ⟨h1, h2⟩) hx) hx
      · rename_i t p h1 h2
        split at h
        · rename_i n vs e fz h3 h4
          split at h
          · rename_i hl
            cases h
            exact Did.quiet hr (ofUnsafe_sound ok hr h1 h2 hx h3 h4 hl) hx
          · cases h
        · cases h
      · cases h
  case range t x =>
    simp only [loud] at h
    split at h
    · rename_i k el m h1 h2
      split at h
      · rename_i hm
        cases h
        exact range_sound ok hr hn h1 (ev_VR hg hf h2) hm
      · cases h
    · cases h
  case next it str =>
    cases str
    · simp only [loud] at h
      split at h
      · rename_i r h1
        split at h
        · rename_i m h2
          split at h
          · rename_i h3
            cases h
            exact next_sound hr (ev_VR hg hf h1) h2 h3
          · cases h
        · cases h
      · cases h
    · exact quiet_did ok hg hf hr (by simpa only [loud] using h)
  case call c =>
    obtain ⟨callee, args, ats⟩ := c
    cases callee with
    | value x => exact quiet_did ok hg hf hr (by simpa only [loud] using h)
    | invoke r n => exact quiet_did ok hg hf hr (by simpa only [loud] using h)
    | builtin b =>
      have hall : ∀ {vs : List V}, evs tm args.toList = some vs → VRs g vs (args.map a.eval).toList := fun hv => evs_arr hg hf hv
      cases b
      case append =>
        simp only [loud] at h
        obtain ⟨vs, h1, h2⟩ := Option.bind_eq_some_iff.1 h
        have d := append_sound (ty := type) ok hr hn (hall h1) h2
        simpa [execOp, resolve, invoke, builtin] using d
      case copy =>
        simp only [loud] at h
        obtain ⟨vs, h1, h2⟩ := Option.bind_eq_some_iff.1 h
        have d := copy_sound (ty := type) ok hr (hall h1) h2
        simpa [execOp, resolve, invoke, builtin] using d
      case unsafeString =>
        simp only [loud] at h
        have hargs : ∀ {y z : Value}, (args.map a.eval).toList = [y, z] → args.map a.eval = #[y, z] := fun {y z} e => by rw [← Array.toList_inj, e]
        have hex : execOp a.eval ⟨dst, .call ⟨.builtin .unsafeString, args, ats⟩, type, pos, after, guard⟩ = (do pure (.value (← Builtin.unsafeString_ ats type (args.map a.eval)))) := by
          simp [execOp, resolve, invoke, builtin]
        rw [hex]
        split at h
        · rename_i k pt e1 e2
          cases h
          have hv := hall e1
          generalize hxs : (args.map a.eval).toList = xs at hv
          cases hv with | cons _ y _ ys hy hys =>
          cases hys with | cons _ z _ zs hz hzs =>
          cases hzs
          rw [hargs hxs]
          cases hy
          cases hz
          refine Did.quiet hr (x := .string .empty) ?_ (.str .empty)
          change (do
            let n ← asInt (.int k 0)
            let some pt := ats[0]? | stuck "unsafe.String: no argument types"
            if n < 0 then runtimePanic (.error "unsafe.String: len out of range")
            if n > IntKind.i64.max then unsupported (.unsafePointer "String: a length above the largest int")
            if n = 0 then pure (.string .empty)
            else runtimePanic (.error "unsafe.String: ptr is nil and len is not zero") : Sem Value).run E.P w = _
          have hmax : IntKind.i64.max = 9223372036854775807 := rfl
          simp [asInt, asIntOf, e2, hmax]
        · rename_i p k n pt e1 e2
          have hv := hall e1
          generalize hxs : (args.map a.eval).toList = xs at hv
          cases hv with | cons _ y _ ys hy hys =>
          cases hys with | cons _ z _ zs hz hzs =>
          cases hzs
          rw [hargs hxs]
          cases hz
          split at h
          · rename_i hn0
            subst hn0
            cases h
            cases hy with | ptr _ ad had =>
            refine Did.quiet hr (x := .string .empty) ?_ (.str .empty)
            change (do
              let n ← asInt (.int k 0)
              let some pt := ats[0]? | stuck "unsafe.String: no argument types"
              if n < 0 then runtimePanic (.error "unsafe.String: len out of range")
              if n > IntKind.i64.max then unsupported (.unsafePointer "String: a length above the largest int")
              if n = 0 then pure (.string .empty)
              else if ← variablesAt ad (← elemOf pt) n.toNat then do
                let s ← loadBytes ad .empty n.toNat
                freeze ad n.toNat
                pure (.string s)
              else unsupported (.unsafePointer "String: not so many bytes at ptr") : Sem Value).run E.P w = _
            have hmax : IntKind.i64.max = 9223372036854775807 := rfl
            simp [asInt, asIntOf, e2, hmax]
          · rename_i hn0
            split at h
            · rename_i u vs e ex h1 h2
              split at h
              · rename_i hc
                split at h
                · rename_i l h3 h4 h5
                  cases h
                  exact unsafeString_sound ok hr e2 h1 hy h2 hc.1 hc.2.1 hc.2.2 hn0 h3 h4 h5
                · cases h
              · cases h
            · cases h
        · cases h
      all_goals exact quiet_did ok hg hf hr (by simpa only [loud] using h)
  all_goals exact quiet_did ok hg hf hr (by simpa only [loud] using h)
end
end Go.Ri

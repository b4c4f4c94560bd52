/-
  Functions without a body, calls, and regions in the order of the text do what the interpreter says.
-/
import Derived.Test.YtjkeiifddmdodaaGreatDoorRd
import Derived.Laws.Externs
import Derived.Lib.Bytealg
import Derived.Lib.MakeNoZero
import Derived.Scope
set_option linter.unusedVariables false
set_option linter.unusedSimpArgs false
namespace Go.Ri
open Go.Extern
/-- The rows behind the numbers. -/
def rowE (c : Nat) (fn : Func) : Array Value → Sem Value :=
  match c with
  | 1 => BytealgIndexByte.indexByte
  | 2 => BytealgCount.count
  | 3 => AbiNoEscape.same
  | 4 => BytealgMakeNoZero.makeNoZero fn.params fn.resultTypes
  | 5 => fun args => ReflectliteValue.unpack (args.getD 0 (.tuple #[]))
  | 6 => ReflectliteType.typeOf
  | 7 => ReflectliteValue.methodAny (ReflectliteValue.valueError "reflectlite.Value.Type" 0) fun t _ _ _ => ReflectliteType.toType t
  | 8 => ReflectliteValue.method (ReflectliteValue.valueError "reflectlite.Value.IsNil" 0) ReflectliteValue.isNil
  | 9 => ReflectliteValue.method (ReflectliteValue.valueError "reflectlite.Value.Elem" 0) ReflectliteValue.elem
  | 10 => ReflectliteValue.set
  | 11 => ReflectliteType.method ReflectliteType.elem
  | 12 => ReflectliteType.relation "Implements" ReflectliteType.implements_
  | 13 => ReflectliteType.relation "AssignableTo" ReflectliteType.assignableTo
  | 14 => ReflectliteType.abiMethod fun t => do pure (.int .u8 (← Rtype.kind t))
  | _ => fun _ => stuck ""
theorem prun_run {P : Program} {α : Type} (s : Sem α) : ∀ {a : α}, prun P s = some a → ∀ w, s.run P w = .ok a w := by
  induction s with
  | pure b => intro a h w; simp only [prun] at h; cases h; rfl
  | program k ih => intro a h w; simp only [prun] at h; exact ih P h w
  | _ => intro a h w; simp [prun] at h
section
variable {E : Env} {g : Gh} {st st' : St} {w0 w : World}
theorem handleI_VR (ok : E.Ok) (hg : Glob g) (t : TypeId) : VR g (handleI E t) (typeHandle E.P t) := by
  obtain ⟨top, ht⟩ := hg _ ok.gl
  exact .ptr _ _ (by simp [adr, ht])
theorem ofHandle_run (ok : E.Ok) (hg : Glob g) {h : V} {x : Value} {t : TypeId} (hh : ofHandleI E h = some t) (hx : VR g h x) (w : World) : (Rtype.ofHandle x).run E.P w = .ok t w := by
  unfold ofHandleI at hh
  split at hh
  · rename_i b t'
    simp only [cond_eq_ite, Nat.beq_eq] at hh
    split at hh
    · rename_i hb
      cases hh
      subst hb
      cases hx with | ptr _ a ha =>
      obtain ⟨top, ht⟩ := hg _ ok.gl
      simp only [adr, ht] at ha
      cases ha
      simp [Rtype.ofHandle, handleType]
    · cases hh
  · cases hh
theorem handle_run (t : TypeId) (w : World) : (Rtype.handle t).run E.P w = .ok (typeHandle E.P t) w := by simp [Rtype.handle]
theorem toType_run (ok : E.Ok) (hg : Glob g) {t : TypeId} {v : V} (h : toTypeI E t = some v) (w : World) : ∃ x, (ReflectliteType.toType t).run E.P w = .ok x w ∧ VR g v x := by
  unfold toTypeI at h
  obtain ⟨r, hr, rfl⟩ := Option.map_eq_some_iff.1 h
  obtain ⟨nm, rt⟩ := r
  refine ⟨.iface rt (.agg #[typeHandle E.P t]), ?_, .iface _ _ _ (.agg _ [_] (.cons _ _ _ _ (handleI_VR ok hg t) .nil))⟩
  simp [ReflectliteType.toType, cutType, hr, handle_run]
theorem noPack_run {what : String} {t : TypeId} (h : E.P.packed t = false) (w : World) : (Rtype.noPack what t).run E.P w = .ok () w := by
  simp [Rtype.noPack, h]
theorem ldV_agg {t : TypeId} {p : Nat × Nat} {q : Option (Nat × Nat)} (h : ldV E t p st = some (.ptr q)) : True := trivial
theorem partsAny_run (ok : E.Ok) (hg : Glob g) {h q : V} {k : Nat × Nat} {fl : Int} {t : TypeId} {xs : Value} (hh : ofHandleI E h = some t) (hx : VR g (.agg [h, .ptr (some k), .int .u64 fl]) xs) (hfl : fl ≠ 0) (w : World) :
    ∃ ad, adr g k = some ad ∧ (ReflectliteValue.partsAny xs).run E.P w = .ok (some (t, ad, fl.toNat)) w := by
  cases hx with | agg _ l hl =>
  cases hl with | cons _ x1 _ l1 a1 b1 =>
  cases b1 with | cons _ x2 _ l2 a2 b2 =>
  cases b2 with | cons _ x3 _ l3 a3 b3 =>
  cases b3
  cases a2 with | ptr _ ad had =>
  cases a3
  refine ⟨ad, had, ?_⟩
  have e := ofHandle_run ok hg hh a1 w
  have red : ReflectliteValue.partsAny (.agg [x1, .pointer (some ad), .int .u64 fl].toArray) = (do pure (some (← Rtype.ofHandle x1, ad, fl.toNat))) := by
    cases fl with
    | ofNat n =>
      cases n with
      | zero => exact absurd rfl hfl
      | succ n => rfl
    | negSucc n => rfl
  rw [red]
  simp [e]
theorem parts_run (ok : E.Ok) (hg : Glob g) {h q : V} {k : Nat × Nat} {fl : Int} {t : TypeId} {xs : Value} (hh : ofHandleI E h = some t) (hx : VR g (.agg [h, .ptr (some k), .int .u64 fl]) xs) (hfl : fl ≠ 0) (hp : E.P.packed t = false) (w : World) :
    ∃ ad, adr g k = some ad ∧ (ReflectliteValue.parts xs).run E.P w = .ok (some (t, ad, fl.toNat)) w := by
  obtain ⟨ad, h1, h2⟩ := partsAny_run (q := q) ok hg hh hx hfl w
  exact ⟨ad, h1, by simp [ReflectliteValue.parts, h2, noPack_run hp]⟩
theorem arr1 {xs : Array Value} {v : V} (h : VRs g [v] xs.toList) : ∃ x, xs = #[x] ∧ VR g v x := by
  generalize hl : xs.toList = l at h
  cases h with | cons _ x _ _ a b =>
  cases b
  exact ⟨x, by rw [← Array.toList_inj, hl], a⟩
theorem arr2 {xs : Array Value} {v u : V} (h : VRs g [v, u] xs.toList) : ∃ x y, xs = #[x, y] ∧ VR g v x ∧ VR g u y := by
  generalize hl : xs.toList = l at h
  cases h with | cons _ x _ _ a b =>
  cases b with | cons _ y _ _ c d =>
  cases d
  exact ⟨x, y, by rw [← Array.toList_inj, hl], a, c⟩
theorem idxI_spec (c : Nat) : ∀ (l : List Nat) (i : Nat), idxI c l i = ((l.findIdx? (· == c)).map (· + i))
  | [], i => rfl
  | a :: l, i => by
    simp only [idxI, cond_eq_ite, Nat.beq_eq, List.findIdx?_cons]
    by_cases h : a = c
    · subst h; simp
    · rw [if_neg h, idxI_spec c l (i + 1)]
      simp [h]
      cases l.findIdx? (· == c) <;> simp; omega
theorem firstIdx_spec (s : ByteArray) (c : Nat) (hc : c < 256) : firstIdx s (c : Int).toNat.toUInt8 = (match idxI c (enc s) 0 with | some i => Int.ofNat i | none => Int.negSucc 0) := by
  rw [idxI_spec]
  have key : (List.range s.size).find? (fun i => s[i]! == (c : Int).toNat.toUInt8) = (enc s).findIdx? (· == c) := by
    have hget : ∀ i, i < s.size → (s[i]! == (c : Int).toNat.toUInt8) = ((enc s)[i]? == some c) := by
      intro i hi
      have e1 : s[i]! = s[i] := getElem!_pos s i hi
      have e2 : (enc s)[i]? = some s[i].toNat := by
        have : i < s.data.toList.length := hi
        simp only [enc, List.getElem?_map, List.getElem?_eq_getElem this, Option.map_some]
        rfl
      rw [e1, e2]
      rw [Bool.eq_iff_iff]
      simp only [beq_iff_eq, Option.some.injEq, Int.toNat_natCast]
      constructor
      · intro h; rw [h]; simp; omega
      · intro h
        apply UInt8.toNat_inj.1
        rw [h]; simp; omega
    rw [Option.ext_iff]
    intro i
    rw [List.find?_range_eq_some, List.findIdx?_eq_some_iff_getElem]
    constructor
    · rintro ⟨h1, h2, h3⟩
      have h2 := List.mem_range.1 h2
      rw [hget i h2] at h1
      have hi : i < (enc s).length := by rw [enc_len]; exact h2
      rw [List.getElem?_eq_getElem hi] at h1
      refine ⟨hi, by simpa using h1, fun j hj => ?_⟩
      have := h3 j hj
      rw [hget j (by omega)] at this
      rw [List.getElem?_eq_getElem (by omega)] at this
      simpa using this
    · rintro ⟨hi, h1, h2⟩
      have hi' : i < s.size := by rw [← enc_len]; exact hi
      refine ⟨?_, List.mem_range.2 hi', fun j hj => ?_⟩
      · rw [hget i hi', List.getElem?_eq_getElem hi]
        simpa using h1
      · rw [hget j (by omega), List.getElem?_eq_getElem (by omega)]
        simpa using h2 j hj
  unfold firstIdx
  rw [key]
  cases (enc s).findIdx? (· == c) <;> simp
theorem cntI_spec (c : Nat) : ∀ (l : List Nat) (n : Nat), cntI c l n = n + l.count c
  | [], n => rfl
  | a :: l, n => by
    simp only [cntI, cond_eq_ite, Nat.beq_eq, List.count_cons]
    by_cases h : a = c
    · subst h; rw [if_pos rfl, cntI_spec a l (n + 1)]; simp; omega
    · rw [if_neg h, cntI_spec c l n]; simp [h]
theorem count_enc (s : ByteArray) (c : Nat) (hc : c < 256) : (enc s).count c = s.data.toList.count (c : Int).toNat.toUInt8 := by
  unfold enc List.count
  rw [List.countP_map]
  apply List.countP_congr
  intro x _
  simp only [Function.comp, beq_iff_eq, Int.toNat_natCast]
  constructor
  · intro h
    apply UInt8.toNat_inj.1
    rw [h]; simp; omega
  · intro h; rw [h]; simp; omega
end
end Go.Ri
set_option linter.unusedVariables false
set_option linter.unusedSimpArgs false
namespace Go.Ri
open Go.Extern
section
variable {E : Env} {g : Gh} {st st' : St} {w0 w : World}
theorem makeNoZero_sound (ok : E.Ok) (hr : Rel g st w0 w) (hn : g st.nx = none) {ps ts : Array TypeId} {t elem : TypeId} {n : Int} (ht : ts[0]? = some t) (hd : under E t = some (.slice elem)) (hs : size E elem = some 1) (h : 0 ≤ n ∧ n ≤ 2 ^ 40) :
    Did E g st (st.new (.cells (List.replicate n.toNat .hole) elem false false)) w0 w (do pure (.value (← BytealgMakeNoZero.makeNoZero ps ts #[.int .i64 n]))) (.slice (some (st.nx, 0)) n.toNat n.toNat 1 false) := by
  have hdef : BytealgMakeNoZero.makeNoZero ps ts #[.int .i64 n] =
      (do
        let some t := ts[0]? | stuck "bytealg.MakeNoZero: no result type"
        let .slice elem ← underlying t | stuck "bytealg.MakeNoZero: slice type expected"
        if n < 0 || n > 2 ^ 48 then runtimePanic (.error "makeslice: len out of range")
        let cap ← choose (.appendCap n.toNat 0 elem)
        askRoom cap
        let bytes ← choose (.extern "internal/bytealg.MakeNoZero.bytes" 0)
        let a ← newRow elem (BytealgMakeNoZero.digits cap bytes #[])
        pure (.slice (some a) n.toNat cap)) := rfl
  have h1 : ¬ n < 0 := by omega
  have h2 : ¬ (281474976710656 : Int) < n := by omega
  have hcap := grownCap_ge w n.toNat 0 elem
  let cs := BytealgMakeNoZero.digits (grownCap w n.toNat 0 elem) ((Question.extern "internal/bytealg.MakeNoZero.bytes" 0).cut (w.tape (w.drawn + 1) (.extern "internal/bytealg.MakeNoZero.bytes" 0))) #[]
  have hcs : cs.size = grownCap w n.toNat 0 elem := by simp [cs, Go.Lib.size_digits]
  have hnew : Rel (g.put st.nx (w.heap.size, 0, cs.size)) (st.new (.cells (List.replicate n.toNat .hole) elem false false)) w0 { w with drawn := w.drawn + 1 + 1, heap := w.heap.push (.cells cs elem) } := by
    refine ((hr.drew (w.drawn + 1 + 1)).new hn (o := .cells (List.replicate n.toNat .hole) elem false false) (x := .cells cs elem (0, 0)) (top := cs.size) ?_)
    refine .cells _ _ elem false false 0 (0, 0) (by simp; omega) (fun h => by cases h) (fun i v hv => ?_) (fun _ i hi h => by simp at h)
    have hi := (List.getElem?_eq_some_iff.1 hv).1
    simp at hi
    have he := (List.getElem?_eq_some_iff.1 hv).2
    simp at he
    subst he
    refine ⟨cs[0 + i]'(by omega), Array.getElem?_eq_getElem (by omega), .hole _⟩
  refine ⟨.slice (some ⟨w.heap.size, 0, none⟩) n.toNat (grownCap w n.toNat 0 elem), _, _, .inl ?_, ?_, hnew, Gh.le_put hn, fun r hne => Gh.put_ne hne, .inr rfl⟩
  · rw [hdef]
    simp [ht, run_under (under_some ok hd), h1, h2, Question.forced, newRow, grownCap, cs]
    rfl
  · refine VR.sl _ 0 _ 0 _ _ _ _ _ _ Gh.put_self hcap (fun h => by cases h) (Nat.le_refl _) ?_
    omega
theorem valueOf_sound (ok : E.Ok) (hg : Glob g) (hr : Rel g st w0 w) (hn : g st.nx = none) {t : TypeId} {v : V} {x : Value} {l : List V} {k : Nat} (hx : VR g (.iface t v) x) (hk : prun E.P (Rtype.kind t) = some k) (hl : v.told = some l) :
    Did E g st (st.new (.cells l t true false)) w0 w (do pure (.value (← ReflectliteValue.unpack x))) (.agg [handleI E t, .ptr (some (st.nx, 0)), .int .u64 (.ofNat (k + 128))]) := by
  cases hx with | iface _ _ y hv =>
  have h2 := told_VR hv hl
  obtain ⟨g', rfl, e1, e2, e3, e4⟩ := newRow_sound (E := E) hr hn (e := t) h2
  refine ⟨.agg #[typeHandle E.P t, .pointer (some ⟨w.heap.size, 0, none⟩), .int .u64 (Int.ofNat (k + 128 + 0))], _, _, .inl ?_, ?_, e2, e3, e4, .inr rfl⟩
  · simp [ReflectliteValue.unpack, newVar, e1, ReflectliteValue.mk, handle_run, prun_run _ hk, ReflectliteValue.flagIndir]
  · exact .agg _ [_, _, _] (.cons _ _ _ _ (handleI_VR ok (hg.mono e3) t) (.cons _ _ _ _ (.ptr _ _ (by simp [adr, Gh.put_self])) (.cons _ _ _ _ (.int _ _) .nil)))
theorem row6 (fn : Func) (t : TypeId) (y : Value) : rowE 6 fn #[.iface t y] = ReflectliteType.toType t := rfl
theorem row7 (fn : Func) (x : Value) : rowE 7 fn #[x] = (ReflectliteValue.partsAny x >>= fun p => match p with
    | none => ReflectliteValue.valueError "reflectlite.Value.Type" 0
    | some (t, _, _) => ReflectliteType.toType t) := rfl
theorem row8 (fn : Func) (x : Value) : rowE 8 fn #[x] = (ReflectliteValue.parts x >>= fun p => match p with
    | none => ReflectliteValue.valueError "reflectlite.Value.IsNil" 0
    | some (t, a, fl) => ReflectliteValue.isNil t a fl (fl % 32)) := rfl
theorem row9 (fn : Func) (x : Value) : rowE 9 fn #[x] = (ReflectliteValue.parts x >>= fun p => match p with
    | none => ReflectliteValue.valueError "reflectlite.Value.Elem" 0
    | some (t, a, fl) => ReflectliteValue.elem t a fl (fl % 32)) := rfl
def setBody (dst : TypeId) (a : Addr) (fl : Nat) (src : TypeId) (b : Addr) : Sem Value := do
  if fl / 256 % 2 == 0 then unsupported (.noEntry "extern/(internal/reflectlite.Value).Set.unaddressable")
  let val ← loadVar src b
  if ← Rtype.directlyAssignable dst src then storeVar dst a val
  else if ← Rtype.implements dst src then
    if (← Rtype.kind src) == 20 then
      match val with
      | .nilIface => unsupported (.noEntry "extern/reflectlite: a nil value of one interface type handed on as a value of another")
      | _ => storeVar dst a val
    else storeVar dst a (.iface src val)
  else panicString ("reflectlite.Set: value of type " ++ (← Rtype.spelt src) ++ " is not assignable to type " ++ (← Rtype.spelt dst))
  pure (.tuple #[])
theorem row10 (fn : Func) (v x : Value) : rowE 10 fn #[v, x] = (ReflectliteValue.parts v >>= fun p => ReflectliteValue.parts x >>= fun q => match p, q with
    | some (dst, a, fl), some (src, b, _) => setBody dst a fl src b
    | _, _ => unsupported (.noEntry "extern/(internal/reflectlite.Value).Set.zeroValue")) := by
  change (ReflectliteValue.parts v >>= _) = _
  refine bind_congr fun p => ?_
  change (ReflectliteValue.parts x >>= _) = _
  refine bind_congr fun q => ?_
  cases p with
  | none => rfl
  | some p =>
    cases q with
    | none => rfl
    | some q => rfl
theorem ofRtype_eq (h : Value) : ReflectliteType.ofRtype (.agg #[h]) = (do let t ← Rtype.ofHandle h; Rtype.noPack "a Type asked or handed on" t; pure t) := rfl
theorem row11 (fn : Func) (r : Value) : rowE 11 fn #[r] = (ReflectliteType.ofRtype r >>= fun t => ReflectliteType.elem t) := rfl
theorem row12 (fn : Func) (r u : Value) (ti : TypeId) : rowE 12 fn #[r, .iface ti u] = (do pure (.bool (← ReflectliteType.implements_ (← ReflectliteType.ofRtype u) (← ReflectliteType.ofRtype r)))) := rfl
theorem row13 (fn : Func) (r u : Value) (ti : TypeId) : rowE 13 fn #[r, .iface ti u] = (do pure (.bool (← ReflectliteType.assignableTo (← ReflectliteType.ofRtype u) (← ReflectliteType.ofRtype r)))) := rfl
theorem row14 (fn : Func) (h : Value) : rowE 14 fn #[h] = (do let t ← Rtype.ofHandle h; Rtype.noPack "a method of abi.Type" t; pure (.int .u8 (← Rtype.kind t))) := rfl
theorem ext_sound (ok : E.Ok) (hg : Glob g) (hr : Rel g st w0 w) (hn : g st.nx = none) {c : Nat} {fn : Func} {args : List V} {xs : Array Value} {v : V} (hx : VRs g args xs.toList)
    (h : extI E c fn args st = some (v, st')) : Did E g st st' w0 w (do pure (.value (← rowE c fn xs))) v := by
  unfold extI at h
  rw [cond_eq_ite] at h
  split at h
  · rename_i hc; have hc := Nat.eq_of_beq_eq_true hc; subst hc
    try simp only [cond_eq_ite, Nat.beq_eq] at h
    split at h
    · rename_i s cb
      split at h
      · rename_i hcb
        have hcb : cb < 256 := by rw [bltN] at hcb; simpa using hcb
        cases h
        obtain ⟨x, y, rfl, h1, h2⟩ := arr2 hx
        cases h1 with | str sb =>
        cases h2
        have := run_indexByte_string (P := E.P) sb (cb : Int) w
        refine Did.quiet hr (x := .int .i64 (firstIdx sb (cb : Int).toNat.toUInt8)) this ?_
        rw [firstIdx_spec sb cb hcb]
        exact .int _ _
      · cases h
    · cases h
  rw [cond_eq_ite] at h
  split at h
  · rename_i hc; have hc := Nat.eq_of_beq_eq_true hc; subst hc
    try simp only [cond_eq_ite, Nat.beq_eq] at h
    split at h
    · rename_i s cb
      split at h
      · rename_i hcb
        have hcb : cb < 256 := by rw [bltN] at hcb; simpa using hcb
        cases h
        obtain ⟨x, y, rfl, h1, h2⟩ := arr2 hx
        cases h1 with | str sb =>
        cases h2
        have := Go.Lib.run_countString (P := E.P) sb (cb : Int) w
        refine Did.quiet hr (x := .int .i64 (Go.Lib.countByte sb.data.toList (cb : Int).toNat.toUInt8)) this ?_
        rw [cntI_spec, Nat.zero_add, count_enc sb cb hcb]
        exact .int _ _
      · cases h
    · cases h
  rw [cond_eq_ite] at h
  split at h
  · rename_i hc; have hc := Nat.eq_of_beq_eq_true hc; subst hc
    try simp only [cond_eq_ite, Nat.beq_eq] at h
    split at h
    · cases h
      obtain ⟨x, rfl, h1⟩ := arr1 hx
      exact Did.quiet hr (x := x) rfl h1
    · cases h
  rw [cond_eq_ite] at h
  split at h
  · rename_i hc; have hc := Nat.eq_of_beq_eq_true hc; subst hc
    try simp only [cond_eq_ite, Nat.beq_eq] at h
    split at h
    · rename_i n elem h1
      obtain ⟨t, h2, h3⟩ := Option.bind_eq_some_iff.1 h1
      split at h
      · rename_i h4
        split at h
        · rename_i h5
          cases h
          obtain ⟨x, rfl, h6⟩ := arr1 hx
          cases h6
          exact makeNoZero_sound (ps := fn.params) ok hr hn h2 h3 h4 h5
        · cases h
      · cases h
    · cases h
  rw [cond_eq_ite] at h
  split at h
  · rename_i hc; have hc := Nat.eq_of_beq_eq_true hc; subst hc
    try simp only [cond_eq_ite, Nat.beq_eq] at h
    split at h
    · rename_i t u
      split at h
      · rename_i k l h1 h2
        cases h
        obtain ⟨x, rfl, h6⟩ := arr1 hx
        exact valueOf_sound ok hg hr hn h6 h1 h2
      · cases h
    · cases h
  rw [cond_eq_ite] at h
  split at h
  · rename_i hc; have hc := Nat.eq_of_beq_eq_true hc; subst hc
    try simp only [cond_eq_ite, Nat.beq_eq] at h
    split at h
    · rename_i t u
      obtain ⟨y, h1, he⟩ := Option.map_eq_some_iff.1 h
      cases he
      obtain ⟨x, rfl, h6⟩ := arr1 hx
      cases h6 with | iface _ _ x' h7 =>
      obtain ⟨z, hz, hv⟩ := toType_run ok hg h1 w
      exact Did.quiet hr (x := z) (by rw [row6]; exact hz) hv
    · cases h
  rw [cond_eq_ite] at h
  split at h
  · rename_i hc; have hc := Nat.eq_of_beq_eq_true hc; subst hc
    try simp only [cond_eq_ite, Nat.beq_eq] at h
    split at h
    · rename_i hh p fl
      split at h
      · cases h
      · rename_i hfl
        obtain ⟨y, h1, he⟩ := Option.map_eq_some_iff.1 h
        cases he
        obtain ⟨t, h2, h3⟩ := Option.bind_eq_some_iff.1 h1
        obtain ⟨x, rfl, h6⟩ := arr1 hx
        obtain ⟨ad, h7, h8⟩ := partsAny_run (q := .hole) ok hg h2 h6 hfl w
        obtain ⟨z, hz, hv⟩ := toType_run ok hg h3 w
        exact Did.quiet hr (x := z) (by rw [row7]; simp [h8, hz]) hv
    · cases h
  rw [cond_eq_ite] at h
  split at h
  · rename_i hc; have hc := Nat.eq_of_beq_eq_true hc; subst hc
    try simp only [cond_eq_ite, Nat.beq_eq] at h
    split at h
    · rename_i hh p fl
      split at h
      · cases h
      · rename_i hfl
        split at h
        · rename_i t h1
          split at h
          · cases h
          · rename_i hpk
            have hp : E.P.packed t = false := by
              cases hb : E.P.packed t
              · rfl
              · exact absurd (.inl hb) hpk
            have h22 : fl.toNat % 32 = 22 := by
              rcases Nat.decEq (fl.toNat % 32) 22 with h | h
              · exact absurd (.inr h) hpk
              · exact h
            split at h
            · rename_i q hq
              cases h
              obtain ⟨x, rfl, h6⟩ := arr1 hx
              obtain ⟨ad, h7, h8⟩ := parts_run (q := .hole) ok hg h1 h6 hfl hp w
              obtain ⟨y, hy, hvy⟩ := ldV_sound ok hr hq h7
              refine Did.quiet hr (x := .bool q.isNone) ?_ (.bool _)
              cases hvy <;> (rw [row8]; simp [h8, h22, ReflectliteValue.isNil, hy])
            · cases h
        · cases h
    · cases h
  rw [cond_eq_ite] at h
  split at h
  · rename_i hc; have hc := Nat.eq_of_beq_eq_true hc; subst hc
    try simp only [cond_eq_ite, Nat.beq_eq] at h
    split at h
    · rename_i hh p fl
      split at h
      · cases h
      · rename_i hfl
        split at h
        · rename_i t h1
          split at h
          · cases h
          · rename_i hpk
            have hp : E.P.packed t = false := by
              cases hb : E.P.packed t
              · rfl
              · exact absurd (.inl hb) hpk
            have h22 : fl.toNat % 32 = 22 := by
              rcases Nat.decEq (fl.toNat % 32) 22 with h | h
              · exact absurd (.inr h) hpk
              · exact h
            split at h
            · rename_i q e hq he
              split at h
              · rename_i k hk
                cases h
                obtain ⟨x, rfl, h6⟩ := arr1 hx
                obtain ⟨ad, h7, h8⟩ := parts_run (q := .hole) ok hg h1 h6 hfl hp w
                obtain ⟨y, hy, hvy⟩ := ldV_sound ok hr hq h7
                cases hvy with | ptr _ pa hpa =>
                refine Did.quiet hr (x := .agg #[typeHandle E.P e, .pointer (some pa), .int .u64 (Int.ofNat (k + 128 + 256))]) ?_ ?_
                · rw [row9]; simp [h8, h22, ReflectliteValue.elem, hy, prun_run _ he, ReflectliteValue.mk, handle_run, prun_run _ hk, ReflectliteValue.flagIndir, ReflectliteValue.flagAddr]
                · exact .agg _ [_, _, _] (.cons _ _ _ _ (handleI_VR ok hg e) (.cons _ _ _ _ (.ptr _ _ hpa) (.cons _ _ _ _ (.int _ _) .nil)))
              · cases h
            · cases h
        · cases h
    · cases h
  rw [cond_eq_ite] at h
  split at h
  · rename_i hc; have hc := Nat.eq_of_beq_eq_true hc; subst hc
    try simp only [cond_eq_ite, Nat.beq_eq] at h
    split at h
    · rename_i hh p fl hh' p' fl'
      split at h
      · cases h
      · rename_i hfl
        have hf1 : fl ≠ 0 := fun e => hfl (.inl e)
        have hf2 : fl' ≠ 0 := fun e => hfl (.inr e)
        split at h
        · rename_i t u h1 h1'
          split at h
          · cases h
          · rename_i hpk
            have hp : E.P.packed t = false := by
              cases hb : E.P.packed t
              · rfl
              · exact absurd (.inl hb) hpk
            have hp' : E.P.packed u = false := by
              cases hb : E.P.packed u
              · rfl
              · exact absurd (.inr (.inl hb)) hpk
            have h22 : fl.toNat / 256 % 2 ≠ 0 := fun e => hpk (.inr (.inr e))
            split at h
            · rename_i val n hq hda hsz
              split at h
              · rename_i l hl
                split at h
                · rename_i hln
                  simp only [lenN_eq] at hln
                  obtain ⟨st1, hwr, he⟩ := Option.map_eq_some_iff.1 h
                  cases he
                  obtain ⟨x, y, rfl, h6, h6'⟩ := arr2 hx
                  obtain ⟨ad, h7, h8⟩ := parts_run (q := .hole) ok hg h1 h6 hf1 hp w
                  obtain ⟨ad', h7', h8'⟩ := parts_run (q := .hole) ok hg h1' h6' hf2 hp' w
                  obtain ⟨z, hz, hvz⟩ := ldV_sound ok hr hq h7'
                  have hcs := told_VR hvz hl
                  obtain ⟨w', k1, k2, k3⟩ := wr_sound (E := E) hr hwr h7 hcs
                  have hs : z.cells.size = n := by have := hcs.len; simp at this; omega
                  refine ⟨.tuple #[], w', g, .inl ?_, und_VR g, k2, Gh.le_refl g, fun _ _ => rfl, .inl ⟨k3, rfl⟩⟩
                  have h22' : (fl.toNat / 256 % 2 == 0) = false := by simpa using h22
                  rw [row10]
                  simp [h8, h8', setBody, h22, hz, prun_run _ hda, storeVar, size_some ok hsz, hs, k1]
                · cases h
              · cases h
            · cases h
        · cases h
    · cases h
  rw [cond_eq_ite] at h
  split at h
  · rename_i hc; have hc := Nat.eq_of_beq_eq_true hc; subst hc
    try simp only [cond_eq_ite, Nat.beq_eq] at h
    split at h
    · rename_i hh
      split at h
      · rename_i t h1
        split at h
        · cases h
        · rename_i hpk
          have hp : E.P.packed t = false := by simpa using hpk
          split at h
          · rename_i e he
            obtain ⟨y, h2, he'⟩ := Option.map_eq_some_iff.1 h
            cases he'
            obtain ⟨x, rfl, h6⟩ := arr1 hx
            cases h6 with | agg _ l hl =>
            cases hl with | cons _ x1 _ l1 a1 b1 =>
            cases b1
            obtain ⟨z, hz, hv⟩ := toType_run ok hg h2 w
            exact Did.quiet hr (x := z) (by rw [row11]; simp [ofRtype_eq, ofHandle_run ok hg h1 a1, noPack_run hp, ReflectliteType.elem, prun_run _ he, hz]) hv
          · cases h
      · cases h
    · cases h
  rw [cond_eq_ite] at h
  split at h
  · rename_i hc; have hc := Nat.eq_of_beq_eq_true hc; subst hc
    try simp only [cond_eq_ite, Nat.beq_eq] at h
    split at h
    · rename_i hh ti hh'
      split at h
      · rename_i t u h1 h1'
        split at h
        · cases h
        · rename_i hpk
          have hp : E.P.packed t = false := by
            cases hb : E.P.packed t
            · rfl
            · exact absurd (.inl hb) hpk
          have hp' : E.P.packed u = false := by
            cases hb : E.P.packed u
            · rfl
            · exact absurd (.inr hb) hpk
          split at h
          · rename_i b hb
            cases h
            obtain ⟨x, y, rfl, h6, h7⟩ := arr2 hx
            cases h6 with | agg _ l hl =>
            cases hl with | cons _ x1 _ l1 a1 b1 =>
            cases b1
            cases h7 with | iface _ _ y' h8 =>
            cases h8 with | agg _ l2 hl2 =>
            cases hl2 with | cons _ x2 _ l3 a2 b2 =>
            cases b2
            exact Did.quiet hr (x := .bool b) (by rw [row12]; simp [ofRtype_eq, ofHandle_run ok hg h1 a1, ofHandle_run ok hg h1' a2, noPack_run hp, noPack_run hp', prun_run _ hb]) (.bool _)
          · cases h
      · cases h
    · cases h
  rw [cond_eq_ite] at h
  split at h
  · rename_i hc; have hc := Nat.eq_of_beq_eq_true hc; subst hc
    try simp only [cond_eq_ite, Nat.beq_eq] at h
    split at h
    · rename_i hh ti hh'
      split at h
      · rename_i t u h1 h1'
        split at h
        · cases h
        · rename_i hpk
          have hp : E.P.packed t = false := by
            cases hb : E.P.packed t
            · rfl
            · exact absurd (.inl hb) hpk
          have hp' : E.P.packed u = false := by
            cases hb : E.P.packed u
            · rfl
            · exact absurd (.inr hb) hpk
          split at h
          · rename_i b hb
            cases h
            obtain ⟨x, y, rfl, h6, h7⟩ := arr2 hx
            cases h6 with | agg _ l hl =>
            cases hl with | cons _ x1 _ l1 a1 b1 =>
            cases b1
            cases h7 with | iface _ _ y' h8 =>
            cases h8 with | agg _ l2 hl2 =>
            cases hl2 with | cons _ x2 _ l3 a2 b2 =>
            cases b2
            exact Did.quiet hr (x := .bool b) (by rw [row13]; simp [ofRtype_eq, ofHandle_run ok hg h1 a1, ofHandle_run ok hg h1' a2, noPack_run hp, noPack_run hp', prun_run _ hb]) (.bool _)
          · cases h
      · cases h
    · cases h
  rw [cond_eq_ite] at h
  split at h
  · rename_i hc; have hc := Nat.eq_of_beq_eq_true hc; subst hc
    try simp only [cond_eq_ite, Nat.beq_eq] at h
    split at h
    · rename_i hh
      split at h
      · rename_i t h1
        split at h
        · cases h
        · rename_i hpk
          have hp : E.P.packed t = false := by simpa using hpk
          split at h
          · rename_i k hk
            cases h
            obtain ⟨x, rfl, h6⟩ := arr1 hx
            exact Did.quiet hr (x := .int .u8 (Int.ofNat k)) (by rw [row14]; simp [ofHandle_run ok hg h1 h6, noPack_run hp, prun_run _ hk]) (.int _ _)
          · cases h
      · cases h
    · cases h
  · cases h
end
end Go.Ri
set_option linter.unusedVariables false
set_option linter.unusedSimpArgs false
namespace Go.Ri
structure Inv (g : Gh) (st : St) (w0 w : World) : Prop where
  rel : Rel g st w0 w
  glob : Glob g
  fresh : ∀ r, st.nx ≤ r → g r = none
structure Aft (g g' : Gh) (st st' : St) : Prop where
  le : g.le g'
  keep : ∀ r, r < st.nx → g' r = g r
  nx : st.nx ≤ st'.nx
theorem Aft.refl (g : Gh) (st : St) : Aft g g st st := ⟨Gh.le_refl g, fun _ _ => rfl, Nat.le_refl _⟩
theorem Aft.trans {g g' g'' : Gh} {st st' st'' : St} (h : Aft g g' st st') (h' : Aft g' g'' st' st'') : Aft g g'' st st'' :=
  ⟨Gh.le_trans h.le h'.le, fun r hr => (h'.keep r (Nat.lt_of_lt_of_le hr h.nx)).trans (h.keep r hr), Nat.le_trans h.nx h'.nx⟩
/-- What is known of the program besides. -/
structure Env.Ok2 (E : Env) : Prop where
  ok : E.Ok
  fn : ∀ f fn, E.fn.get none f = some fn → E.P.funcs[f]? = some fn
  ext : ∀ f fn, E.fn.get none f = some fn → fn.body = none → (fn.name == "runtime.NumGoroutine") = false ∧ Extern.findNext fn = none ∧ Extern.find fn = some (rowE ((E.ex.get none f).getD 0) fn)
  enter : ∀ f fn c, E.fn.get none f = some fn → fn.body = some c → ∀ (xs : Array Value) (w : World), (callFunc f xs).run E.P w = .ok (.enter f xs) w
  mixed : E.P.follows .mixedOrders = true
section
variable {E : Env} {g : Gh} {st st' : St} {w0 w : World} {tm tm' : Fr} {a : Act} {cf : CF} {Q : Exit → Act → World → Prop}
theorem Did.inv {s : Sem Next} {v : V} (hi : Inv g st w0 w) (h : Did E g st st' w0 w s v) :
    ∃ x w' g', (s.run E.P w = .ok (.value x) w' ∨ (s.run E.P w = .ok .skip w' ∧ x = undef)) ∧ VR g' v x ∧ Inv g' st' w0 w' ∧ Aft g g' st st' := by
  obtain ⟨x, w', g', h1, h2, h3, h4, h5, h6⟩ := h
  refine ⟨x, w', g', h1, h2, ⟨h3, hi.glob.mono h4, fun r hr => ?_⟩, ⟨h4, fun r hr => h5 r (by omega), by omega⟩⟩
  rcases h6 with ⟨e1, rfl⟩ | e1
  · exact hi.fresh r (by omega)
  · rw [h5 r (by omega)]; exact hi.fresh r (by omega)
/-- What a call comes to. -/
def Comes1 (E : Env) (g : Gh) (st st' : St) (w0 w : World) (s : Sem Next) (v : V) : Prop :=
  (∃ x w' g', s.run E.P w = .ok (.value x) w' ∧ VR g' v x ∧ Inv g' st' w0 w' ∧ Aft g g' st st') ∨
  (∃ f xs, s.run E.P w = .ok (.enter f xs) w ∧ Calls E.P f xs w fun e w' => ∃ x g', e = .returned x ∧ VR g' v x ∧ Inv g' st' w0 w' ∧ Aft g g' st st')
def CallOk (E : Env) (w0 : World) (cf : CF) : Prop :=
  ∀ f args st v st' g w (xs : Array Value), cf f args st = some (v, st') → VRs g args xs.toList → Inv g st w0 w → Comes1 E g st st' w0 w (callFunc f xs) v
theorem upon_did {s : Sem Next} {v : V} {o : Oper} (he : execOp a.eval o = s) (h : Did E g st st' w0 w s v) {next : Act → World → Prop}
    (hk : ∀ x w' g', VR g' v x → Rel g' st' w0 w' → g.le g' → (∀ r, r ≠ st.nx → g' r = g r) → ((st'.nx = st.nx ∧ g' = g) ∨ st'.nx = st.nx + 1) → next (a.put o.dst x) w') : o.wp E.P a w next Q := by
  obtain ⟨x, w', g', h1, h2, h3, h4, h5, h6⟩ := h
  unfold Oper.wp
  rw [he]
  rcases h1 with h1 | ⟨h1, rfl⟩
  · rw [h1]; exact hk x w' g' h2 h3 h4 h5 h6
  · rw [h1]; exact hk undef w' g' h2 h3 h4 h5 h6
theorem upon_comes {s : Sem Next} {v : V} {o : Oper} (he : (execOp a.eval o).run E.P w = s.run E.P w) (h : Comes1 E g st st' w0 w s v) {next : Act → World → Prop}
    (hk : ∀ x w' g', VR g' v x → Inv g' st' w0 w' → Aft g g' st st' → next (a.put o.dst x) w') : o.wp E.P a w next Q := by
  unfold Oper.wp
  rw [he]
  rcases h with ⟨x, w', g', h1, h2, h3, h4⟩ | ⟨f, xs, h1, h2⟩
  · rw [h1]; exact hk x w' g' h2 h3 h4
  · rw [h1, Oper.upon_enter]
    refine h2.mono fun e w' h => ?_
    obtain ⟨x, g', rfl, h3, h4, h5⟩ := h
    exact hk x w' g' h3 h4 h5
theorem step1_loud {o : Oper} {st : St} (h : isCall o = false) : step1 E cf tm o st = loud E tm o st := by
  obtain ⟨dst, op, type, pos, after, guard⟩ := o
  cases op <;> try rfl
  rename_i c
  obtain ⟨callee, args, ats⟩ := c
  cases callee <;> first | rfl | cases h
theorem find_arr (ms : Array Method) (name : String) : ms.find? (·.name == name) = ms.toList.find? (·.name == name) := by
  simp
theorem method_sound (ok : E.Ok) {t : TypeId} {v u : V} {x : Value} {name : String} {f : FuncId} (h : methodI E t v name = some (f, u)) (hx : VR g v x) (w : World) :
    ∃ y, (method (E.P.types.size + Made.depth) t x name).run E.P w = .ok (f, y) w ∧ VR g u y := by
  unfold methodI at h
  split at h
  case h_2 => cases h
  rename_i m hm
  obtain ⟨i, hi, hfm⟩ := Option.bind_eq_some_iff.1 hm
  obtain ⟨ti, k1, k2, k3, k4, k5, k6⟩ := ok.ty _ _ hi
  have hmm : ti.methods.find? (·.name == name) = some m := by rw [find_arr, k6]; exact hfm
  have hd : E.P.types.size + Made.depth = (E.P.types.size + 99) + 1 := rfl
  have fin : ∀ {xt : TypeId} {u' : V} {y : Value} {pr : Bool}, m.func = some (f, pr) → VR g u' y → (follow m.path.toList t (.val x)).run E.P w = .ok (xt, .val y) w →
      (match under E xt, pr with
        | some (.pointer _), true => some (f, u')
        | some (.pointer _), false => none
        | some _, false => some (f, u')
        | _, _ => none) = some (f, u) → ∃ y, (method (E.P.types.size + Made.depth) t x name).run E.P w = .ok (f, y) w ∧ VR g u y := by
    intro xt u' y pr hfn hy hfo hh
    rw [hd]
    split at hh
    · rename_i e h1
      cases hh
      refine ⟨y, ?_, hy⟩
      unfold method
      simp only [Sem.run_bind, run_info k1, Result.andThen_ok, hmm, hfo, hfn, receiverAt, run_under (under_some ok h1), Place.get, Sem.run_pure]
    · cases hh
    · rename_i d hnp h1
      cases hh
      refine ⟨y, ?_, hy⟩
      have hu := under_some ok h1
      unfold method
      simp only [Sem.run_bind, run_info k1, Result.andThen_ok, hmm, hfo, hfn, receiverAt, run_under hu]
      cases d <;> first
        | (simp only [Place.get, Sem.run_pure, Result.andThen_ok]; done)
        | (simp only [Place.get, Sem.run_pure, Result.andThen_ok]; rfl)
        | exact (hnp _ rfl).elim
    · cases hh
  dsimp only at h
  split at h
  · rename_i xt u' f' pr hxe hfn
    have hff : f' = f := by
      split at h <;> cases h <;> rfl
    subst hff
    split at hxe
    · rename_i hp
      cases hxe
      exact fin hfn hx (by rw [hp]; rfl) h
    · rename_i s cs hp
      split at hxe
      · rename_i fs h1 h2
        split at hxe
        · rename_i fl h3
          obtain ⟨q, h4, h5⟩ := Option.map_eq_some_iff.1 hxe
          cases h5
          cases hx with | agg _ xs hxs =>
          obtain ⟨y, hy, hvy⟩ := part_sound ok h4 hxs w
          rw [nth_eq] at h3
          have h3' : fs[s.index]? = some fl := by rw [← Array.getElem?_toList]; exact h3
          refine fin hfn hvy ?_ h
          rw [hp]
          simp [follow, run_under (under_some ok h2), h3', h1, hy]
        · cases hxe
      · cases hxe
    · cases hxe
  · cases h
theorem step1_call (ok : E.Ok2) (cfok : CallOk E w0 cf) (hf : FRel g tm a) (hi : Inv g st w0 w) {o : Oper} {v : V} (hc : isCall o = true) (h : step1 E cf tm o st = some (v, st')) :
    ∃ s : Sem Next, (execOp a.eval o).run E.P w = s.run E.P w ∧ Comes1 E g st st' w0 w s v := by
  obtain ⟨dst, op, type, pos, after, guard⟩ := o
  cases op <;> try (cases hc; done)
  rename_i c
  obtain ⟨callee, args, ats⟩ := c
  cases callee with
  | builtin b => cases hc
  | value f =>
    simp only [step1] at h
    split at h
    · rename_i fid cap as h1 h2
      have e1 := ev_VR hi.glob hf h1
      have e2 := evs_arr hi.glob hf h2
      generalize hv1 : a.eval f = v1 at e1
      cases e1 with | func _ _ cs' h3 =>
      refine ⟨callFunc fid (args.map a.eval ++ cs'.toArray), ?_, cfok _ _ _ _ _ _ _ _ h ?_ hi⟩
      · simp [execOp, resolve, hv1, Deferred.ofValue, invoke]
      · simpa using e2.app h3
    · cases h
  | invoke r name =>
    simp only [step1] at h
    split at h
    · rename_i t u as h1 h2
      have e1 := ev_VR hi.glob hf h1
      have e2 := evs_arr hi.glob hf h2
      generalize hv1 : a.eval r = v1 at e1
      cases e1 with | iface _ _ x h3 =>
      split at h
      · rename_i fid q hm
        obtain ⟨y, hy, hvy⟩ := method_sound ok.ok hm h3 w
        refine ⟨callFunc fid (#[y] ++ args.map a.eval), ?_, cfok _ _ _ _ _ _ _ _ h ?_ hi⟩
        · have hex : (#[Value.iface t x] ++ args.map a.eval).extract 1 (#[Value.iface t x] ++ args.map a.eval).size = args.map a.eval := by
            apply Array.ext'
            simp [List.extract_eq_take_drop]
            rw [List.take_of_length_le (by simp)]
          simp only [execOp, resolve, hv1, Sem.run_bind, Sem.run_pure, Result.andThen_ok, invoke]
          rw [show (#[Value.iface t x] ++ args.map a.eval)[0]? = some (.iface t x) by rw [Array.getElem?_append_left (by simp)]; rfl]
          simp only [hex, callMethod, Sem.run_bind, run_program, Result.andThen_ok, hy]
        · simpa using VRs.cons _ _ _ _ hvy e2
      · cases h
    · cases h
theorem wantI_sound {ops : Array Oper} {o : Oper} {b : Bool} (h : wantI ops.toList tm o = some b) (hg : ∀ j want d, o.guard = some (j, want) → (ops[j]?).bind (·.dst) = some d → VR g (tm.t.get und d) (a.tmps.getD d undef)) :
    Region.wanted o (yielded ops a.tmps) = b := by
  unfold wantI at h
  unfold Region.wanted
  split at h
  · rename_i hgd
    cases h
    rw [hgd]
  · rename_i j want hgd
    rw [hgd]
    simp only
    rw [nth_eq, Array.getElem?_toList] at h
    split at h
    · rename_i hd
      cases h
      simp [yielded, hd]
    · rename_i d hd
      have hv := hg j want d hgd hd
      have hy : yielded ops a.tmps j = (match a.tmps.getD d undef with | .bool b => some b | _ => none) := by
        unfold yielded
        rw [hd]
        simp only [Option.bind_some]
        rw [Array.getD_eq_getD_getElem?]
        cases a.tmps[d]? with
        | none => rfl
        | some y => cases y <;> rfl
      rw [hy]
      generalize a.tmps.getD d undef = y at hv
      split at h
      · rename_i b' hb
        rw [hb] at hv
        cases h
        cases hv
        cases b' <;> cases want <;> rfl
      · cases h
      · rename_i h1 h2
        cases h
        generalize tm.t.get und d = q at *
        cases hv <;> first
          | rfl
          | exact absurd rfl h2
          | exact absurd rfl (h1 _)
          | exact (h1 _ rfl).elim
          | exact (h2 rfl).elim
theorem step1_wp (ok : E.Ok2) (cfok : CallOk E w0 cf) (hf : FRel g tm a) (hi : Inv g st w0 w) {o : Oper} {v : V} (h : step1 E cf tm o st = some (v, st')) {next : Act → World → Prop}
    (hk : ∀ x w' g', VR g' v x → Inv g' st' w0 w' → Aft g g' st st' → next (a.put o.dst x) w') : o.wp E.P a w next Q := by
  cases hc : isCall o
  · rw [step1_loud hc] at h
    have d := loud_sound ok.ok hi.glob hf hi.rel (hi.fresh _ (Nat.le_refl _)) h
    obtain ⟨x, w', g', h1, h2, h3, h4⟩ := d.inv hi
    unfold Oper.wp
    rcases h1 with h1 | ⟨h1, rfl⟩
    · rw [h1]; exact hk x w' g' h2 h3 h4
    · rw [h1]; exact hk undef w' g' h2 h3 h4
  · obtain ⟨s, h1, h2⟩ := step1_call ok cfok hf hi hc h
    exact upon_comes h1 h2 hk
theorem opsI_sound (ok : E.Ok2) (cfok : CallOk E w0 cf) {ops : Array Oper} : ∀ (l : List Oper) (k : Nat) (tm : Fr) (st : St) (g : Gh) (a : Act) (w : World), ops.toList.drop k = l → opsI E cf ops.toList l tm st = some (tm', st') → FRel g tm a → Inv g st w0 w → a.defers = [] →
    (∀ g' a' w', FRel g' tm' a' → Inv g' st' w0 w' → Aft g g' st st' → a'.defers = [] → Q .normal a' w') → wpOps E.P ops Q (List.range' k l.length) a w
  | [], k, tm, st, g, a, w, hl, h, hf, hi, hd, hq => by
    cases h
    exact hq g a w hf hi (.refl _ _) hd
  | o :: l, k, tm, st, g, a, w, hl, h, hf, hi, hd, hq => by
    have hk : ops[k]? = some o := by
      rw [← Array.getElem?_toList, ← List.head?_drop, hl]; rfl
    have hl' : ops.toList.drop (k + 1) = l := by
      rw [← List.tail_drop, hl]; rfl
    rw [List.length_cons, List.range'_succ, wpOps_cons]
    unfold wpOp
    rw [hk]
    simp only
    unfold opsI at h
    have hput : ∀ x, (a.put o.dst x).defers = [] := fun x => by cases hdst : o.dst <;> simp [Act.put, hd]
    have hw : ∀ b, wantI ops.toList tm o = some b → Region.wanted o (yielded ops a.tmps) = b := fun b hb => wantI_sound hb fun j want d _ _ => hf.get d
    split at h
    · rename_i hwant
      rw [if_pos (hw _ hwant)]
      left
      split at h
      · rename_i v st1 hs
        split at h
        · rename_i tm1 hp
          refine step1_wp ok cfok hf hi hs fun x w' g' h1 h2 h3 => ?_
          exact opsI_sound ok cfok l (k + 1) tm1 st1 g' _ w' hl' h (FRel.put (hf.mono h3.le) hp h1) h2 (hput x) fun g2 a2 w2 k1 k2 k3 k4 => hq g2 a2 w2 k1 k2 (h3.trans k3) k4
        · cases h
      · cases h
    · rename_i hwant
      rw [if_neg (by rw [hw _ hwant]; simp)]
      split at h
      · rename_i tm1 hp
        exact opsI_sound ok cfok l (k + 1) tm1 st g _ w hl' h (FRel.put hf hp (und_VR g)) hi (hput undef) hq
      · cases h
    · cases h
end
end Go.Ri

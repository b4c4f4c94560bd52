/-
  The quiet operations of the interpreter yield what the machine yields, if what the tables say of the program is so.
-/
import Derived.Test.YtjkeiifddmdodaaGreatDoorRa
import Derived.Calls
import Derived.Orders
import Derived.Laws.Sem
import Derived.Laws.Cells
import Derived.Laws.IdiomCopy
import Derived.Laws.Strings
import Derived.Laws.Strings2
import Derived.Laws.StructEq
set_option linter.unusedVariables false
set_option linter.unusedSimpArgs false
namespace Go.Ri

/-! ### Trees -/
section trees
variable {α : Type}
theorem bool_rec {β : Type} (a b : β) (c : Bool) : Bool.rec (motive := fun _ => β) a b c = if c = true then b else a := by cases c <;> rfl
@[simp] theorem TT.get_e (d : α) (k : Nat) : (TT.e : TT α).get d k = d := rfl
theorem TT.get_n (d : α) (l : TT α) (v : α) (r : TT α) (k : Nat) :
    (TT.n l v r).get d k = if k = 0 then v else if k % 2 = 1 then l.get d (k / 2) else r.get d (k / 2 - 1) := by
  change Bool.rec (motive := fun _ => _) _ _ _ = _
  rw [bool_rec, bool_rec]
  simp only [Nat.beq_eq, TT.get]
  rfl
@[simp] theorem TT.set_e (o : α) (k : Nat) : (TT.e : TT α).set o k = .e := rfl
theorem TT.set_n (o : α) (l : TT α) (v : α) (r : TT α) (k : Nat) :
    (TT.n l v r).set o k = if k = 0 then .n l o r else if k % 2 = 1 then .n (l.set o (k / 2)) v r else .n l v (r.set o (k / 2 - 1)) := by
  change Bool.rec (motive := fun _ => _) _ _ _ = _
  rw [bool_rec, bool_rec]
  simp only [Nat.beq_eq, TT.set]
  rfl
theorem TT.get_set_ne (d o : α) : ∀ (t : TT α) (k j : Nat), j ≠ k → (t.set o k).get d j = t.get d j
  | .e, k, j, _ => rfl
  | .n l v r, k, j, h => by
    rw [TT.set_n]
    split
    · rename_i hk
      subst hk
      rw [TT.get_n, TT.get_n, if_neg h, if_neg h]
    · split
      · rename_i h0 h1
        rw [TT.get_n, TT.get_n]
        split
        · rfl
        · split
          · exact TT.get_set_ne d o l _ _ (by omega)
          · rfl
      · rename_i h0 h1
        rw [TT.get_n, TT.get_n]
        split
        · rfl
        · split
          · rfl
          · exact TT.get_set_ne d o r _ _ (by omega)
theorem TT.get_set_self (d o : α) : ∀ (t : TT α) (k : Nat), (t.set o k).get d k = o ∨ (t.set o k).get d k = d
  | .e, k => .inr rfl
  | .n l v r, k => by
    rw [TT.set_n]
    split
    · rename_i hk; subst hk; left; rw [TT.get_n, if_pos rfl]
    · split
      · rename_i h0 h1; rw [TT.get_n, if_neg h0, if_pos h1]; exact TT.get_set_self d o l _
      · rename_i h0 h1; rw [TT.get_n, if_neg h0, if_neg h1]; exact TT.get_set_self d o r _
/-- Whole down to a depth. -/
def TT.whole : Nat → TT α → Prop
  | 0, _ => True
  | _ + 1, .e => False
  | m + 1, .n l _ r => l.whole m ∧ r.whole m
theorem TT.whole_set (o : α) : ∀ (n : Nat) (t : TT α) (k : Nat), t.whole n → (t.set o k).whole n
  | 0, _, _, _ => trivial
  | m + 1, .n l v r, k, ⟨h1, h2⟩ => by
    rw [TT.set_n]
    split
    · exact ⟨h1, h2⟩
    · split
      · exact ⟨TT.whole_set o m l _ h1, h2⟩
      · exact ⟨h1, TT.whole_set o m r _ h2⟩
theorem TT.whole_full (v : α) : ∀ n, (TT.full v n).whole n
  | 0 => trivial
  | m + 1 => ⟨TT.whole_full v m, TT.whole_full v m⟩
theorem TT.get_set_eq (d o : α) : ∀ (n : Nat) (t : TT α) (k : Nat), t.whole n → k + 1 < 2 ^ n → (t.set o k).get d k = o
  | 0, _, k, _, h => by simp at h
  | m + 1, .n l v r, k, ⟨h1, h2⟩, h => by
    rw [TT.set_n]
    split
    · rename_i hk; subst hk; rw [TT.get_n, if_pos rfl]
    · split
      · rename_i h3 h4; rw [TT.get_n, if_neg h3, if_pos h4]; exact TT.get_set_eq d o m l _ h1 (by rw [Nat.pow_succ] at h; omega)
      · rename_i h3 h4; rw [TT.get_n, if_neg h3, if_neg h4]; exact TT.get_set_eq d o m r _ h2 (by rw [Nat.pow_succ] at h; omega)
theorem TT.get_full (v : α) : ∀ (n k : Nat), (TT.full v n).get v k = v
  | 0, _ => rfl
  | m + 1, k => by
    rw [TT.full, TT.get_n]
    split
    · rfl
    · split <;> exact TT.get_full v m _
end trees

/-! ### Lists -/
section lists
variable {α : Type}
theorem nth_eq : ∀ (l : List α) (k : Nat), nth l k = l[k]?
  | [], k => rfl
  | a :: l, k => by
    change Bool.rec (motive := fun _ => _) _ _ _ = _
    rw [bool_rec]
    cases k with
    | zero => rfl
    | succ k => rw [List.getElem?_cons_succ, ← nth_eq l k]; rfl
theorem dropN_some : ∀ {l : List α} {k : Nat} {r : List α}, dropN l k = some r → k ≤ l.length ∧ r = l.drop k
  | [], k, r, h => by
    change Bool.rec (motive := fun _ => _) _ _ _ = _ at h
    rw [bool_rec] at h
    cases k with
    | zero => simp at h; simp [h]
    | succ k => simp at h
  | a :: l, k, r, h => by
    change Bool.rec (motive := fun _ => _) _ _ _ = _ at h
    rw [bool_rec] at h
    cases k with
    | zero => simp at h; simp [h]
    | succ k =>
      simp only [Nat.beq_eq, Nat.add_one_ne_zero, if_false] at h
      have := dropN_some (l := l) (k := k) h
      simp [this.1, this.2]
theorem takeN_some : ∀ {l : List α} {k : Nat} {r : List α}, takeN l k = some r → k ≤ l.length ∧ r = l.take k
  | [], k, r, h => by
    change Bool.rec (motive := fun _ => _) _ _ _ = _ at h
    rw [bool_rec] at h
    cases k with
    | zero => simp at h; simp [h]
    | succ k => simp at h
  | a :: l, k, r, h => by
    change Bool.rec (motive := fun _ => _) _ _ _ = _ at h
    rw [bool_rec] at h
    cases k with
    | zero => simp at h; simp [h]
    | succ k =>
      simp only [Nat.beq_eq, Nat.add_one_ne_zero, if_false] at h
      change Option.rec (motive := fun _ => _) _ _ (takeN l k) = _ at h
      cases h1 : takeN l k with
      | none => rw [h1] at h; cases h
      | some x =>
        rw [h1] at h
        have := takeN_some h1
        cases h
        simp [this.1, this.2]
theorem overH_some : ∀ {ws l r : List α}, overH ws l = some r → ws.length ≤ l.length ∧ r = ws ++ l.drop ws.length
  | [], l, r, h => by cases h; simp
  | w :: ws, [], r, h => by cases h
  | w :: ws, x :: l, r, h => by
    change Option.rec (motive := fun _ => _) _ _ (overH ws l) = _ at h
    cases h1 : overH ws l with
    | none => rw [h1] at h; cases h
    | some y =>
      rw [h1] at h
      have := overH_some h1
      cases h
      simp [this.1, this.2]
theorem overN_some : ∀ {ws l r : List α} {k : Nat}, overN ws l k = some r → k + ws.length ≤ l.length ∧ r = l.take k ++ ws ++ l.drop (k + ws.length)
  | ws, [], r, k, h => by
    change Bool.rec (motive := fun _ => _) _ _ _ = _ at h
    rw [bool_rec] at h
    cases k with
    | zero => have := overH_some (by simpa using h); simp at this; simp [this]
    | succ k => simp at h
  | ws, x :: l, r, k, h => by
    change Bool.rec (motive := fun _ => _) _ _ _ = _ at h
    rw [bool_rec] at h
    cases k with
    | zero => have := overH_some (by simpa using h); simp at this ⊢; exact ⟨this.1, this.2⟩
    | succ k =>
      simp only [Nat.beq_eq, Nat.add_one_ne_zero, if_false] at h
      change Option.rec (motive := fun _ => _) _ _ (overN ws l k) = _ at h
      cases h1 : overN ws l k with
      | none => rw [h1] at h; cases h
      | some y =>
        rw [h1] at h
        have := overN_some h1
        cases h
        refine ⟨by simp; omega, ?_⟩
        rw [this.2, show k + 1 + ws.length = (k + ws.length) + 1 by omega]
        simp
theorem lenN_aux : ∀ (l : List α) (n : Nat), List.rec (motive := fun _ => Nat → Nat) (fun n => n) (fun _ _ g n => g (Nat.succ n)) l n = n + l.length
  | [], n => rfl
  | a :: l, n => by
    change List.rec (motive := fun _ => Nat → Nat) (fun n => n) (fun _ _ g n => g (Nat.succ n)) l (Nat.succ n) = _
    rw [lenN_aux l]
    simp; omega
@[simp] theorem lenN_eq (l : List α) : lenN l = l.length := by rw [lenN, lenN_aux]; simp
theorem eqL_eq : ∀ (x y : List Nat), eqL x y = (x == y)
  | [], [] => rfl
  | [], _ :: _ => rfl
  | _ :: _, [] => rfl
  | a :: x, b :: y => by
    change Bool.rec (motive := fun _ => _) _ _ _ = _
    rw [bool_rec]
    have ih := eqL_eq x y
    change (if _ then eqL x y else false) = _
    rw [ih]
    by_cases h : a = b
    · subst h; simp
    · have : Nat.beq a b = false := by cases hb : Nat.beq a b with
        | false => rfl
        | true => exact absurd (Nat.eq_of_beq_eq_true hb) h
      simp [this, h]
end lists

/-! ### Ghosts: where a named block lies: its block, where in it the named cells begin, how many cells it has -/
abbrev Gh := Nat → Option (Nat × Nat × Nat)
def adr (g : Gh) (p : Nat × Nat) : Option Addr :=
  match g p.1 with
  | some (b, o, _) => some ⟨b, o + p.2, none⟩
  | none => none

mutual
inductive VR (g : Gh) : V → Value → Prop
  | hole (x : Value) : VR g .hole x
  | bool (b : Bool) : VR g (.bool b) (.bool b)
  | int (k : IntKind) (n : Int) : VR g (.int k n) (.int k n)
  | str (s : ByteArray) : VR g (.str (enc s)) (.string s)
  | ptr0 : VR g (.ptr none) (.pointer none)
  | ptr (p : Nat × Nat) (a : Addr) : adr g p = some a → VR g (.ptr (some p)) (.pointer (some a))
  | sl0 (sz : Nat) : VR g (.slice none 0 0 sz true) (.slice none 0 0)
  | sl (r o b off top len cap sz c : Nat) (ex : Bool) : g r = some (b, off, top) → cap ≤ c → (ex = true → c = cap) → len ≤ cap → off + o + c * sz ≤ top →
      VR g (.slice (some (r, o)) len cap sz ex) (.slice (some ⟨b, off + o, none⟩) len c)
  | empt (a : Addr) (c : Nat) : VR g .empt (.slice (some a) 0 c)
  | map0 : VR g (.map none) (.map none)
  | map (r b top : Nat) : g r = some (b, 0, top) → VR g (.map (some r)) (.map (some b))
  | func (f : Nat) (cs : List V) (cs' : List Value) : VRs g cs cs' → VR g (.func f cs) (.func (.func f) #[] cs'.toArray)
  | nilFunc : VR g .nilFunc .nilFunc
  | iface (t : TypeId) (v : V) (x : Value) : VR g v x → VR g (.iface t v) (.iface t x)
  | nilIface : VR g .nilIface .nilIface
  | agg (cs : List V) (cs' : List Value) : VRs g cs cs' → VR g (.agg cs) (.agg cs'.toArray)
  | tuple (cs : List V) (cs' : List Value) : VRs g cs cs' → VR g (.tuple cs) (.tuple cs'.toArray)
inductive VRs (g : Gh) : List V → List Value → Prop
  | nil : VRs g [] []
  | cons (v : V) (x : Value) (vs : List V) (xs : List Value) : VR g v x → VRs g vs xs → VRs g (v :: vs) (x :: xs)
end

def Gh.le (g g' : Gh) : Prop := ∀ r x, g r = some x → g' r = some x
theorem Gh.le_refl (g : Gh) : g.le g := fun _ _ h => h
theorem Gh.le_trans {a b c : Gh} (h : a.le b) (h' : b.le c) : a.le c := fun r x hx => h' r x (h r x hx)
theorem adr_mono {g g' : Gh} (h : g.le g') {p : Nat × Nat} {a : Addr} (ha : adr g p = some a) : adr g' p = some a := by
  unfold adr at *
  cases hg : g p.1 with
  | none => rw [hg] at ha; cases ha
  | some x => rw [hg] at ha; rw [h _ _ hg]; exact ha
mutual
theorem VR.mono {g g' : Gh} (h : g.le g') : ∀ {v x}, VR g v x → VR g' v x
  | _, _, .hole x => .hole x
  | _, _, .bool b => .bool b
  | _, _, .int k n => .int k n
  | _, _, .str s => .str s
  | _, _, .ptr0 => .ptr0
  | _, _, .ptr p a ha => .ptr p a (adr_mono h ha)
  | _, _, .sl0 sz => .sl0 sz
  | _, _, .sl r o b off top len cap sz c ex h1 h2 h3 h4 h5 => .sl r o b off top len cap sz c ex (h _ _ h1) h2 h3 h4 h5
  | _, _, .empt a c => .empt a c
  | _, _, .map0 => .map0
  | _, _, .map r b top h1 => .map r b top (h _ _ h1)
  | _, _, .func f cs cs' h1 => .func f cs cs' (VRs.mono h h1)
  | _, _, .nilFunc => .nilFunc
  | _, _, .iface t v x h1 => .iface t v x (VR.mono h h1)
  | _, _, .nilIface => .nilIface
  | _, _, .agg cs cs' h1 => .agg cs cs' (VRs.mono h h1)
  | _, _, .tuple cs cs' h1 => .tuple cs cs' (VRs.mono h h1)
theorem VRs.mono {g g' : Gh} (h : g.le g') : ∀ {vs xs}, VRs g vs xs → VRs g' vs xs
  | _, _, .nil => .nil
  | _, _, .cons v x vs xs h1 h2 => .cons v x vs xs (VR.mono h h1) (VRs.mono h h2)
end
theorem VRs.len {g : Gh} : ∀ {vs xs}, VRs g vs xs → vs.length = xs.length
  | _, _, .nil => rfl
  | _, _, .cons _ _ _ _ _ h => by simp [VRs.len h]
theorem VRs.get {g : Gh} : ∀ {vs : List V} {xs : List Value}, VRs g vs xs → ∀ {i : Nat} {v : V}, vs[i]? = some v → ∃ x, xs[i]? = some x ∧ VR g v x
  | _, _, .nil, i, v, h => by simp at h
  | _, _, .cons v x vs xs h1 h2, 0, u, h => by simp at h; subst h; exact ⟨x, rfl, h1⟩
  | _, _, .cons v x vs xs h1 h2, i + 1, u, h => by simpa using VRs.get h2 (by simpa using h)
theorem VRs.of_get {g : Gh} : ∀ {vs : List V} {xs : List Value}, vs.length = xs.length → (∀ (i : Nat) (v : V), vs[i]? = some v → ∃ x, xs[i]? = some x ∧ VR g v x) → VRs g vs xs
  | [], [], _, _ => .nil
  | v :: vs, x :: xs, hl, h => by
    obtain ⟨y, h1, h2⟩ := h 0 v rfl
    simp at h1
    subst h1
    exact .cons _ _ _ _ h2 (VRs.of_get (by simpa using hl) (fun i u hu => by simpa using h (i + 1) u (by simpa using hu)))
theorem VRs.app {g : Gh} : ∀ {vs xs vs' xs'}, VRs g vs xs → VRs g vs' xs' → VRs g (vs ++ vs') (xs ++ xs')
  | _, _, _, _, .nil, h => h
  | _, _, _, _, .cons _ _ _ _ h1 h2, h => .cons _ _ _ _ h1 (VRs.app h2 h)

def PRs (g : Gh) : List (V × V) → List MapEntry → Prop
  | [], [] => True
  | (k, v) :: l, e :: r => VR g k e.key ∧ VR g v e.val ∧ PRs g l r
  | _, _ => False
theorem PRs.mono {g g' : Gh} (h : g.le g') : ∀ {l r}, PRs g l r → PRs g' l r
  | [], [], _ => trivial
  | (k, v) :: l, e :: r, ⟨h1, h2, h3⟩ => ⟨h1.mono h, h2.mono h, PRs.mono h h3⟩

/-- What is told of a block. -/
inductive OR (g : Gh) : O → Obj → Nat → Nat → Prop
  | cells (vs : List V) (c : Array Value) (e : TypeId) (ex fz : Bool) (off : Nat) (rng : Nat × Nat) :
      off + vs.length ≤ c.size → (ex = true → off = 0 ∧ c.size = vs.length) →
      (∀ i v, vs[i]? = some v → ∃ x, c[off + i]? = some x ∧ VR g v x) →
      (fz = false → ∀ i, i < c.size → ¬ (rng.1 ≤ i ∧ i < rng.2)) → OR g (.cells vs e ex fz) (.cells c e rng) off c.size
  | map (es : List (V × V)) (en : Array MapEntry) (clock top : Nat) : PRs g es en.toList → OR g (.map es) (.map en clock) 0 top
  | iter (m b top since last top' : Nat) : g m = some (b, 0, top) → OR g (.iter m) (.mapIter (some b) since #[] last) 0 top'
theorem OR.mono {g g' : Gh} (h : g.le g') {o x a b} (ho : OR g o x a b) : OR g' o x a b := by
  cases ho with
  | cells vs c e ex fz off rng h1 h2 h3 h4 => exact .cells vs c e ex fz _ rng h1 h2 (fun i v hv => let ⟨x, hx, hr⟩ := h3 i v hv; ⟨x, hx, hr.mono h⟩) h4
  | map es en clock _ h1 => exact .map es en clock _ (h1.mono h)
  | iter m b top since last _ h1 => exact .iter m b top since last _ (h _ _ h1)

/-- The state and the machine's memory: 'w0' is the memory at the beginning, of which nothing has turned. -/
structure Rel (g : Gh) (st : St) (w0 w : World) : Prop where
  live : ∀ r o, st.get r = some o → ∃ b off top x, g r = some (b, off, top) ∧ w.heap[b]? = some x ∧ OR g o x off top
  inj : ∀ r r' o o' b x y, st.get r = some o → st.get r' = some o' → g r = some (b, x) → g r' = some (b, y) → r = r'
  own : ∀ r o b x, st.get r = some o → g r = some (b, x) → w0.heap.size ≤ b ∨ ∃ vs e ex, o = .cells vs e ex true
  bnd : ∀ r b x, g r = some (b, x) → b < w.heap.size
  size : w0.heap.size ≤ w.heap.size
  kept : ∀ b, b < w0.heap.size → w.heap[b]? = w0.heap[b]?
  os : w.os = w0.os
  out : w.output = w0.output
  tp : w.tape = w0.tape
theorem Rel.drew {g : Gh} {st : St} {w0 w : World} (hr : Rel g st w0 w) (n : Nat) : Rel g st w0 { w with drawn := n } := ⟨hr.live, hr.inj, hr.own, hr.bnd, hr.size, hr.kept, hr.os, hr.out, hr.tp⟩

end Go.Ri
set_option linter.unusedVariables false
set_option linter.unusedSimpArgs false
namespace Go.Ri

/-- What is known of the program is so. -/
structure Env.Ok (E : Env) : Prop where
  ty : ∀ t i, E.t t = some i → ∃ ti : TypeInfo, E.P.info? t = some ti ∧ E.P.underlying t = some i.d ∧ ti.size = i.sz ∧ ti.bytes = i.by_ ∧ ti.zero.bind ofConst = i.z ∧ ti.methods.toList = i.ms
  gl : E.P.globals.size < 10
  fld : ∀ t i fs, E.t t = some i → i.d = .struct fs → ∀ f ∈ fs.toList, ∃ ti, E.P.info? f.type = some ti
  zc : ∀ t i z, E.t t = some i → i.z = some z → z.cells.length = i.sz

/-- The program's own variables, and the types' handles, lie where they lie. -/
def Glob (g : Gh) : Prop := ∀ n, n < 10 → ∃ top, g n = some (n, 0, top)
theorem Glob.mono {g g' : Gh} (h : g.le g') (hg : Glob g) : Glob g' := fun n hn => let ⟨t, ht⟩ := hg n hn; ⟨t, h _ _ ht⟩

structure FRel (g : Gh) (tm : Fr) (a : Act) : Prop where
  n : a.tmps.size = tm.n
  lt : tm.n < 255
  wh : tm.t.whole 8
  get : ∀ k, VR g (tm.t.get und k) (a.tmps.getD k undef)
theorem FRel.mono {g g' : Gh} (h : g.le g') {tm a} (hf : FRel g tm a) : FRel g' tm a := ⟨hf.n, hf.lt, hf.wh, fun k => (hf.get k).mono h⟩

theorem und_VR (g : Gh) : VR g und undef := .tuple [] [] .nil
theorem FRel.put {g : Gh} {tm tm' : Fr} {a : Act} {d : Option Tmp} {v : V} {x : Value} (hf : FRel g tm a) (h : putT tm d v = some tm') (hv : VR g v x) : FRel g tm' (a.put d x) := by
  cases d with
  | none => cases h; exact hf
  | some d =>
    obtain ⟨n, t⟩ := tm
    change Bool.rec (motive := fun _ => _) _ _ _ = _ at h
    rw [bool_rec] at h
    split at h
    · rename_i hd
      cases h
      have hd' : @LT.lt Nat _ d n := Nat.le_of_ble_eq_true hd
      refine ⟨by simpa [Act.put] using hf.n, hf.lt, TT.whole_set v 8 _ _ hf.wh, fun k => ?_⟩
      have hn := hf.n
      have hlt := hf.lt
      simp only at hn hlt
      by_cases hk : k = d
      · subst hk
        rw [TT.get_set_eq und v 8 t k hf.wh (by omega)]
        simpa [Act.put, hn, hd'] using hv
      · rw [TT.get_set_ne _ _ _ _ _ hk]
        have := hf.get k
        simpa [Act.put, Array.getElem?_setIfInBounds_ne (Ne.symm hk)] using this
    · cases h

theorem ofCell_VR (g : Gh) {c : Value} {v : V} (h : ofCell c = some v) : VR g v c := by
  unfold ofCell at h
  split at h <;> first
    | (cases h; constructor; done)
    | skip
  · split at h
    · rename_i f a b hab
      cases h
      obtain ⟨h1, h2⟩ := hab
      have e1 : a = #[] := Array.eq_empty_of_size_eq_zero h1
      have e2 : b = #[] := Array.eq_empty_of_size_eq_zero h2
      subst e1; subst e2
      exact .func f [] [] .nil
    · cases h
  · cases h
theorem ofCells_VR (g : Gh) : ∀ {cs : List Value} {vs : List V}, cs.mapM ofCell = some vs → VRs g vs cs
  | [], vs, h => by simp at h; subst h; exact .nil
  | c :: cs, vs, h => by
    simp only [List.mapM_cons, Option.bind_eq_bind, Option.pure_def, Option.bind_eq_some_iff] at h
    obtain ⟨v, h1, r, h2, h3⟩ := h
    cases h3
    exact .cons _ _ _ _ (ofCell_VR g h1) (ofCells_VR g h2)
theorem ofConst_VR (g : Gh) {c : Value} {v : V} (h : ofConst c = some v) : VR g v c := by
  unfold ofConst at h
  split at h
  · rename_i cs
    simp only [Option.map_eq_some_iff] at h
    obtain ⟨l, h1, rfl⟩ := h
    simpa using VR.agg l cs.toList (ofCells_VR g h1)
  · rename_i cs
    simp only [Option.map_eq_some_iff] at h
    obtain ⟨l, h1, rfl⟩ := h
    simpa using VR.tuple l cs.toList (ofCells_VR g h1)
  · simp only [Option.map_eq_some_iff] at h
    obtain ⟨l, h1, rfl⟩ := h
    exact .iface _ _ _ (ofCell_VR g h1)
  · exact ofCell_VR g h

theorem ev_VR {g : Gh} {tm : Fr} {a : Act} {x : Operand} {v : V} (hg : Glob g) (hf : FRel g tm a) (h : ev tm x = some v) : VR g v (a.eval x) := by
  cases x with
  | tmp t => cases h; exact hf.get t
  | const c => exact ofConst_VR g h
  | global G =>
    simp only [ev, cond_eq_ite] at h
    split at h
    · rename_i hG
      cases h
      obtain ⟨top, ht⟩ := hg G (Nat.le_of_ble_eq_true hG)
      exact .ptr _ _ (by simp [adr, ht])
    · cases h
  | func f => cases h; exact .func f [] [] .nil
theorem evs_VR {g : Gh} {tm : Fr} {a : Act} (hg : Glob g) (hf : FRel g tm a) : ∀ {l : List Operand} {vs : List V}, evs tm l = some vs → VRs g vs (l.map a.eval)
  | [], vs, h => by simp [evs] at h; subst h; exact .nil
  | x :: l, vs, h => by
    simp only [evs, List.mapM_cons, Option.bind_eq_bind, Option.pure_def, Option.bind_eq_some_iff] at h
    obtain ⟨v, h1, r, h2, h3⟩ := h
    cases h3
    exact .cons _ _ _ _ (ev_VR hg hf h1) (evs_VR hg hf h2)

/-! ### Memory that is read -/
section
variable {E : Env} {g : Gh} {st : St} {w0 w : World}
theorem addr_add (b o n : Nat) : (⟨b, o, none⟩ : Addr).add n = ⟨b, o + n, none⟩ := by unfold Addr.add; split <;> simp_all
theorem adr_some {p : Nat × Nat} {a : Addr} (h : adr g p = some a) : ∃ b off top, g p.1 = some (b, off, top) ∧ a = ⟨b, off + p.2, none⟩ := by
  unfold adr at h
  cases hg : g p.1 with
  | none => rw [hg] at h; cases h
  | some x =>
    obtain ⟨b, off, top⟩ := x
    rw [hg] at h
    cases h
    exact ⟨b, off, top, rfl, rfl⟩
theorem adr_plus {p : Nat × Nat} {a : Addr} (h : adr g p = some a) (n : Nat) : adr g (plus p n) = some (a.add n) := by
  obtain ⟨b, off, top, h1, rfl⟩ := adr_some h
  simp [adr, plus, h1, addr_add, Nat.add_assoc]
theorem rd_sound (hr : Rel g st w0 w) {p : Nat × Nat} {n : Nat} {vs : List V} {a : Addr} (h : st.rd p n = some vs) (ha : adr g p = some a) :
    ∃ xs : List Value, xs.length = n ∧ VRs g vs xs ∧ ∀ (j : Nat) x, xs[j]? = some x → w.cell? (a.add j) = some x := by
  obtain ⟨b, off, top, hg, rfl⟩ := adr_some ha
  unfold St.rd at h
  split at h
  · rename_i cs e ex fz hst
    obtain ⟨l, h1, h2⟩ := Option.bind_eq_some_iff.1 h
    obtain ⟨h3, rfl⟩ := dropN_some h1
    obtain ⟨h4, rfl⟩ := takeN_some h2
    obtain ⟨b', off', top', x, hg', hx, ho⟩ := hr.live _ _ hst
    rw [hg] at hg'
    cases hg'
    cases ho with
    | cells _ c _ _ _ _ rng k1 k2 k3 k4 =>
      refine ⟨(c.toList.drop (off + p.2)).take n, ?_, ?_, ?_⟩
      · simp at h4 ⊢; omega
      · refine VRs.of_get (by simp at h4 ⊢; omega) fun i v hv => ?_
        simp only [List.getElem?_take, List.getElem?_drop] at hv
        split at hv
        · rename_i hi
          obtain ⟨x, hx1, hx2⟩ := k3 _ _ hv
          refine ⟨x, ?_, hx2⟩
          simp only [List.getElem?_take, List.getElem?_drop, hi, if_true]
          rw [← hx1, Array.getElem?_toList, Nat.add_assoc]
        · cases hv
      · intro j x hj
        simp only [List.getElem?_take, List.getElem?_drop] at hj
        split at hj
        · rw [addr_add]
          simp only [World.cell?, hx, Option.isSome_none, Bool.false_eq_true, if_false]
          rw [← hj, Array.getElem?_toList]
        · cases hj
  · cases h
theorem rd1_sound (hr : Rel g st w0 w) {p : Nat × Nat} {v : V} {a : Addr} (h : st.rd1 p = some v) (ha : adr g p = some a) :
    ∃ x, VR g v x ∧ w.cell? a = some x := by
  obtain ⟨b, off, top, hg, rfl⟩ := adr_some ha
  unfold St.rd1 at h
  split at h
  · rename_i cs e ex fz hst
    rw [nth_eq] at h
    obtain ⟨b', off', top', x, hg', hx, ho⟩ := hr.live _ _ hst
    rw [hg] at hg'
    cases hg'
    cases ho with
    | cells _ c _ _ _ _ rng k1 k2 k3 k4 =>
      obtain ⟨y, hy1, hy2⟩ := k3 _ _ h
      exact ⟨y, hy2, by simp only [World.cell?, hx, Option.isSome_none, Bool.false_eq_true, if_false]; exact hy1⟩
  · cases h

theorem run_under {P : Program} {t : TypeId} {d : TypeDesc} (h : P.underlying t = some d) (w : World) : (underlying t).run P w = .ok d w := by
  simp [underlying, h]
theorem run_info {P : Program} {t : TypeId} {d : TypeInfo} (h : P.info? t = some d) (w : World) : (typeInfo t).run P w = .ok d w := by
  simp [typeInfo, h]
theorem run_isAgg {P : Program} {t : TypeId} {d : TypeDesc} (h : P.underlying t = some d) (w : World) : (isAgg t).run P w = .ok (agD d) w := by
  unfold isAgg agD
  simp only [Sem.run_bind, run_under h, Result.andThen_ok]
  cases d <;> rfl
theorem ldV_sound (ok : E.Ok) (hr : Rel g st w0 w) {t : TypeId} {p : Nat × Nat} {v : V} {a : Addr} (h : ldV E t p st = some v) (ha : adr g p = some a) :
    ∃ x, (loadVar t a).run E.P w = .ok x w ∧ VR g v x := by
  unfold ldV at h
  split at h
  · rename_i i hi
    obtain ⟨ti, k1, k2, k3, k4, k5, k6⟩ := ok.ty _ _ hi
    simp only [cond_eq_ite] at h
    split at h
    · rename_i hag
      obtain ⟨vs, h1, rfl⟩ := Option.map_eq_some_iff.1 h
      obtain ⟨xs, h2, h3, h4⟩ := rd_sound hr h1 ha
      refine ⟨.agg xs.toArray, ?_, .agg _ _ h3⟩
      have := run_loadCells_list (P := E.P) w a xs h4
      rw [h2] at this
      simp [loadVar, run_isAgg k2, hag, sizeOf, run_info k1, k3, this]
    · rename_i hag
      obtain ⟨x, h1, h2⟩ := rd1_sound hr h ha
      refine ⟨x, ?_, h1⟩
      simp [loadVar, run_isAgg k2, hag, h2]
  · cases h
theorem part_sound (ok : E.Ok) {t : TypeId} {cs : List V} {xs : List Value} {off : Nat} {v : V} (h : part E t cs off = some v) (hc : VRs g cs xs) (w : World) :
    ∃ x, (Go.part t xs.toArray off).run E.P w = .ok x w ∧ VR g v x := by
  unfold part at h
  split at h
  · rename_i i hi
    obtain ⟨ti, k1, k2, k3, k4, k5, k6⟩ := ok.ty _ _ hi
    simp only [cond_eq_ite] at h
    split at h
    · rename_i hag
      obtain ⟨vs, h1, rfl⟩ := Option.map_eq_some_iff.1 h
      obtain ⟨l, h2, h3⟩ := Option.bind_eq_some_iff.1 h1
      obtain ⟨h4, rfl⟩ := dropN_some h2
      obtain ⟨h5, rfl⟩ := takeN_some h3
      refine ⟨.agg ((xs.drop off).take i.sz).toArray, ?_, .agg _ _ (VRs.of_get (by have := hc.len; simp; omega) fun j v hv => ?_)⟩
      · simp [Go.part, run_isAgg k2, hag, sizeOf, run_info k1, k3, List.extract_eq_take_drop]
      · simp only [List.getElem?_take, List.getElem?_drop] at hv ⊢
        split at hv
        · rename_i hj; simp only [hj, if_true]; exact hc.get hv
        · cases hv
    · rename_i hag
      rw [nth_eq] at h
      obtain ⟨x, h1, h2⟩ := hc.get h
      refine ⟨x, ?_, h2⟩
      simp [Go.part, run_isAgg k2, hag, h1]
  · cases h
end
end Go.Ri
set_option linter.unusedVariables false
set_option linter.unusedSimpArgs false
namespace Go.Ri

/-! ### Numbers -/
theorem inR_i64 {n : Int} (h : inR .i64 n = true) : -9223372036854775808 ≤ n ∧ n < 9223372036854775808 := by
  cases n with
  | ofNat a => have : a < 9223372036854775808 := by simpa [inR] using h
               simp only [Int.ofNat_eq_natCast]; omega
  | negSucc a => have : a < 9223372036854775808 := by simpa [inR] using h
                 simp only [Int.negSucc_eq]; omega
theorem inR_i32 {n : Int} (h : inR .i32 n = true) : -2147483648 ≤ n ∧ n < 2147483648 := by
  cases n with
  | ofNat a => have : a < 2147483648 := by simpa [inR] using h
               simp only [Int.ofNat_eq_natCast]; omega
  | negSucc a => have : a < 2147483648 := by simpa [inR] using h
                 simp only [Int.negSucc_eq]; omega
theorem inR_u8 {n : Int} (h : inR .u8 n = true) : 0 ≤ n ∧ n < 256 := by
  cases n with
  | ofNat a => have : a < 256 := by simpa [inR] using h
               simp only [Int.ofNat_eq_natCast]; omega
  | negSucc a => cases h
theorem inR_u16 {n : Int} (h : inR .u16 n = true) : 0 ≤ n ∧ n < 65536 := by
  cases n with
  | ofNat a => have : a < 65536 := by simpa [inR] using h
               simp only [Int.ofNat_eq_natCast]; omega
  | negSucc a => cases h
theorem inR_u32 {n : Int} (h : inR .u32 n = true) : 0 ≤ n ∧ n < 4294967296 := by
  cases n with
  | ofNat a => have : a < 4294967296 := by simpa [inR] using h
               simp only [Int.ofNat_eq_natCast]; omega
  | negSucc a => cases h
theorem inR_u64 {n : Int} (h : inR .u64 n = true) : 0 ≤ n ∧ n < 18446744073709551616 := by
  cases n with
  | ofNat a => have : a < 18446744073709551616 := by simpa [inR] using h
               simp only [Int.ofNat_eq_natCast]; omega
  | negSucc a => cases h
theorem inR_wrap {k : IntKind} {n : Int} (h : inR k n = true) : k.wrap n = n := by
  cases k with
  | i8 => cases n <;> cases h
  | i16 => cases n <;> cases h
  | i32 => have := inR_i32 h; simp [IntKind.wrap, IntKind.bits, IntKind.signed]; split <;> omega
  | i64 => have := inR_i64 h; simp [IntKind.wrap, IntKind.bits, IntKind.signed]; split <;> omega
  | u8 => have := inR_u8 h; simp [IntKind.wrap, IntKind.bits, IntKind.signed]; omega
  | u16 => have := inR_u16 h; simp [IntKind.wrap, IntKind.bits, IntKind.signed]; omega
  | u32 => have := inR_u32 h; simp [IntKind.wrap, IntKind.bits, IntKind.signed]; omega
  | u64 => have := inR_u64 h; simp [IntKind.wrap, IntKind.bits, IntKind.signed]; omega
theorem wrI_VR (g : Gh) (k : IntKind) (n : Int) : VR g (wrI k n) (.int k (k.wrap n)) := by
  unfold wrI
  cases h : inR k n with
  | true => simp only [cond_true]; rw [inR_wrap h]; exact .int k n
  | false => exact .int k _
theorem wrI_eq (k : IntKind) (n : Int) : wrI k n = .int k (k.wrap n) := by
  unfold wrI
  cases h : inR k n with
  | true => simp only [cond_true]; rw [inR_wrap h]
  | false => rfl
theorem beqN (a b : Nat) : Nat.beq a b = decide (a = b) := by
  rw [Bool.eq_iff_iff]; simp
theorem bltN (a b : Nat) : Nat.blt a b = decide (a < b) := by
  rw [Bool.eq_iff_iff]; simp
theorem eqZ_eq (a b : Int) : eqZ a b = (a == b) := by
  rw [Bool.eq_iff_iff]
  cases a <;> cases b <;> simp [eqZ, beqN] <;> omega
theorem ltZ_eq (a b : Int) : ltZ a b = decide (a < b) := by
  rw [Bool.eq_iff_iff]
  cases a <;> cases b <;> simp [ltZ, bltN] <;> omega
theorem kBeq_eq {j k : IntKind} (h : kBeq j k = true) : j = k := by cases j <;> cases k <;> first | rfl | cases h

end Go.Ri
set_option linter.unusedVariables false
set_option linter.unusedSimpArgs false
namespace Go.Ri

/-! ### Texts -/
theorem enc_len (s : ByteArray) : (enc s).length = s.size := by simp [enc]
theorem enc_app (s t : ByteArray) : enc (s ++ t) = enc s ++ enc t := by simp [enc]
theorem map_toNat_inj : ∀ {x y : List UInt8}, x.map UInt8.toNat = y.map UInt8.toNat → x = y
  | [], [], _ => rfl
  | a :: x, b :: y, h => by
    simp only [List.map_cons, List.cons.injEq] at h
    rw [UInt8.toNat_inj.1 h.1, map_toNat_inj h.2]
theorem enc_inj {s t : ByteArray} (h : enc s = enc t) : s = t := by
  have := map_toNat_inj h
  cases s; cases t
  simp only [ByteArray.mk.injEq]
  exact Array.toList_inj.1 this
theorem enc_beq (s t : ByteArray) : eqL (enc s) (enc t) = (s.toList == t.toList) := by
  rw [eqL_eq, ByteArray.toList_eq, ByteArray.toList_eq, Bool.eq_iff_iff]
  simp only [beq_iff_eq]
  exact ⟨map_toNat_inj, fun h => by simp [enc, h]⟩
theorem lessI_map : ∀ (x y : List UInt8), lessI (x.map UInt8.toNat) (y.map UInt8.toNat) = Op.bytesLess x y
  | [], [] => rfl
  | [], _ :: _ => rfl
  | _ :: _, [] => rfl
  | a :: x, b :: y => by
    simp only [List.map_cons, lessI, Op.bytesLess, lessI_map x y, bltN, beqN]
    congr 1
    congr 1
    rw [Bool.eq_iff_iff]
    simp [UInt8.toNat_inj]
theorem lessI_enc (s t : ByteArray) : lessI (enc s) (enc t) = Op.bytesLess s.toList t.toList := by
  rw [ByteArray.toList_eq, ByteArray.toList_eq]; exact lessI_map _ _
theorem enc_extract (s : ByteArray) (l h : Nat) : enc (s.extract l h) = ((enc s).drop l).take (h - l) := by
  obtain ⟨⟨d⟩⟩ := s
  have := ByteArray.extract_mk d l h
  simp only [List.toArray] at this
  simp only [enc, this, List.map_take, List.map_drop]

section
variable {E : Env} {g : Gh}
theorem int_sound {op : BinOp} {t : TypeId} {ox oy : Operand} {k k' : IntKind} {a b : Int} {v : V} (h : binI E op t ox oy (.int k a) (.int k' b) = some v) (w : World) :
    ∃ z, (do eqGuard op t ox oy (.int k a) (.int k' b); binOp op t (.int k a) (.int k' b)).run E.P w = .ok z w ∧ VR g v z := by
  have hgd : (eqGuard op t ox oy (.int k a) (.int k' b)) = pure () := by unfold eqGuard; split <;> rfl
  rw [hgd]
  simp only [pure_bind]
  have hk : op = .shl ∨ op = .shr ∨ k = k' := by
    cases op <;> simp only [binI] at h <;> first
      | (left; rfl)
      | (right; left; rfl)
      | (right; right; cases hkk : kBeq k k' with
          | true => exact kBeq_eq hkk
          | false => rw [hkk] at h; simp at h)
  cases op <;> simp only [binI] at h
  case shl =>
    split at h
    · cases h
    · rename_i hb
      cases h
      exact ⟨_, by simp [binOp, Op.shift, hb], wrI_VR g k _⟩
  case shr =>
    split at h
    · cases h
    · rename_i hb
      cases h
      exact ⟨_, by simp [binOp, Op.shift, hb], .int k _⟩
  all_goals
    have hkk : k = k' := by simpa using hk
    subst hkk
    have hkb : kBeq k k = true := by cases k <;> rfl
    simp only [hkb, Bool.not_true, cond_false] at h
  case add => cases h; exact ⟨_, by simp [binOp, Op.intArith], wrI_VR g k _⟩
  case sub => cases h; exact ⟨_, by simp [binOp, Op.intArith], wrI_VR g k _⟩
  case mul => cases h; exact ⟨_, by simp [binOp, Op.intArith], wrI_VR g k _⟩
  case quo =>
    split at h
    · cases h
    · rename_i hb; cases h; exact ⟨_, by simp [binOp, Op.intDiv, hb], wrI_VR g k _⟩
  case rem =>
    split at h
    · cases h
    · rename_i hb; cases h; exact ⟨_, by simp [binOp, Op.intDiv, hb], .int k _⟩
  case and => cases h; exact ⟨_, by simp [binOp, Op.intBits], .int k _⟩
  case or => cases h; exact ⟨_, by simp [binOp, Op.intBits], .int k _⟩
  case xor => cases h; exact ⟨_, by simp [binOp, Op.intBits], .int k _⟩
  case andNot => cases h
  case eql => cases h; exact ⟨_, by simp [binOp, Op.intCmp]; rfl, by rw [eqZ_eq]; exact .bool _⟩
  case neq => cases h; exact ⟨_, by simp [binOp, Op.intCmp]; rfl, by rw [eqZ_eq]; exact .bool _⟩
  case lss => cases h; exact ⟨_, by simp [binOp, Op.intCmp]; rfl, by rw [ltZ_eq]; exact .bool _⟩
  case gtr => cases h; exact ⟨_, by simp [binOp, Op.intCmp]; rfl, by rw [ltZ_eq]; exact .bool _⟩
  case leq => cases h; exact ⟨_, by simp [binOp, Op.intCmp]; rfl, by rw [ltZ_eq, show (!decide (b < a)) = decide (a ≤ b) by rw [Bool.eq_iff_iff]; simp]; exact .bool _⟩
  case geq => cases h; exact ⟨_, by simp [binOp, Op.intCmp]; rfl, by rw [ltZ_eq, show (!decide (a < b)) = decide (b ≤ a) by rw [Bool.eq_iff_iff]; simp]; exact .bool _⟩
theorem str_sound {op : BinOp} {t : TypeId} {ox oy : Operand} {a b : ByteArray} {v : V} (h : binI E op t ox oy (.str (enc a)) (.str (enc b)) = some v) (w : World) :
    ∃ z, (do eqGuard op t ox oy (.string a) (.string b); binOp op t (.string a) (.string b)).run E.P w = .ok z w ∧ VR g v z := by
  have hgd : (eqGuard op t ox oy (.string a) (.string b)) = pure () := by unfold eqGuard; split <;> rfl
  rw [hgd]
  simp only [pure_bind]
  cases op <;> simp only [binI] at h <;> try (cases h; done)
  case add =>
    simp only [lenN_eq, enc_len, bltN, cond_eq_ite, decide_eq_true_eq] at h
    split at h
    · rename_i hl
      cases h
      refine ⟨.string (a ++ b), ?_, by rw [← enc_app]; exact .str _⟩
      have : ¬ (((a.size + b.size : Nat) : Int) > IntKind.i64.max) := by
        have : IntKind.i64.max = 9223372036854775807 := by decide
        omega
      simp [binOp, Op.stringOp] at this ⊢
      omega
    · cases h
  case eql => cases h; exact ⟨_, by simp [binOp, Op.stringOp]; rfl, by rw [enc_beq]; exact .bool _⟩
  case neq => cases h; exact ⟨_, by simp [binOp, Op.stringOp]; rfl, by rw [enc_beq]; exact .bool _⟩
  case lss => cases h; exact ⟨_, by simp [binOp, Op.stringOp]; rfl, by rw [lessI_enc]; exact .bool _⟩
  case leq => cases h; exact ⟨_, by simp [binOp, Op.stringOp]; rfl, by rw [lessI_enc, enc_beq]; exact .bool _⟩
  case gtr => cases h; exact ⟨.bool (!(Op.bytesLess a.toList b.toList || a.toList == b.toList)), by simp [binOp, Op.stringOp], by rw [lessI_enc, enc_beq]; exact .bool _⟩
  case geq => cases h; exact ⟨_, by simp [binOp, Op.stringOp]; rfl, by rw [lessI_enc]; exact .bool _⟩
end
end Go.Ri
set_option linter.unusedVariables false
set_option linter.unusedSimpArgs false
namespace Go.Ri
section
variable {E : Env} {g : Gh}
theorem maxDepth_eq : Op.maxDepth = 9999 + 1 := rfl
theorem cmp_sound (ok : E.Ok) {t : TypeId} {x y : V} {a b : Value} {r : Bool} (h : cmpI E t x y = some r) (hx : VR g x a) (hy : VR g y b) (w : World) :
    (Op.equal t a b).run E.P w = .ok r w := by
  unfold cmpI at h
  cases hu : under E t with
  | none => rw [hu] at h; simp at h
  | some d =>
    rw [hu] at h
    have hd : E.P.underlying t = some d := by
      unfold under at hu
      obtain ⟨i, hi, rfl⟩ := Option.map_eq_some_iff.1 hu
      obtain ⟨ti, k1, k2, _⟩ := ok.ty _ _ hi
      exact k2
    have hru := run_under hd w
    unfold Op.equal
    rw [maxDepth_eq]
    unfold Op.equalIn
    simp only [Sem.run_bind, hru, Result.andThen_ok]
    split at h <;> rename_i h1
    case h_4 =>
      rename_i e p q
      cases hx with | ptr _ a' ha =>
      cases hy with | ptr _ b' hb =>
      obtain ⟨b1, off1, top1, g1, rfl⟩ := adr_some ha
      obtain ⟨b2, off2, top2, g2, rfl⟩ := adr_some hb
      cases h1
      split at h
      · rename_i n hn
        obtain ⟨i, hi, hi2⟩ := Option.map_eq_some_iff.1 hn
        obtain ⟨ti, k1, k2, k3, _⟩ := ok.ty _ _ hi
        simp only [beqN, cond_eq_ite, decide_eq_true_eq] at h
        split at h
        · rename_i hpq
          cases h
          rw [hpq] at g1
          rw [g1] at g2
          cases g2
          simp only [sizeOf, Sem.run_bind, run_info k1, Result.andThen_ok, Sem.run_pure, k3, hi2, sameAddr]
          simp
          rw [Bool.eq_iff_iff]
          simp
        · cases h
      · cases h
    case h_7 =>
      cases h1
      cases hx with | iface t' v' x' hx' =>
      cases hy with | iface u' v'' y' hy' =>
      simp only [beqN, cond_eq_ite, decide_eq_true_eq] at h
      split at h
      · cases h
      · rename_i hne
        cases h
        simp [hne]
    all_goals first
      | (cases h; done)
      | (cases h1; cases hx <;> cases hy <;> cases h <;> simp [beqN])
end
end Go.Ri
set_option linter.unusedVariables false
set_option linter.unusedSimpArgs false
namespace Go.Ri
section
variable {E : Env} {g : Gh} {st : St} {w0 : World}
theorem cmp_shape {t : TypeId} {x y : V} {a b : Value} {r : Bool} (h : cmpI E t x y = some r) (hx : VR g x a) (hy : VR g y b) (hni : ¬ (x = .nilIface ∧ y = .nilIface)) (op : BinOp) (ox oy : Operand) :
    binOp .eql t a b = (do pure (.bool (← Op.equal t a b))) ∧ binOp .neq t a b = (do pure (.bool (!(← Op.equal t a b)))) ∧ eqGuard op t ox oy a b = pure () := by
  unfold cmpI at h
  split at h
  all_goals first
    | (cases h; done)
    | (cases hx <;> cases hy <;> exact ⟨rfl, rfl, by unfold eqGuard; split <;> rfl⟩)
theorem nil_eq {P : Program} {t : TypeId} {ms : Array (String × TypeId)} (hd : P.underlying t = some (.interface ms)) (w : World) : (Op.equal t .nilIface .nilIface).run P w = .ok true w := by
  unfold Op.equal
  rw [maxDepth_eq]
  unfold Op.equalIn
  simp only [Sem.run_bind, run_under hd w, Result.andThen_ok]
  rfl
theorem bin_sound (ok : E.Ok) {op : BinOp} {t : TypeId} {ox oy : Operand} {x y : V} {v : V} {a b : Value} (h : binI E op t ox oy x y = some v) (hx : VR g x a) (hy : VR g y b) (w : World) :
    ∃ z, (do eqGuard op t ox oy a b; binOp op t a b).run E.P w = .ok z w ∧ VR g v z := by
  have h0 := h
  unfold binI at h
  split at h
  · cases hx; cases hy; exact int_sound h0 w
  · cases hx; cases hy; exact str_sound h0 w
  · cases hx; cases hy
    split at h
    · rename_i ms hu
      have hd : E.P.underlying t = some (.interface ms) := by
        unfold under at hu
        obtain ⟨i, hi, h5⟩ := Option.map_eq_some_iff.1 hu
        obtain ⟨ti, k1, k2, _⟩ := ok.ty _ _ hi
        rw [← h5]; exact k2
      simp only [cond_eq_ite] at h
      split at h
      · rename_i hc
        have hgd : eqGuard op t ox oy .nilIface .nilIface = pure () := by
          clear h h0
          unfold eqGuard
          cases ox <;> cases oy <;> first
            | (cases op <;> rfl)
            | (simp [isCon] at hc)
        rw [hgd]
        simp only [pure_bind]
        cases op <;> simp only [reduceCtorEq] at h
        case eql =>
          cases h
          have e1 : binOp .eql t .nilIface .nilIface = (do pure (.bool (← Op.equal t .nilIface .nilIface))) := rfl
          exact ⟨.bool true, by rw [e1]; simp [nil_eq hd w], .bool _⟩
        case neq =>
          cases h
          have e1 : binOp .neq t .nilIface .nilIface = (do pure (.bool (!(← Op.equal t .nilIface .nilIface)))) := rfl
          exact ⟨.bool false, by rw [e1]; simp [nil_eq hd w], .bool _⟩
      · cases h
    · cases h
  · rename_i hni1 hni2 hni3
    have hni : ¬ (x = .nilIface ∧ y = .nilIface) := fun ⟨e1, e2⟩ => hni3 e1 e2
    split at h
    · obtain ⟨r, hr, rfl⟩ := Option.map_eq_some_iff.1 h
      obtain ⟨e1, e2, e3⟩ := cmp_shape hr hx hy hni .eql ox oy
      refine ⟨.bool r, ?_, .bool _⟩
      rw [e3, e1]
      simp [cmp_sound ok hr hx hy w]
    · obtain ⟨r, hr, rfl⟩ := Option.map_eq_some_iff.1 h
      obtain ⟨e1, e2, e3⟩ := cmp_shape hr hx hy hni .neq ox oy
      refine ⟨.bool (!r), ?_, .bool _⟩
      rw [e3, e2]
      simp [cmp_sound ok hr hx hy w]
    · cases h
theorem un_sound {op : UnOp} {x v : V} {a : Value} (h : unI op x = some v) (hx : VR g x a) (w : World) : ∃ z, (Op.unary op a).run E.P w = .ok z w ∧ VR g v z := by
  unfold unI at h
  split at h
  · cases h; cases hx
    exact ⟨.int _ (IntKind.wrap _ (0 - _)), by simp only [Op.unary, Op.intArith]; rfl, wrI_VR g _ _⟩
  · cases h; cases hx; exact ⟨_, by simp [Op.unary], .bool _⟩
  · cases h; cases hx
    exact ⟨_, by simp [Op.unary, Op.intBits], .int _ _⟩
  · cases h
theorem conv_sound (ok : E.Ok) {s d : TypeId} {x v : V} {a : Value} (h : convI E s d x = some v) (hx : VR g x a) (w : World) : ∃ z, (convert s d a).run E.P w = .ok z w ∧ VR g v z := by
  have key : ∀ t e, under E t = some e → E.P.underlying t = some e := by
    intro t e hu
    unfold under at hu
    obtain ⟨i, hi, h5⟩ := Option.map_eq_some_iff.1 hu
    obtain ⟨ti, k1, k2, _⟩ := ok.ty _ _ hi
    rw [← h5]; exact k2
  unfold convI at h
  split at h
  · rename_i h1 h2
    cases hx
    cases h
    refine ⟨_, ?_, wrI_VR g _ _⟩
    simp [convert, run_under (key _ _ h1), run_under (key _ _ h2), Conv.intToInt]
  · rename_i h1 h2
    cases hx
    cases h
    refine ⟨_, ?_, .str _⟩
    simp [convert, run_under (key _ _ h1), run_under (key _ _ h2)]
  · cases h
end
end Go.Ri
set_option linter.unusedVariables false
set_option linter.unusedSimpArgs false
namespace Go.Ri
section
variable {E : Env} {g : Gh} {st : St} {w0 w : World}
theorem under_some (ok : E.Ok) {t : TypeId} {d : TypeDesc} (h : under E t = some d) : E.P.underlying t = some d := by
  unfold under at h
  obtain ⟨i, hi, h5⟩ := Option.map_eq_some_iff.1 h
  obtain ⟨ti, k1, k2, _⟩ := ok.ty _ _ hi
  rw [← h5]; exact k2
theorem size_some (ok : E.Ok) {t : TypeId} {n : Nat} (h : size E t = some n) (w : World) : (sizeOf t).run E.P w = .ok n w := by
  unfold size at h
  obtain ⟨i, hi, h5⟩ := Option.map_eq_some_iff.1 h
  obtain ⟨ti, k1, k2, k3, _⟩ := ok.ty _ _ hi
  simp [sizeOf, run_info k1, k3, h5]
theorem bytes_some (ok : E.Ok) {t : TypeId} {n : Nat} (h : bytes E t = some n) : ∃ ti, E.P.info? t = some ti ∧ ti.bytes = n := by
  unfold bytes at h
  obtain ⟨i, hi, h5⟩ := Option.map_eq_some_iff.1 h
  obtain ⟨ti, k1, k2, k3, k4, _⟩ := ok.ty _ _ hi
  exact ⟨ti, k1, k4.trans h5⟩
theorem zero_some (ok : E.Ok) {t : TypeId} {v : V} (h : zero E t = some v) (w : World) : ∃ x, (zeroValue t).run E.P w = .ok x w ∧ ofConst x = some v ∧ ∃ ti, E.P.info? t = some ti ∧ ti.zero = some x := by
  unfold zero at h
  obtain ⟨i, hi, h5⟩ := Option.bind_eq_some_iff.1 h
  obtain ⟨ti, k1, k2, k3, k4, k5, _⟩ := ok.ty _ _ hi
  rw [← k5] at h5
  obtain ⟨x, hx, h6⟩ := Option.bind_eq_some_iff.1 h5
  exact ⟨x, by simp [zeroValue, run_info k1, hx], h6, ti, k1, hx⟩
theorem natOf_VR {v : V} {n : Nat} {x : Value} (h : natOf v = some n) (hv : VR g v x) : ∃ k, x = .int k (n : Int) := by
  unfold natOf at h
  split at h
  · cases h; cases hv; exact ⟨_, rfl⟩
  · cases h
theorem index_sound (ok : E.Ok) {t : TypeId} {x i v : V} {a b : Value} (h : indexI E t x i = some v) (hx : VR g x a) (hi : VR g i b) (w : World) :
    ∃ z, (Instr.index t a b).run E.P w = .ok z w ∧ VR g v z := by
  unfold indexI at h
  split at h
  · rename_i len elem cs n h1 h2
    have hu := under_some ok h1
    obtain ⟨k, rfl⟩ := natOf_VR h2 hi
    cases hx with | agg _ xs hxs =>
    simp only [bltN, cond_eq_ite, decide_eq_true_eq] at h
    split at h
    · rename_i hlt
      obtain ⟨z, hz, hp⟩ := Option.bind_eq_some_iff.1 h
      obtain ⟨y, hy, hvy⟩ := part_sound ok hp hxs w
      refine ⟨y, ?_, hvy⟩
      have h3 : (0 : Int) ≤ (n : Int) ∧ (n : Int) < (len : Int) := by omega
      simp [Instr.index, asIntOf, run_under hu, h3, size_some ok hz, hy, hlt]
    · cases h
  · rename_i s n h1 h2
    have hu := under_some ok h1
    obtain ⟨k, rfl⟩ := natOf_VR h2 hi
    cases hx with | str sb =>
    obtain ⟨c, hc, rfl⟩ := Option.map_eq_some_iff.1 h
    rw [nth_eq] at hc
    simp only [enc, List.getElem?_map, Option.map_eq_some_iff] at hc
    obtain ⟨u, hu1, rfl⟩ := hc
    have hb : sb[n]? = some u := by
      have : n < sb.data.size := by
        have := (List.getElem?_eq_some_iff.1 hu1).1
        simpa using this
      have h5 := (List.getElem?_eq_some_iff.1 hu1).2
      have h6 : n < sb.size := this
      rw [getElem?_pos sb n h6]
      congr 1
    refine ⟨.int .u8 u.toNat, ?_, .int _ _⟩
    simp [Instr.index, asIntOf, run_under hu, hb]
  · cases h
theorem indexAddr_sound (ok : E.Ok) {t : TypeId} {x i v : V} {a b : Value} (h : indexAddrI E t x i = some v) (hx : VR g x a) (hi : VR g i b) (w : World) :
    ∃ z, (Instr.indexAt t a b).run E.P w = .ok z w ∧ VR g v z := by
  unfold indexAddrI at h
  split at h
  · rename_i len elem p n h1 h2
    have hu := under_some ok h1
    obtain ⟨k, rfl⟩ := natOf_VR h2 hi
    cases hx with | ptr _ ad had =>
    simp only [bltN, cond_eq_ite, decide_eq_true_eq] at h
    split at h
    · rename_i hlt
      obtain ⟨z, hz, rfl⟩ := Option.map_eq_some_iff.1 h
      have h3 : (0 : Int) ≤ (n : Int) ∧ (n : Int) < (len : Int) := by omega
      exact ⟨.pointer (some (ad.add (n * z))), by simp [Instr.indexAt, asIntOf, run_under hu, h3, size_some ok hz, Instr.sureAddr, hlt], .ptr _ _ (adr_plus had _)⟩
    · cases h
  · rename_i elem p len cap sz ex n h1 h2
    have hu := under_some ok h1
    obtain ⟨k, rfl⟩ := natOf_VR h2 hi
    cases hx with | sl r o bb off top _ _ _ c _ g1 g2 g3 g4 g5 =>
    simp only [bltN, cond_eq_ite, decide_eq_true_eq] at h
    split at h
    · rename_i hlt
      obtain ⟨z, hz, rfl⟩ := Option.map_eq_some_iff.1 h
      have h3 : (0 : Int) ≤ (n : Int) ∧ (n : Int) < (len : Int) := by omega
      exact ⟨.pointer (some ((⟨bb, off + o, none⟩ : Addr).add (n * z))), by simp [Instr.indexAt, asIntOf, run_under hu, h3, size_some ok hz, hlt], .ptr _ _ (adr_plus (by simp [adr, g1]) _)⟩
    · cases h
  · cases h
theorem fieldAddr_sound (ok : E.Ok) {t : TypeId} {x v : V} {f : Nat} {a : Value} (h : fieldAddrI E t x f = some v) (hx : VR g x a) (w : World) :
    ∃ z, (Instr.fieldAt t a f).run E.P w = .ok z w ∧ VR g v z := by
  unfold fieldAddrI at h
  split at h
  · rename_i fs p h1
    have hu := under_some ok h1
    cases hx with | ptr _ ad had =>
    rw [nth_eq] at h
    split at h
    · rename_i fl hfl
      have hfl' : fs[f]? = some fl := by simpa using hfl
      split at h
      · rename_i n hn
        cases h
        refine ⟨.pointer (some (ad.add fl.offset)), ?_, .ptr _ _ (adr_plus had _)⟩
        simp [Instr.fieldAt, run_under hu, hfl', Instr.sureAddr, fieldPlace, size_some ok hn]
      · cases h
    · cases h
  · cases h
theorem field_sound (ok : E.Ok) {t : TypeId} {x v : V} {f : Nat} {a : Value} (h : fieldI E t x f = some v) (hx : VR g x a) (w : World) :
    ∃ z, (Instr.field t a f).run E.P w = .ok z w ∧ VR g v z := by
  unfold fieldI at h
  split at h
  · rename_i fs cs h1
    have hu := under_some ok h1
    cases hx with | agg _ xs hxs =>
    rw [nth_eq] at h
    split at h
    · rename_i fl hfl
      have hfl' : fs[f]? = some fl := by simpa using hfl
      obtain ⟨y, hy, hvy⟩ := part_sound ok h hxs w
      exact ⟨y, by simp [Instr.field, run_under hu, hfl', asAgg, hy], hvy⟩
    · cases h
  · cases h
end
end Go.Ri
set_option linter.unusedVariables false
set_option linter.unusedSimpArgs false
namespace Go.Ri
section
variable {E : Env} {g : Gh} {st : St} {w0 w : World}
inductive OV (g : Gh) : Option V → Option Value → Prop
  | none : OV g none none
  | some (v : V) (x : Value) : VR g v x → OV g (some v) (some x)
theorem bound_run {P : Program} {x : Value} {n y : Nat} {k : IntKind} (hx : x = .int k (n : Int)) (h : n ≤ y) (c : BoundsCode) (w : World) : (Instr.sliceBound x y c).run P w = .ok n w := by
  subst hx
  have : (0 : Int) ≤ (n : Int) ∧ (n : Int) ≤ (y : Int) := by omega
  simp [Instr.sliceBound, asIntOf, h]
/-- Where a slice expression begins and ends. 'c': the capacity as it is. -/
theorem cut_sound {isSlice : Bool} {len cap c : Nat} {ex : Bool} {lo hi mx : Option V} {lo' hi' mx' : Option Value} {l h m : Nat} {mex : Bool}
    (hc : cutI len cap ex lo hi mx = some (l, h, m, mex)) (hlen : len ≤ cap) (hcap : cap ≤ c) (hex : ex = true → c = cap) (hl : OV g lo lo') (hh : OV g hi hi') (hm : OV g mx mx') (w : World) :
    ∃ m', (Instr.sliceBounds isSlice len c lo' hi' mx').run E.P w = .ok (l, h, m') w ∧ l ≤ h ∧ h ≤ m ∧ m ≤ m' ∧ m' ≤ c ∧ (mex = true → m' = m) := by
  unfold cutI at hc
  split at hc
  case h_2 => cases hc
  rename_i m1 mex1 h1 l1 hm1 hh1 hl1
  split at hc
  · rename_i hle
    cases hc
    have hL : ∀ (cd : BoundsCode) (w : World), match (generalizing := false) lo' with | some x => (Instr.sliceBound x h cd).run E.P w = .ok l w | none => l = 0 := by
      intro cd w
      cases hl with
      | none => cases hl1; rfl
      | some v x hv => obtain ⟨k, hk⟩ := natOf_VR hl1 hv; exact bound_run hk hle.1 cd w
    cases hm with
    | none =>
      cases hm1
      have hH : ∀ (cd : BoundsCode) (w : World), match (generalizing := false) hi' with | some x => (Instr.sliceBound x c cd).run E.P w = .ok h w | none => h = len := by
        intro cd w
        cases hh with
        | none => cases hh1; rfl
        | some v x hv => obtain ⟨k, hk⟩ := natOf_VR hh1 hv; exact bound_run hk (by omega) cd w
      refine ⟨c, ?_, hle.1, hle.2, hcap, Nat.le_refl _, hex⟩
      clear hl hh hl1 hh1
      cases hi' with
      | none =>
        have e2 : h = len := hH .index w
        subst e2
        cases lo' with
        | none => have e1 : l = 0 := hL .index w; subst e1; simp [Instr.sliceBounds]
        | some x =>
          have hL' : ∀ (cd : BoundsCode) (w : World), (Instr.sliceBound x h cd).run E.P w = .ok l w := hL
          simp [Instr.sliceBounds, hL']
      | some y =>
        have hH' : ∀ (cd : BoundsCode) (w : World), (Instr.sliceBound y c cd).run E.P w = .ok h w := hH
        cases lo' with
        | none => have e1 : l = 0 := hL .index w; subst e1; simp [Instr.sliceBounds, hH']
        | some x =>
          have hL' : ∀ (cd : BoundsCode) (w : World), (Instr.sliceBound x h cd).run E.P w = .ok l w := hL
          simp [Instr.sliceBounds, hL', hH']
    | some v x hv =>
      simp only [cutM] at hm1
      split at hm1
      · rename_i n hn
        split at hm1
        · cases hm1
          obtain ⟨k, hk⟩ := natOf_VR hn hv
          have hM : ∀ (cd : BoundsCode) (w : World), (Instr.sliceBound x c cd).run E.P w = .ok m w := fun cd w => bound_run hk (by omega) cd w
          cases hh with
          | none => cases hh1
          | some v' x' hv' =>
            obtain ⟨k', hk'⟩ := natOf_VR hh1 hv'
            have hH : ∀ (cd : BoundsCode) (w : World), (Instr.sliceBound x' m cd).run E.P w = .ok h w := fun cd w => bound_run hk' hle.2 cd w
            refine ⟨m, ?_, hle.1, hle.2, Nat.le_refl _, by omega, fun _ => rfl⟩
            clear hl hl1
            cases lo' <;> dsimp only at hL <;> simp [Instr.sliceBounds, hL, hH, hM]
            exact (hL .index w).symm
        · cases hm1
      · cases hm1
  · cases hc
end
end Go.Ri
set_option linter.unusedVariables false
set_option linter.unusedSimpArgs false
namespace Go.Ri
section
variable {E : Env} {g : Gh} {st : St} {w0 w : World}
theorem slice_sound (ok : E.Ok) {t : TypeId} {x : V} {lo hi mx : Option V} {v : V} {a : Value} {lo' hi' mx' : Option Value} (h : sliceI E t x lo hi mx = some v)
    (hx : VR g x a) (hl : OV g lo lo') (hh : OV g hi hi') (hm : OV g mx mx') (w : World) : ∃ z, (Instr.sliceAt t a lo' hi' mx').run E.P w = .ok z w ∧ VR g v z := by
  unfold sliceI at h
  split at h
  · rename_i s h1
    have hu := under_some ok h1
    cases hx with | str sb =>
    split at h
    · cases h
    · rename_i hmn
      cases hm with
      | some v x hv => simp at hmn
      | none =>
      split at h
      · rename_i l hh1 m1 x1 hc
        obtain ⟨r, hr, rfl⟩ := Option.map_eq_some_iff.1 h
        obtain ⟨r1, hr1, hr2⟩ := Option.bind_eq_some_iff.1 hr
        obtain ⟨_, rfl⟩ := dropN_some hr1
        obtain ⟨_, rfl⟩ := takeN_some hr2
        simp only [lenN_eq, enc_len] at hc
        obtain ⟨m', k1, k2, k3, k4, k5, k6⟩ := cut_sound (E := E) (isSlice := false) hc (Nat.le_refl _) (Nat.le_refl _) (fun _ => rfl) hl hh .none w
        refine ⟨.string (sb.extract l hh1), ?_, by rw [← enc_extract]; exact .str _⟩
        simp [Instr.sliceAt, run_under hu, Instr.slice, k1]
      · cases h
  · rename_i elem aa len cap sz ex h1
    have hu := under_some ok h1
    split at h
    · rename_i l hh1 m mex z hc hz
      split at h
      · cases h
      · rename_i hsz
        cases hx with
        | sl0 _ =>
          obtain ⟨m', k1, k2, k3, k4, k5, k6⟩ := cut_sound (E := E) (isSlice := true) hc (Nat.le_refl _) (Nat.le_refl _) (fun _ => rfl) hl hh hm w
          have e1 : m' = 0 := by omega
          subst e1
          have e2 : l = 0 := by omega
          have e3 : hh1 = 0 := by omega
          have e4 : m = 0 := by omega
          subst e2 e3 e4
          have hmex : mex = true := by
            unfold cutI at hc
            split at hc
            · rename_i hcm _ _
              split at hc
              · cases hc
                unfold cutM at hcm
                split at hcm
                · cases hcm; rfl
                · split at hcm
                  · split at hcm <;> cases hcm; rfl
                  · cases hcm
              · cases hc
            · cases hc
          subst hmex
          simp at h
          subst h
          exact ⟨.slice none 0 0, by simp [Instr.sliceAt, run_under hu, Instr.slice, k1, size_some ok hz], .sl0 _⟩
        | sl r o b off top _ _ _ c _ g1 g2 g3 g4 g5 =>
          obtain ⟨m', k1, k2, k3, k4, k5, k6⟩ := cut_sound (E := E) (isSlice := true) hc g4 g2 g3 hl hh hm w
          have hsz' : sz = z := by
            apply Classical.byContradiction
            intro hne
            exact hsz ⟨rfl, hne⟩
          subst hsz'
          have hrun : (Instr.sliceAt t (.slice (some ⟨b, off + o, none⟩) len c) lo' hi' mx').run E.P w = .ok (.slice (if m' = l then some ⟨b, off + o, none⟩ else some ((⟨b, off + o, none⟩ : Addr).add (l * sz))) (hh1 - l) (m' - l)) w := by
            simp [Instr.sliceAt, run_under hu, Instr.slice, k1, size_some ok hz]
          refine ⟨_, hrun, ?_⟩
          have hmc : m' * sz ≤ c * sz := Nat.mul_le_mul_right _ k5
          split at h
          · rename_i he
            cases h
            have : hh1 - l = 0 := by omega
            rw [this]
            split <;> exact .empt _ _
          · rename_i he
            cases h
            split
            · rename_i hml
              have := k6 hml.2
              subst this
              rw [if_pos hml.1]
              have e0 : m' - l = 0 := by omega
              have e1 : hh1 - l = 0 := by omega
              rw [e0, e1]
              exact .sl r o b off top 0 0 sz 0 _ g1 (Nat.le_refl _) (fun _ => rfl) (Nat.le_refl _) (by omega)
            · rename_i hml
              have hadd : (if m' = l then some (⟨b, off + o, none⟩ : Addr) else some ((⟨b, off + o, none⟩ : Addr).add (l * sz))) = some ⟨b, off + (o + l * sz), none⟩ := by
                by_cases hlm : l = m
                · have hl0 : l = 0 := by
                    apply Classical.byContradiction
                    intro hne
                    cases hmx : mex with
                    | false => exact he ⟨hlm, hmx, hne⟩
                    | true => exact hml ⟨hlm.symm, hmx⟩
                  subst hl0
                  simp [addr_add]
                · rw [if_neg (by omega), addr_add, Nat.add_assoc]
              rw [hadd]
              refine .sl r (o + l * sz) b off top _ _ sz _ _ g1 (by omega) (fun hmx => by rw [k6 hmx]) (by omega) ?_
              have : (m' - l) * sz + l * sz = m' * sz := by rw [← Nat.add_mul]; congr 1; omega
              omega
    · cases h
  · cases h
end
end Go.Ri
set_option linter.unusedVariables false
set_option linter.unusedSimpArgs false
namespace Go.Ri
section
variable {E : Env} {g : Gh} {st : St} {w0 w : World}
theorem beq_bytes (a b : ByteArray) : (a == b) = eqL (enc a) (enc b) := by
  rw [beq_toListBytes, enc_beq]
theorem find_sound {sb : ByteArray} : ∀ {es : List (V × V)} {en : List MapEntry} {r : Option V} (i : Nat), findI (enc sb) es = some r → PRs g es en →
    match (generalizing := false) r with
    | none => Instr.findNow .string (.string sb) en i = some none
    | some v => ∃ j x, Instr.findNow .string (.string sb) en i = some (some (j, x)) ∧ VR g v x
  | [], [], r, i, h, hp => by cases h; rfl
  | (k, v) :: es, e :: en, r, i, h, ⟨hk, hv, hp⟩ => by
    cases k with
    | str s =>
      cases e with | mk ek ev born =>
      cases hk with | str kb =>
      simp only [findI, cond_eq_ite] at h
      simp only [Instr.findNow, Instr.sameNow, beq_bytes]
      split at h
      · rename_i he
        cases h
        rw [he]
        exact ⟨i, ev, rfl, hv⟩
      · rename_i he
        have he' : eqL (enc sb) (enc kb) = false := by simpa using he
        rw [he']
        exact find_sound (i + 1) h hp
    | _ => simp [findI] at h
theorem checkKey_run {P : Program} {key : TypeId} (hu : P.underlying key = some .string) (e : Bool) (n : Nat) (s : ByteArray) (w : World) : (Instr.checkKey e (n + 1) key (.string s)).run P w = .ok () w := by
  unfold Instr.checkKey
  simp [run_under hu]
theorem getObj_run {P : Program} {r : Nat} {en : Array MapEntry} {cl : Nat} {w : World} (h : w.heap[r]? = some (.map en cl)) : (getObj r).run P w = .ok (.map en cl) w := by
  simp [getObj, Sem.run, h]
theorem look_sound (ok : E.Ok) (hr : Rel g st w0 w) {t : TypeId} {x i v : V} {b : Bool} {a c : Value} (h : lookI E t x i b st = some v) (hx : VR g x a) (hi : VR g i c) :
    ∃ z, (Instr.lookup t a c b).run E.P w = .ok z w ∧ VR g v z := by
  unfold lookI at h
  split at h
  · rename_i key elem h1
    have hu := under_some ok h1
    split at h
    · rename_i s h2
      have hk := under_some ok h2
      cases hi with | str sb =>
      have fin : ∀ (es : List (V × V)) (en : Array MapEntry), PRs g es en.toList →
          (match findI (enc sb) es with
            | some (some v) => some (if b = true then V.tuple [v, .bool true] else v)
            | some none => (zero E elem).map fun z => if b = true then V.tuple [z, .bool false] else z
            | none => none) = some v →
          ∃ z, (do
            Instr.checkKey en.isEmpty 10000 key (.string sb)
            let (v, okk) ← match ← Instr.findKey key (.string sb) en.toList with
              | some (_, v) => pure (v, true)
              | none => pure (← zeroValue elem, false)
            pure (if b then .tuple #[v, .bool okk] else v) : Sem Value).run E.P w = .ok z w ∧ VR g v z := by
        intro es en hp hf
        have hck := checkKey_run hk en.isEmpty 9999 sb w
        split at hf
        · rename_i y hy
          cases hf
          obtain ⟨j, z, hz, hvz⟩ := find_sound 0 hy hp
          refine ⟨if b then .tuple #[z, .bool true] else z, ?_, ?_⟩
          · simp [hck, Instr.findKey, run_under hk, hz]
          · cases b
            · exact hvz
            · exact .tuple _ [z, .bool true] (.cons _ _ _ _ hvz (.cons _ _ _ _ (.bool _) .nil))
        · rename_i hy
          obtain ⟨z, hz, rfl⟩ := Option.map_eq_some_iff.1 hf
          obtain ⟨zx, hz1, hz2, _⟩ := zero_some ok hz w
          have hn := find_sound 0 hy hp
          refine ⟨if b then .tuple #[zx, .bool false] else zx, ?_, ?_⟩
          · simp only [] at hn
            simp [hck, Instr.findKey, run_under hk, hn, hz1]
          · cases b
            · exact ofConst_VR g hz2
            · exact .tuple _ [zx, .bool false] (.cons _ _ _ _ (ofConst_VR g hz2) (.cons _ _ _ _ (.bool _) .nil))
        · cases hf
      split at h
      · rename_i es hes
        cases x with
        | map m =>
          cases m with
          | none =>
            cases hx
            cases hes
            obtain ⟨z, hz, hvz⟩ := fin [] #[] trivial h
            refine ⟨z, ?_, hvz⟩
            rw [← hz]
            simp only [Instr.lookup, Sem.run_bind, run_under hu, Result.andThen_ok, Sem.run_pure]
            rfl
          | some r =>
            cases hx with | map _ bb top hg =>
            simp only [] at hes
            split at hes
            · rename_i es' hst
              cases hes
              obtain ⟨b', off', top', o, hg', ho, hor⟩ := hr.live _ _ hst
              rw [hg] at hg'
              cases hg'
              cases hor with
              | map _ en clock _ hp =>
                obtain ⟨z, hz, hvz⟩ := fin es en hp h
                refine ⟨z, ?_, hvz⟩
                rw [← hz]
                simp only [Instr.lookup, Sem.run_bind, run_under hu, Result.andThen_ok, Sem.run_pure, getObj_run ho]
                rfl
            · cases hes
        | _ => cases hes
      · cases h
    · cases h
  · cases h
theorem len_sound (ok : E.Ok) (hr : Rel g st w0 w) {t : TypeId} {x v : V} {a : Value} (h : lenI E t x st = some v) (hx : VR g x a) (ty : TypeId) {ts : Array TypeId} (ht : ts[0]? = some t) :
    ∃ z, (Builtin.len_ ts ty #[a]).run E.P w = .ok z w ∧ VR g v z := by
  unfold lenI at h
  split at h
  · rename_i s h1
    have hu := under_some ok h1
    cases hx with | str sb =>
    cases h
    exact ⟨.int .i64 sb.size, by simp [Builtin.len_, ht, run_under hu, goInt], by rw [lenN_eq, enc_len]; exact .int _ _⟩
  · rename_i n e h1
    have hu := under_some ok h1
    cases h
    exact ⟨.int .i64 n, by simp [Builtin.len_, ht, run_under hu, goInt], .int _ _⟩
  · rename_i e aa n c sz ex h1
    have hu := under_some ok h1
    cases h
    cases hx with
    | sl0 _ => exact ⟨.int .i64 0, by simp [Builtin.len_, ht, run_under hu, goInt], .int _ _⟩
    | sl r o b off top _ _ _ c' _ g1 => exact ⟨.int .i64 n, by simp [Builtin.len_, ht, run_under hu, goInt], .int _ _⟩
  · rename_i e h1
    have hu := under_some ok h1
    cases h
    cases hx with | empt ad c' =>
    exact ⟨.int .i64 0, by simp [Builtin.len_, ht, run_under hu, goInt], .int _ _⟩
  · rename_i k e h1
    have hu := under_some ok h1
    cases h
    cases hx
    exact ⟨.int .i64 0, by simp [Builtin.len_, ht, run_under hu, goInt], .int _ _⟩
  · rename_i k e r h1
    have hu := under_some ok h1
    cases hx with | map _ bb top hg =>
    split at h
    · rename_i es hst
      cases h
      obtain ⟨b', off', top', o, hg', ho, hor⟩ := hr.live _ _ hst
      rw [hg] at hg'
      cases hg'
      cases hor with
      | map _ en clock _ hp =>
        have hlen : ∀ {l : List (V × V)} {r : List MapEntry}, PRs g l r → l.length = r.length := by
          intro l
          induction l with
          | nil => intro r hp; cases r with
            | nil => rfl
            | cons e r => exact hp.elim
          | cons p l ih => intro r hp; cases r with
            | nil => exact hp.elim
            | cons e r => obtain ⟨k, v⟩ := p; have := ih hp.2.2; simp [this]
        have := hlen hp
        refine ⟨.int .i64 en.size, by simp [Builtin.len_, ht, run_under hu, goInt, getObj_run ho], ?_⟩
        rw [lenN_eq, this]
        simpa using VR.int .i64 (en.size : Int)
    · cases h
  · cases h
theorem cap_sound (ok : E.Ok) {t : TypeId} {x v : V} {a : Value} (h : capI E t x = some v) (hx : VR g x a) (ty : TypeId) {ts : Array TypeId} (ht : ts[0]? = some t) (w : World) :
    ∃ z, (Builtin.cap_ ts ty #[a]).run E.P w = .ok z w ∧ VR g v z := by
  unfold capI at h
  split at h
  · rename_i e aa n c sz h1
    have hu := under_some ok h1
    cases h
    cases hx with
    | sl0 _ => exact ⟨.int .i64 0, by simp [Builtin.cap_, ht, run_under hu, goInt], .int _ _⟩
    | sl r o b off top _ _ _ c' _ g1 g2 g3 => exact ⟨.int .i64 c', by simp [Builtin.cap_, ht, run_under hu, goInt], by rw [g3 rfl]; exact .int _ _⟩
  · cases h
end
end Go.Ri
set_option linter.unusedVariables false
set_option linter.unusedSimpArgs false
namespace Go.Ri
section
variable {E : Env} {g : Gh} {st : St} {w0 w : World}
theorem missing_none {want : Array (String × TypeId)} {got : Array Method} (h : (want.toList.all fun x => got.any fun m => m.name == x.1 && m.sig == x.2) = true) : Instr.missingMethod want got = none := by
  have hf : (want.toList.filter fun x => !got.any fun m => m.name == x.1 && m.sig == x.2) = [] := by
    rw [List.filter_eq_nil_iff]
    intro x hx
    have := List.all_eq_true.1 h x hx
    simp [this]
  unfold Instr.missingMethod
  simp only
  have e : (want.toList.filter fun (p : String × TypeId) => match p with | (name, sig) => !got.any fun m => m.name == name && m.sig == sig) = [] := hf
  rw [e]
  rfl
theorem least_some : ∀ {l : List String}, l ≠ [] → ∃ s, Instr.least l = some s
  | [], h => absurd rfl h
  | s :: r, _ => ⟨_, rfl⟩
theorem missing_some {want : Array (String × TypeId)} {got : Array Method} (h : (want.toList.all fun x => got.any fun m => m.name == x.1 && m.sig == x.2) = false) : ∃ m, Instr.missingMethod want got = some m := by
  unfold Instr.missingMethod
  simp only
  generalize hl : (want.toList.filter fun (p : String × TypeId) => match p with | (name, sig) => !got.any fun m => m.name == name && m.sig == sig) = l
  have hne : l ≠ [] := by
    intro e
    subst e
    rw [List.filter_eq_nil_iff] at hl
    have : (want.toList.all fun x => got.any fun m => m.name == x.1 && m.sig == x.2) = true := by
      rw [List.all_eq_true]
      intro x hx
      have := hl x hx
      simpa using this
    rw [this] at h
    cases h
  rw [List.partition_eq_filter_filter]
  simp only
  by_cases h1 : ((l.map (·.1)).filter fun x => !(x.contains (Char.ofNat 46))) = []
  · have h2 : ((l.map (·.1)).filter fun x => x.contains (Char.ofNat 46)) ≠ [] := by
      intro h2
      rw [List.filter_eq_nil_iff] at h1 h2
      cases l with
      | nil => exact hne rfl
      | cons a l =>
        have e1 := h1 a.1 (by simp)
        have e2 := h2 a.1 (by simp)
        simp at e1 e2
        exact absurd e1 e2
    obtain ⟨s, hs⟩ := least_some (l := (((l.map (·.1)).filter fun x => x.contains (Char.ofNat 46)).map fun id => (id.splitOn ".").getLastD id)) (by simpa using h2)
    rw [hs]
    cases Instr.least (List.filter (not ∘ fun x => x.contains (Char.ofNat 46)) (List.map (fun x => x.fst) l)) with
    | none => exact ⟨s, rfl⟩
    | some x => exact ⟨x, rfl⟩
  · obtain ⟨s, hs⟩ := least_some h1
    have hs' : Instr.least (List.filter (not ∘ fun x => x.contains (Char.ofNat 46)) (List.map (fun x => x.fst) l)) = some s := hs
    rw [hs']
    exact ⟨s, rfl⟩
theorem assert_sound (ok : E.Ok) {x v : V} {t xt : TypeId} {b : Bool} {a : Value} (h : assertI E x t b = some v) (hx : VR g x a) (w : World) :
    ∃ z, (Instr.typeAssert a xt t b).run E.P w = .ok z w ∧ VR g v z := by
  have fails : ∀ (st dy : Option TypeId) (ms : String), (if b = true then (zero E t).map fun z => V.tuple [z, .bool false] else none) = some v →
      ∃ z, (if b then (do pure (.tuple #[← zeroValue t, .bool false])) else runtimePanic (.typeAssertion st dy t ms) : Sem Value).run E.P w = .ok z w ∧ VR g v z := by
    intro st dy ms hf
    split at hf
    · rename_i hb
      obtain ⟨z, hz, rfl⟩ := Option.map_eq_some_iff.1 hf
      obtain ⟨zx, hz1, hz2, _⟩ := zero_some ok hz w
      exact ⟨.tuple #[zx, .bool false], by simp [hb, hz1], .tuple _ [zx, .bool false] (.cons _ _ _ _ (ofConst_VR g hz2) (.cons _ _ _ _ (.bool _) .nil))⟩
    · cases hf
  have holds : ∀ {y : V} {z : Value}, VR g y z → VR g (if b = true then V.tuple [y, .bool true] else y) (if b = true then .tuple #[z, .bool true] else z) := by
    intro y z hy
    cases b
    · exact hy
    · exact .tuple _ [z, .bool true] (.cons _ _ _ _ hy (.cons _ _ _ _ (.bool _) .nil))
  unfold assertI at h
  split at h
  · rename_i want d dv h1
    have hu := under_some ok h1
    cases hx with | iface _ _ y hy =>
    split at h
    · rename_i ms hms
      obtain ⟨i, hi, rfl⟩ := Option.map_eq_some_iff.1 hms
      obtain ⟨ti, k1, k2, k3, k4, k5, k6⟩ := ok.ty _ _ hi
      have conv : (want.toList.all fun x => ti.methods.any fun m => m.name == x.1 && m.sig == x.2) = (want.toList.all fun (p : String × TypeId) => match p with | (name, sig) => i.ms.any fun m => m.name == name && Nat.beq m.sig sig) := by
        congr 1
        funext p
        obtain ⟨n, s⟩ := p
        simp only
        rw [← Array.any_toList, k6]
        congr 1
        funext m
        congr 1
        rw [beqN, Bool.eq_iff_iff]; simp
      cases hall : (want.toList.all fun (p : String × TypeId) => match p with | (name, sig) => i.ms.any fun m => m.name == name && Nat.beq m.sig sig) with
      | true =>
        rw [hall] at h
        simp only [cond_true] at h
        cases h
        rw [hall] at conv
        have hm := missing_none conv
        exact ⟨_, by simp [Instr.typeAssert, run_under hu, run_info k1, hm], holds (.iface _ _ _ hy)⟩
      | false =>
        rw [hall] at h
        simp only [cond_false] at h
        rw [hall] at conv
        obtain ⟨m, hm⟩ := missing_some conv
        obtain ⟨z, hz, hvz⟩ := fails none (some d) m h
        refine ⟨z, ?_, hvz⟩
        rw [← hz]
        simp only [Instr.typeAssert, Sem.run_bind, run_under hu, Result.andThen_ok, run_info k1, hm]
    · cases h
  · rename_i want h1
    have hu := under_some ok h1
    cases hx
    obtain ⟨z, hz, hvz⟩ := fails none none "" h
    refine ⟨z, ?_, hvz⟩
    rw [← hz]
    simp only [Instr.typeAssert, Sem.run_bind, run_under hu, Result.andThen_ok]
  · rename_i dd d dv hni h1
    have hu := under_some ok h1
    cases hx with | iface _ _ y hy =>
    split at h
    · rename_i hd
      cases h
      refine ⟨_, ?_, holds hy⟩
      cases dd <;> first
        | exact absurd rfl (hni _)
        | (simp [Instr.typeAssert, run_under hu, hd]; done)
    · rename_i hd
      obtain ⟨z, hz, hvz⟩ := fails (some xt) (some d) "" h
      refine ⟨z, ?_, hvz⟩
      rw [← hz]
      cases dd <;> first
        | exact absurd rfl (hni _)
        | (simp [Instr.typeAssert, run_under hu, hd]; done)
  · rename_i dd hni h1
    have hu := under_some ok h1
    cases hx
    obtain ⟨z, hz, hvz⟩ := fails (some xt) none "" h
    refine ⟨z, ?_, hvz⟩
    rw [← hz]
    cases dd <;> first
      | exact absurd rfl (hni _)
      | (simp [Instr.typeAssert, run_under hu]; done)
  · cases h
end
end Go.Ri
set_option linter.unusedVariables false
set_option linter.unusedSimpArgs false
namespace Go.Ri
section
variable {E : Env} {g : Gh} {st : St} {w0 w : World}
theorem min_sound : ∀ {l : List V} {xs : List Value} {v y : V} {x : Value}, minI false y l = some v → VR g y x → VRs g l xs → ∀ w, ∃ z, (xs.foldlM Builtin.min2 x).run E.P w = .ok z w ∧ VR g v z
  | [], xs, v, y, x, h, hy, hl, w => by
    cases hl
    simp only [minI] at h
    cases h
    exact ⟨x, rfl, hy⟩
  | b :: l, xs, v, y, x, h, hy, hl, w => by
    cases hl with | cons _ bx _ xs hb hl =>
    unfold minI at h
    split at h
    · rename_i e; cases e
    · rename_i k n k' m r e
      cases e
      cases hy
      cases hb
      simp only [cond_false] at h
      have : VR g (.int k (bif ltZ m n then m else n)) (.int k (if m < n then m else n)) := by
        rw [ltZ_eq]
        by_cases hmn : m < n
        · simp [hmn]; exact .int _ _
        · simp [hmn]; exact .int _ _
      obtain ⟨z, hz, hvz⟩ := min_sound h this hl w
      exact ⟨z, by simp [List.foldlM, Builtin.min2]; exact hz, hvz⟩
    · cases h
theorem max_sound : ∀ {l : List V} {xs : List Value} {v y : V} {x : Value}, minI true y l = some v → VR g y x → VRs g l xs → ∀ w, ∃ z, (xs.foldlM Builtin.max2 x).run E.P w = .ok z w ∧ VR g v z
  | [], xs, v, y, x, h, hy, hl, w => by
    cases hl
    simp only [minI] at h
    cases h
    exact ⟨x, rfl, hy⟩
  | b :: l, xs, v, y, x, h, hy, hl, w => by
    cases hl with | cons _ bx _ xs hb hl =>
    unfold minI at h
    split at h
    · rename_i e; cases e
    · rename_i k n k' m r e
      cases e
      cases hy
      cases hb
      simp only [cond_true] at h
      have : VR g (.int k (bif ltZ n m then m else n)) (.int k (if m > n then m else n)) := by
        rw [ltZ_eq]
        by_cases hmn : n < m
        · simp [hmn]; exact .int _ _
        · simp [hmn]; exact .int _ _
      obtain ⟨z, hz, hvz⟩ := max_sound h this hl w
      exact ⟨z, by simp [List.foldlM, Builtin.max2]; exact hz, hvz⟩
    · cases h
end
end Go.Ri

/-
  The closed calls of ShellNil, as contracts of the machine.
-/
import Derived.Test.YtjkeiifddmdodaaGreatDoorSa
import Derived.Test.YtjkeiifddmdodaaGreatDoorKc
import Derived.Test.YtjkeiifddmdodaaGreatDoorTd
set_option linter.unusedVariables false
namespace Go.Proofs
open Go.RowKit Go.Ri
namespace Sn
set_option maxRecDepth 1000000
theorem fn4 : env.fn.get none 4 = some Tryz.f4 := by kernel_rfl
theorem fn5 : env.fn.get none 5 = some Tryz.f5 := by kernel_rfl
theorem fn6 : env.fn.get none 6 = some Tryz.f6 := by kernel_rfl
/-- What the kernel has reckoned. -/
theorem chain : ∃ p s1 s2 s3 s4, call env 100 4 [] st0 = some (.ptr (some p), s1) ∧ call env 100 5 [] s1 = some (.bool true, s2) ∧
    call env 100 6 [.ptr (some p), .str []] s2 = some (.str [119, 104, 97, 116], s3) ∧ call env 100 6 [.ptr (some p), .str [115, 108, 111, 116, 115]] s3 = some (.str [115, 108, 111, 116, 115], s4) := by
  have h := chain_true
  unfold chain1 at h
  split at h
  case h_2 => cases h
  rename_i p s1 h1
  unfold chain2 at h
  split at h
  case h_2 => cases h
  rename_i s2 h2
  unfold chain3 at h
  split at h
  case h_2 => cases h
  rename_i x s3 h3
  rw [cond_eq_ite] at h
  split at h
  case isFalse => cases h
  rename_i hx
  rw [eqL_eq] at hx
  have hx := eq_of_beq hx
  subst hx
  unfold chain4 at h
  split at h
  case h_2 => cases h
  rename_i y s4 h4
  rw [eqL_eq] at h
  have hy := eq_of_beq h
  subst hy
  exact ⟨p, s1, s2, s3, s4, h1, h2, h3, h4⟩
theorem str_of {g : Gh} {l : List Nat} {x : Value} {b : ByteArray} (h : VR g (.str l) x) (hb : enc b = l) : x = .string b := by
  cases h with | str s =>
  rw [enc_inj hb]
section
variable {g : Gh} {st st' : St} {W w : World} {p : Nat × Nat}
theorem new_c (h : call env 100 4 [] st = some (.ptr (some p), st')) (hi : Inv g st W w) :
    Calls Tryz.prog 4 #[] w fun e w' => ∃ a g', e = .returned (.pointer (some a)) ∧ adr g' p = some a ∧ Inv g' st' W w' := by
  obtain ⟨c, hc⟩ : ∃ c, Tryz.f4.body = some c := ⟨_, rfl⟩
  refine (calls_of (xs := #[]) envOk2 h fn4 hc .nil hi).mono ?_
  rintro e w' ⟨x, g', rfl, hx, hi', ha⟩
  cases hx with | ptr _ a ha' =>
  exact ⟨a, g', rfl, ha', hi'⟩
theorem runs_c (h : call env 100 5 [] st = some (.bool true, st')) (hi : Inv g st W w) :
    Calls Tryz.prog 5 #[] w fun e w' => e = .returned (.bool true) ∧ ∃ g', g.le g' ∧ Inv g' st' W w' := by
  obtain ⟨c, hc⟩ : ∃ c, Tryz.f5.body = some c := ⟨_, rfl⟩
  refine (calls_of (xs := #[]) envOk2 h fn5 hc .nil hi).mono ?_
  rintro e w' ⟨x, g', rfl, hx, hi', ha⟩
  cases hx
  exact ⟨rfl, g', ha.le, hi'⟩
theorem do_c {b r : ByteArray} {a : Addr} (h : call env 100 6 [.ptr (some p), .str (enc b)] st = some (.str (enc r), st')) (ha : adr g p = some a) (hi : Inv g st W w) :
    Calls Tryz.prog 6 #[.pointer (some a), .string b] w fun e w' => e = .returned (.string r) ∧ ∃ g', g.le g' ∧ Inv g' st' W w' := by
  obtain ⟨c, hc⟩ : ∃ c, Tryz.f6.body = some c := ⟨_, rfl⟩
  refine (calls_of (xs := #[.pointer (some a), .string b]) envOk2 h fn6 hc (.cons _ _ _ _ (.ptr _ _ ha) (.cons _ _ _ _ (.str b) .nil)) hi).mono ?_
  rintro e w' ⟨x, g', rfl, hx, hi', ha'⟩
  exact ⟨by rw [str_of hx rfl], g', ha'.le, hi'⟩
end
end Sn
end Go.Proofs

/-
  SxM: tables of types; tables of contracts; rows of words.
-/
import Derived.Test.YtbpggglkmdgpoaaGreatSxK
import Derived.KernelRfl
set_option linter.all false
set_option linter.unusedSimpArgs false
set_option linter.unusedVariables false
namespace Go.Sx
open Go

/-! ### Types -/
def lookT : List (Nat × Ty) → Nat → Option Ty
  | [], _ => none
  | (i, y) :: l, t => if t = i then some y else lookT l t

def tyB (P : Program) (t : TypeId) (y : Ty) : Bool :=
  match P.underlying t, P.info? t with
  | some d, some i => descB y.d d && i.size == y.size && i.bytes == y.bytes && match i.zero with
    | some z => plainZ y z && y.zero.length == y.size
    | none => false
  | _, _ => false

theorem lookT_mem : ∀ {l : List (Nat × Ty)} {t : Nat} {y : Ty}, lookT l t = some y → (t, y) ∈ l
  | (i, x) :: l, t, y, h => by
    unfold lookT at h
    split at h
    · rename_i hi; subst hi; cases h; exact List.mem_cons_self ..
    · exact List.mem_cons_of_mem _ (lookT_mem h)

theorem TyOK.of_tbl {P : Program} {l : List (Nat × Ty)} (h : (l.all fun p => tyB P p.1 p.2) = true) : TyOK P (lookT l) := by
  intro t y ht
  rw [List.all_eq_true] at h
  have := h _ (lookT_mem ht)
  unfold tyB at this
  split at this
  · rename_i d i hd hi
    simp only [Bool.and_eq_true, beq_iff_eq] at this
    obtain ⟨⟨⟨h1, h2⟩, h3⟩, h4⟩ := this
    split at h4
    · rename_i z hz
      simp only [Bool.and_eq_true, beq_iff_eq] at h4
      exact ⟨d, i, z, hd, h1, hi, h2, h3, hz, h4.1, h4.2⟩
    · cases h4
  · cases this

/-! ### Contracts -/
/-- A contract as a function of the arguments. -/
def GOK (P : Program) (f : FuncId) (g : List SV → Option (Prop × SV)) : Prop :=
  ∀ args p r, g args = some (p, r) → p →
    ((∀ as w, (callFunc f as).run P w = .ok (.enter f as) w) ∧ Pure P f args r) ∨
    (∀ H β vals, RelL H β args vals → ∃ u, (∀ w, (callFunc f vals.toArray).run P w = .ok (.value u) w) ∧ Rel H β r u)

structure Con (P : Program) where
  f : FuncId
  g : List SV → Option (Prop × SV)
  ok : GOK P f g

def conG {P : Program} : List (Con P) → FuncId → List SV → Option (Prop × SV)
  | [], _, _ => none
  | c :: l, f, as => if f = c.f then c.g as else conG l f as

theorem conG_ok {P : Program} : ∀ (l : List (Con P)), ΓOK P (conG l)
  | [], f, args, p, r, h, _ => by cases h
  | c :: l, f, args, p, r, h, hp => by
    unfold conG at h
    split at h
    · rename_i hf; subst hf; exact c.ok args p r h hp
    · exact conG_ok l f args p r h hp

structure Met (P : Program) where
  f : FuncId
  q : Bool
  D : Dlt
  ok : (∀ as w, (callFunc f as).run P w = .ok (.enter f as) w) ∧ Meth P f q D

def metH {P : Program} : List (Met P) → FuncId → Option Bool
  | [], _ => none
  | c :: l, f => if f = c.f then some c.q else metH l f
def metD {P : Program} : List (Met P) → FuncId → Dlt
  | [], _, _, _, _, _ => False
  | c :: l, f, as, M, nk, Φ => if f = c.f then c.D as M nk Φ else metD l f as M nk Φ
theorem metD_ok {P : Program} : ∀ (l : List (Met P)) (f : FuncId) (q : Bool), metH l f = some q → (∀ as w, (callFunc f as).run P w = .ok (.enter f as) w) ∧ Meth P f q (metD l f)
  | [], f, q, h => by cases h
  | c :: l, f, q, h => by
    unfold metH at h
    by_cases hf : f = c.f
    · subst hf
      simp only [if_true, Option.some.injEq] at h
      subst h
      refine ⟨c.ok.1, ?_⟩
      have : metD (c :: l) c.f = c.D := by funext as M nk Φ; simp [metD]
      rw [this]; exact c.ok.2
    · simp only [hf, if_false] at h
      have : metD (c :: l) f = metD l f := by funext as M nk Φ; simp [metD, hf]
      rw [this]; exact metD_ok l f q h

structure Dfr (P : Program) where
  f : FuncId
  D : Lam
  ok : MethD P f D
def dfrL {P : Program} : List (Dfr P) → FuncId → Lam
  | [], _, _, _, _, _, _ => False
  | c :: l, f, as, p, M, nk, Φ => if f = c.f then c.D as p M nk Φ else dfrL l f as p M nk Φ
theorem dfrL_ok {P : Program} : ∀ (l : List (Dfr P)) (f : FuncId), MethD P f (dfrL l f)
  | [], f => fun _ _ _ _ _ _ _ _ _ _ _ _ _ _ _ h => h.elim
  | c :: l, f => by
    by_cases hf : f = c.f
    · subst hf
      have : dfrL (c :: l) c.f = c.D := by funext as p M nk Φ; simp [dfrL]
      rw [this]; exact c.ok
    · have : dfrL (c :: l) f = dfrL l f := by funext as p M nk Φ; simp [dfrL, hf]
      rw [this]; exact dfrL_ok l f

/-! ### Rows -/
abbrev b8 (l : List UInt8) : List SV := l.map SV.w8
abbrev b32 (l : List UInt32) : List SV := l.map SV.w32
abbrev b64 (l : List UInt64) : List SV := l.map SV.w64
abbrev bI (l : List Int) : List SV := l.map SV.int

def isW32 : SV → Bool | .w32 _ => true | _ => false
def isW64 : SV → Bool | .w64 _ => true | _ => false
def isI : SV → Bool | .int _ => true | _ => false
def toW32 : SV → UInt32 | .w32 x => x | _ => 0
def toW64 : SV → UInt64 | .w64 x => x | _ => 0
def toI : SV → Int | .int x => x | _ => 0
def is8 (n : Nat) (l : List SV) : Bool := l.length == n && l.all isW8
def is32 (n : Nat) (l : List SV) : Bool := l.length == n && l.all isW32
def is64 (n : Nat) (l : List SV) : Bool := l.length == n && l.all isW64
def by32 (l : List SV) : List UInt32 := l.map toW32
def by64 (l : List SV) : List UInt64 := l.map toW64

theorem by8_map (l : List UInt8) : by8 (l.map SV.w8) = l := by simp [by8, Function.comp_def, toW8]
theorem by32_map (l : List UInt32) : by32 (l.map SV.w32) = l := by simp [by32, Function.comp_def, toW32]
theorem by64_map (l : List UInt64) : by64 (l.map SV.w64) = l := by simp [by64, Function.comp_def, toW64]
theorem is8_map (n : Nat) (l : List UInt8) : is8 n (l.map SV.w8) = (l.length == n) := by simp [is8, isW8]
theorem is32_map (n : Nat) (l : List UInt32) : is32 n (l.map SV.w32) = (l.length == n) := by simp [is32, isW32]
theorem is64_map (n : Nat) (l : List UInt64) : is64 n (l.map SV.w64) = (l.length == n) := by simp [is64, isW64]
theorem of_allW8 : ∀ (l : List SV), l.all isW8 = true → l = (by8 l).map SV.w8
  | [], _ => rfl
  | x :: l, h => by
    simp only [List.all_cons, Bool.and_eq_true] at h
    have := of_allW8 l h.2
    cases x <;> simp [isW8] at h
    simp only [by8, List.map_cons, toW8]
    exact congrArg _ this
theorem of_is8 {n : Nat} {l : List SV} (h : is8 n l = true) : l = (by8 l).map SV.w8 ∧ (by8 l).length = n := by
  simp only [is8, Bool.and_eq_true, beq_iff_eq] at h
  exact ⟨of_allW8 l h.2, by simp [by8, h.1]⟩
theorem getD_w8 (l : List UInt8) (i : Nat) : (l.map SV.w8).getD i (.w8 0) = .w8 (l.getD i 0) := by
  simp only [List.getD_eq_getElem?_getD, List.getElem?_map]; cases l[i]? <;> rfl
theorem set_w8 (l : List UInt8) (i : Nat) (x : UInt8) : (l.map SV.w8).set i (.w8 x) = (l.set i x).map SV.w8 := by simp
theorem rep_w8 (n : Nat) (x : UInt8) : List.replicate n (SV.w8 x) = (List.replicate n x).map SV.w8 := by simp
theorem closedL_w8 : ∀ (l : List UInt8), closedL (l.map SV.w8) = True
  | [] => by simp [closedL]
  | _ :: l => by simp [closedL, closed, closedL_w8 l]
theorem flatL_w8 : ∀ (l : List UInt8), flatL (l.map SV.w8) = True
  | [] => by simp [flatL]
  | _ :: l => by simp [flatL, flat, flatL_w8 l]
theorem slc_w8 (l : List UInt8) (o n : Nat) : slc (l.map SV.w8) o n = ((l.drop o).take n).map SV.w8 := by
  unfold slc; simp
theorem spl_w8 (l d : List UInt8) (o : Nat) : spl (l.map SV.w8) o (d.map SV.w8) = (if l.length = d.length then d else l.take o ++ d ++ l.drop (o + d.length)).map SV.w8 := by
  unfold spl; simp only [List.length_map]; split <;> simp
theorem of_allW32 : ∀ (l : List SV), l.all isW32 = true → l = (by32 l).map SV.w32
  | [], _ => rfl
  | x :: l, h => by
    simp only [List.all_cons, Bool.and_eq_true] at h
    have := of_allW32 l h.2
    cases x <;> simp [isW32] at h
    simp only [by32, List.map_cons, toW32]
    exact congrArg _ this
theorem of_is32 {n : Nat} {l : List SV} (h : is32 n l = true) : l = (by32 l).map SV.w32 ∧ (by32 l).length = n := by
  simp only [is32, Bool.and_eq_true, beq_iff_eq] at h
  exact ⟨of_allW32 l h.2, by simp [by32, h.1]⟩
theorem getD_w32 (l : List UInt32) (i : Nat) : (l.map SV.w32).getD i (.w32 0) = .w32 (l.getD i 0) := by
  simp only [List.getD_eq_getElem?_getD, List.getElem?_map]; cases l[i]? <;> rfl
theorem set_w32 (l : List UInt32) (i : Nat) (x : UInt32) : (l.map SV.w32).set i (.w32 x) = (l.set i x).map SV.w32 := by simp
theorem rep_w32 (n : Nat) (x : UInt32) : List.replicate n (SV.w32 x) = (List.replicate n x).map SV.w32 := by simp
theorem closedL_w32 : ∀ (l : List UInt32), closedL (l.map SV.w32) = True
  | [] => by simp [closedL]
  | _ :: l => by simp [closedL, closed, closedL_w32 l]
theorem flatL_w32 : ∀ (l : List UInt32), flatL (l.map SV.w32) = True
  | [] => by simp [flatL]
  | _ :: l => by simp [flatL, flat, flatL_w32 l]
theorem slc_w32 (l : List UInt32) (o n : Nat) : slc (l.map SV.w32) o n = ((l.drop o).take n).map SV.w32 := by
  unfold slc; simp
theorem spl_w32 (l d : List UInt32) (o : Nat) : spl (l.map SV.w32) o (d.map SV.w32) = (if l.length = d.length then d else l.take o ++ d ++ l.drop (o + d.length)).map SV.w32 := by
  unfold spl; simp only [List.length_map]; split <;> simp
theorem of_allW64 : ∀ (l : List SV), l.all isW64 = true → l = (by64 l).map SV.w64
  | [], _ => rfl
  | x :: l, h => by
    simp only [List.all_cons, Bool.and_eq_true] at h
    have := of_allW64 l h.2
    cases x <;> simp [isW64] at h
    simp only [by64, List.map_cons, toW64]
    exact congrArg _ this
theorem of_is64 {n : Nat} {l : List SV} (h : is64 n l = true) : l = (by64 l).map SV.w64 ∧ (by64 l).length = n := by
  simp only [is64, Bool.and_eq_true, beq_iff_eq] at h
  exact ⟨of_allW64 l h.2, by simp [by64, h.1]⟩
theorem getD_w64 (l : List UInt64) (i : Nat) : (l.map SV.w64).getD i (.w64 0) = .w64 (l.getD i 0) := by
  simp only [List.getD_eq_getElem?_getD, List.getElem?_map]; cases l[i]? <;> rfl
theorem set_w64 (l : List UInt64) (i : Nat) (x : UInt64) : (l.map SV.w64).set i (.w64 x) = (l.set i x).map SV.w64 := by simp
theorem rep_w64 (n : Nat) (x : UInt64) : List.replicate n (SV.w64 x) = (List.replicate n x).map SV.w64 := by simp
theorem closedL_w64 : ∀ (l : List UInt64), closedL (l.map SV.w64) = True
  | [] => by simp [closedL]
  | _ :: l => by simp [closedL, closed, closedL_w64 l]
theorem flatL_w64 : ∀ (l : List UInt64), flatL (l.map SV.w64) = True
  | [] => by simp [flatL]
  | _ :: l => by simp [flatL, flat, flatL_w64 l]
theorem slc_w64 (l : List UInt64) (o n : Nat) : slc (l.map SV.w64) o n = ((l.drop o).take n).map SV.w64 := by
  unfold slc; simp
theorem spl_w64 (l d : List UInt64) (o : Nat) : spl (l.map SV.w64) o (d.map SV.w64) = (if l.length = d.length then d else l.take o ++ d ++ l.drop (o + d.length)).map SV.w64 := by
  unfold spl; simp only [List.length_map]; split <;> simp
theorem closedL_append : ∀ (l r : List SV), closedL (l ++ r) = (closedL l ∧ closedL r)
  | [], r => by simp [closedL]
  | _ :: l, r => by simp [closedL, closedL_append l r, and_assoc]
theorem flatL_append : ∀ (l r : List SV), flatL (l ++ r) = (flatL l ∧ flatL r)
  | [], r => by simp [flatL]
  | _ :: l, r => by simp [flatL, flatL_append l r, and_assoc]
end Go.Sx

/-
  Vs: scripts and what a machine does with them, plainly.
-/
import Derived.Test.YtbpggglkmdgpoaaGreatVa
set_option linter.all false
set_option linter.unusedSimpArgs false
set_option linter.unusedVariables false
namespace Go.Sx
abbrev OpB := UInt8 × List UInt8
abbrev rb (b : List UInt8) : SV := .rs b.length (b8 b)
def opC (o : OpB) : List SV := [.w8 o.1, rb o.2]
def opsC (l : List OpB) : List SV := l.flatMap opC
theorem opsC_len (l : List OpB) : (opsC l).length = l.length * 2 := by
  unfold opsC; induction l with
  | nil => rfl
  | cons a l ih => rw [List.flatMap_cons, List.length_append, ih]; simp [opC]; omega
theorem opsC_snoc (l : List OpB) (o : OpB) : opsC (l ++ [o]) = opsC l ++ opC o := by simp [opsC]

theorem closedL_opsC (l : List OpB) : closedL (opsC l) := by
  unfold opsC; induction l with
  | nil => trivial
  | cons a l ih => rw [List.flatMap_cons, closedL_append]; exact ⟨⟨trivial, trivial, trivial⟩, ih⟩
/-- A number of bytes, the lowest first. -/
def lev : List UInt8 → Nat
  | [] => 0
  | c :: l => c.toNat + 256 * lev l
def rdN (k : Nat) (l : List UInt8) : Option (Nat × List UInt8) := if k ≤ l.length then some (lev (l.take k), l.drop k) else none
def hdr (c : UInt8) (l : List UInt8) : Option (Nat × List UInt8) :=
  if c.toNat < 76 then some (c.toNat, l) else if c.toNat = 76 then rdN 1 l else if c.toNat = 77 then rdN 2 l else if c.toNat = 78 then rdN 4 l else some (0, l)
def op1 : List UInt8 → Option (OpB × List UInt8)
  | [] => none
  | c :: l => match hdr c l with
    | none => none
    | some (n, l') => if n ≤ l'.length then some ((c, l'.take n), l'.drop n) else none
theorem rdN_len {k : Nat} {l l' : List UInt8} {n : Nat} (h : rdN k l = some (n, l')) : l'.length ≤ l.length := by
  unfold rdN at h; split at h <;> cases h; simp
theorem hdr_len {c : UInt8} {l l' : List UInt8} {n : Nat} (h : hdr c l = some (n, l')) : l'.length ≤ l.length := by
  unfold hdr at h
  split at h
  · cases h; exact Nat.le_refl _
  · split at h
    · exact rdN_len h
    · split at h
      · exact rdN_len h
      · split at h
        · exact rdN_len h
        · cases h; exact Nat.le_refl _
theorem op1_len {l l' : List UInt8} {o : OpB} (h : op1 l = some (o, l')) : l'.length < l.length := by
  cases l with
  | nil => cases h
  | cons c l =>
    simp only [op1] at h
    cases hh : hdr c l with
    | none => rw [hh] at h; cases h
    | some x =>
      obtain ⟨n, l2⟩ := x
      rw [hh] at h
      have := hdr_len hh
      dsimp only at h
      split at h <;> cases h
      simp; omega
def parseF : Nat → List UInt8 → Option (List OpB)
  | 0, _ => some []
  | n + 1, l => if l = [] then some [] else match op1 l with
    | none => none
    | some (o, l') => (parseF n l').map (o :: ·)
theorem parseF_more : ∀ (n m : Nat) (l : List UInt8), l.length ≤ n → n ≤ m → parseF m l = parseF n l
  | 0, m, l, h, _ => by
    have : l = [] := List.length_eq_zero_iff.1 (by omega)
    subst this
    cases m <;> simp [parseF]
  | n + 1, 0, l, h, h2 => by omega
  | n + 1, m + 1, l, h, h2 => by
    simp only [parseF]
    split
    · rfl
    · cases ho : op1 l with
      | none => rfl
      | some x =>
        obtain ⟨o, l'⟩ := x
        have := op1_len ho
        simp only []
        rw [parseF_more n m l' (by omega) (by omega)]
/-- All operations of a script; none: it ends too early. -/
def parseS (l : List UInt8) : Option (List OpB) := parseF l.length l
theorem parseS_nil : parseS [] = some [] := rfl
theorem parseS_cons {l l' : List UInt8} {o : OpB} (h : op1 l = some (o, l')) : parseS l = (parseS l').map (o :: ·) := by
  have hl := op1_len h
  unfold parseS
  cases hn : l.length with
  | zero => omega
  | succ n =>
    simp only [parseF]
    rw [if_neg (by rintro rfl; cases h), h]
    simp only []
    rw [parseF_more l'.length n l' (Nat.le_refl _) (by omega)]
theorem parseS_none {l : List UInt8} (h0 : l ≠ []) (h : op1 l = none) : parseS l = none := by
  unfold parseS
  cases hn : l.length with
  | zero => exact absurd (List.length_eq_zero_iff.1 hn) h0
  | succ n => simp only [parseF]; rw [if_neg h0, h]

theorem lt8 (c : UInt8) : c < UInt8.ofNat (Int.toNat 76) ↔ c.toNat < 76 := by
  rw [UInt8.lt_iff_toNat_lt]; simp
theorem eq8 (c : UInt8) (n : Nat) (hn : n < 256) : c = UInt8.ofNat (Int.toNat n) ↔ c.toNat = n := by
  rw [← UInt8.toNat_inj]; simp; omega
theorem sl64_k (b : UInt8) (k : Nat) (hk : 8 * k < 64) (x : Int) (hx : (wi (8 * x)).toNat = 8 * k) : (sl64 b.toUInt64 (wi (8 * x)).toNat).toNat = b.toNat * 2 ^ (8 * k) := by
  unfold sl64
  rw [hx, UInt64.toNat_ofNat']
  have := b.toNat_lt
  rw [UInt8.toNat_toUInt64]
  apply Nat.mod_eq_of_lt
  have : 2 ^ (8 * k) ≤ 2 ^ 56 := Nat.pow_le_pow_right (by omega) (by omega)
  calc b.toNat * 2 ^ (8 * k) ≤ b.toNat * 2 ^ 56 := Nat.mul_le_mul_left _ this
    _ < 2 ^ 64 := by omega
theorem orAdd (x y k : Nat) (h : x < 2 ^ k) : x ||| (y * 2 ^ k) = x + y * 2 ^ k := by
  rw [Nat.mul_comm, Nat.or_comm, ← Nat.two_pow_add_eq_or_of_lt h]; omega
theorem num2 (a b : UInt8) : ((UInt64.ofNat (Int.toNat 0) ||| sl64 a.toUInt64 (wi (8 * 0)).toNat) ||| sl64 b.toUInt64 (wi (8 * wi (0 + 1))).toNat).toUInt16.toNat = lev [a, b] := by
  have ha := a.toNat_lt
  have hb := b.toNat_lt
  rw [UInt64.toNat_toUInt16, UInt64.toNat_or, UInt64.toNat_or, sl64_k a 0 (by omega) 0 (by decide), sl64_k b 1 (by omega) (wi (0 + 1)) (by decide)]
  have e1 : (UInt64.ofNat (Int.toNat 0)).toNat = 0 := by decide
  rw [e1, Nat.zero_or, orAdd _ _ _ (by simpa using ha)]
  simp [lev]; omega
theorem num4 (a b c d : UInt8) : ((((UInt64.ofNat (Int.toNat 0) ||| sl64 a.toUInt64 (wi (8 * 0)).toNat) ||| sl64 b.toUInt64 (wi (8 * wi (0 + 1))).toNat) ||| sl64 c.toUInt64 (wi (8 * wi (wi (0 + 1) + 1))).toNat) ||| sl64 d.toUInt64 (wi (8 * wi (wi (wi (0 + 1) + 1) + 1))).toNat).toUInt32.toNat = lev [a, b, c, d] := by
  have ha := a.toNat_lt
  have hb := b.toNat_lt
  have hc := c.toNat_lt
  have hd := d.toNat_lt
  rw [UInt64.toNat_toUInt32, UInt64.toNat_or, UInt64.toNat_or, UInt64.toNat_or, UInt64.toNat_or, sl64_k a 0 (by omega) 0 (by decide), sl64_k b 1 (by omega) (wi (0 + 1)) (by decide),
    sl64_k c 2 (by omega) (wi (wi (0 + 1) + 1)) (by decide), sl64_k d 3 (by omega) (wi (wi (wi (0 + 1) + 1) + 1)) (by decide)]
  have e1 : (UInt64.ofNat (Int.toNat 0)).toNat = 0 := by decide
  rw [e1, Nat.zero_or, orAdd (a.toNat * 2 ^ (8 * 0)) b.toNat (8 * 1) (by simpa using ha), orAdd (a.toNat * 2 ^ (8 * 0) + b.toNat * 2 ^ (8 * 1)) c.toNat (8 * 2) (by simp; omega), orAdd (a.toNat * 2 ^ (8 * 0) + b.toNat * 2 ^ (8 * 1) + c.toNat * 2 ^ (8 * 2)) d.toNat (8 * 3) (by simp; omega)]
  simp [lev]; omega
end Go.Sx

/-
  Vj: what simple scripts come to, plainly.
-/
import Derived.Test.YtbpggglkmdgpoaaGreatVf
import Derived.Test.YtbpggglkmdgpoaaGreatVh
set_option linter.all false
set_option linter.unusedSimpArgs false
set_option linter.unusedVariables false
namespace Go.Sx
theorem parse_rep0 : ∀ n : Nat, parseS (List.replicate n 0) = some (List.replicate n (0, []))
  | 0 => rfl
  | n + 1 => by
    rw [List.replicate_succ, parseS_cons (o := (0, [])) (l' := List.replicate n 0) (by simp [op1, hdr]), parse_rep0 n]
    rfl
theorem parse_rep97 : ∀ n : Nat, parseS (List.replicate n 97) = some (List.replicate n (97, []))
  | 0 => rfl
  | n + 1 => by
    rw [List.replicate_succ, parseS_cons (o := (97, [])) (l' := List.replicate n 97) (by simp [op1, hdr]), parse_rep97 n]
    rfl
theorem walk_rep0 : ∀ (n : Nat) (st : List (List UInt8)) (c : Nat), c ≤ 201 → st.length ≤ 1000 → walkS (List.replicate n (0, [])) (st, c) = if st.length + n ≤ 1000 then some (st ++ List.replicate n [], c) else none
  | 0, st, c, hc, hs => by simp [walkS, hs]
  | n + 1, st, c, hc, hs => by
    rw [List.replicate_succ, walkS, stepS_push (by decide) (by simp) hc]
    by_cases h : st.length + 1 ≤ 1000
    · rw [if_pos h]
      dsimp only
      rw [walk_rep0 n (st ++ [[]]) c hc (by simpa using h)]
      by_cases h2 : st.length + (n + 1) ≤ 1000
      · rw [if_pos h2, if_pos (by simp; omega), List.replicate_succ]
        simp
      · rw [if_neg h2, if_neg (by simp; omega)]
    · rw [if_neg h, if_neg (by omega)]
theorem walk_rep97 : ∀ (n c : Nat), c ≤ 201 → walkS (List.replicate n (97, [])) ([], c) = if c + n ≤ 201 then some ([], c + n) else none
  | 0, c, hc => by simp [walkS, hc]
  | n + 1, c, hc => by
    rw [List.replicate_succ, walkS, stepS_nop (by simp)]
    by_cases h : c + 1 ≤ 201
    · rw [if_pos h, if_pos (by simp)]
      dsimp only
      rw [walk_rep97 n (c + 1) h]
      by_cases h2 : c + (n + 1) ≤ 201
      · rw [if_pos h2, if_pos (by omega)]; congr 2; omega
      · rw [if_neg h2, if_neg (by omega)]
    · rw [if_neg h, if_neg (by omega)]
theorem run_rep0 {n : Nat} (h : n ≤ 1100) : runS (List.replicate n 0) [] = if n ≤ 1000 then some (List.replicate n []) else none := by
  unfold runS
  rw [if_pos ⟨by simp; omega, by simp, by simp⟩, parse_rep0]
  dsimp only
  rw [walk_rep0 n [] 0 (by omega) (by simp)]
  by_cases h2 : n ≤ 1000
  · rw [if_pos (by simpa using h2), if_pos h2]; simp
  · rw [if_neg (by simpa using h2), if_neg h2]; rfl
theorem run_rep97 {n : Nat} (h : n ≤ 1100) : runS (List.replicate n 97) [] = if n ≤ 201 then some [] else none := by
  unfold runS
  rw [if_pos ⟨by simp; omega, by simp, by simp⟩, parse_rep97]
  dsimp only
  rw [walk_rep97 n 0 (by omega)]
  by_cases h2 : n ≤ 201
  · rw [if_pos (by omega), if_pos h2]; rfl
  · rw [if_neg (by omega), if_neg h2]; rfl
/-- What is pushed is one operation. -/
theorem parse_push {d : List UInt8} (h : d.length < 65536) : ∃ c : UInt8, c.toNat ≤ 78 ∧ parseS (pushS d) = some [(c, d)] := by
  have fin : ∀ c : UInt8, op1 (pushS d) = some ((c, d), []) → parseS (pushS d) = some [(c, d)] := fun c h => by rw [parseS_cons h, parseS_nil]; rfl
  by_cases h1 : d.length < 76
  · refine ⟨UInt8.ofNat d.length, by rw [UInt8.toNat_ofNat']; omega, fin _ ?_⟩
    have e : (UInt8.ofNat d.length).toNat = d.length := by rw [UInt8.toNat_ofNat']; omega
    unfold pushS sizeS
    rw [if_pos h1]
    simp [op1, hdr, e, h1]
  · by_cases h2 : d.length < 256
    · refine ⟨76, by decide, fin _ ?_⟩
      have e : (UInt8.ofNat d.length).toNat = d.length := by rw [UInt8.toNat_ofNat']; omega
      unfold pushS sizeS
      rw [if_neg h1, if_pos h2]
      simp [op1, hdr, rdN, lev, e]
    · refine ⟨77, by decide, fin _ ?_⟩
      have e1 : (UInt8.ofNat d.length).toNat = d.length % 256 := by rw [UInt8.toNat_ofNat']
      have e2 : (UInt8.ofNat (d.length / 256)).toNat = d.length / 256 := by rw [UInt8.toNat_ofNat']; omega
      have e3 : d.length % 256 + 256 * (d.length / 256) = d.length := by omega
      unfold pushS sizeS
      rw [if_neg h1, if_neg h2]
      simp [op1, hdr, rdN, lev, e1, e2, e3]
theorem run_push {d : List UInt8} (h : d.length ≤ 600) : runS (pushS d) [] = if d.length ≤ 520 then some [d] else none := by
  obtain ⟨c, hc, hp⟩ := parse_push (d := d) (by omega)
  have hl : (pushS d).length ≤ 10000 := by
    unfold pushS sizeS
    split
    · simp; omega
    · split <;> simp <;> omega
  unfold runS
  rw [if_pos ⟨hl, by simp, by simp⟩, hp]
  dsimp only
  by_cases h2 : d.length ≤ 520
  · rw [if_pos h2, walkS, stepS_push hc h2 (by omega)]; simp [walkS]
  · rw [if_neg h2, walkS]; simp [stepS, h2]
theorem run_nil {d : List UInt8} : runS [] [d] = if d.length ≤ 520 then some [d] else none := by
  unfold runS
  by_cases h2 : d.length ≤ 520
  · rw [if_pos ⟨by simp, by simp, by simpa using h2⟩, if_pos h2]; rfl
  · rw [if_neg (fun h => h2 (h.2.2 d (by simp))), if_neg h2]
theorem simple_rep0 (n : Nat) : ∀ ops, parseS (List.replicate n 0) = some ops → ∀ o ∈ ops, o.1.toNat ≤ 78 ∨ o.1 = 97 := by
  intro ops h o ho
  rw [parse_rep0] at h; cases h
  left; rw [List.eq_of_mem_replicate ho]; decide
theorem simple_rep97 (n : Nat) : ∀ ops, parseS (List.replicate n 97) = some ops → ∀ o ∈ ops, o.1.toNat ≤ 78 ∨ o.1 = 97 := by
  intro ops h o ho
  rw [parse_rep97] at h; cases h
  right; rw [List.eq_of_mem_replicate ho]
theorem simple_push {d : List UInt8} (hd : d.length ≤ 600) : ∀ ops, parseS (pushS d) = some ops → ∀ o ∈ ops, o.1.toNat ≤ 78 ∨ o.1 = 97 := by
  obtain ⟨c, hc, hp⟩ := parse_push (d := d) (by omega)
  intro ops h o ho
  rw [hp] at h; cases h
  left; rw [List.mem_singleton.1 ho]; exact hc
theorem simple_nil : ∀ ops, parseS [] = some ops → ∀ o ∈ ops, o.1.toNat ≤ 78 ∨ o.1 = 97 := by
  intro ops h o ho
  cases h; cases ho
end Go.Sx

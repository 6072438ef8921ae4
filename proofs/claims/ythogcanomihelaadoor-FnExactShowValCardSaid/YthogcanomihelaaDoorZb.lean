/- Values that come in. -/
import Derived.Test.YthogcanomihelaaDoorZa
import Derived.Test.YthogcanomihelaaDoorAg
import Derived.KernelRfl
set_option linter.unusedSimpArgs false
set_option linter.unusedVariables false
namespace Go.Proofs.YthogcanomihelaaDoor.Gz
open Go Go.Proofs Go.Proofs.YthogcanomihelaaDoor.Ae Go.Proofs.YthogcanomihelaaDoor.Gx

theorem int_wf {k : IntKind} {z : Int} (h : (Lit.int k z).wf = true) : k.min ≤ z ∧ z ≤ k.max := by
  simpa [Lit.wf] using h
theorem dec_int {n : Nat} {az : List AV} (h : avT Tryd.prog n 3 az) : ∃ z, az = [.int .i64 z] ∧ -9223372036854775808 ≤ z ∧ z ≤ 9223372036854775807 := by
  cases n with
  | zero => cases h
  | succ n =>
    unfold avT at h
    rw [Tryd.underlying3] at h
    obtain ⟨z, rfl, hw⟩ := h
    have := int_wf hw
    exact ⟨z, rfl, this.1, this.2⟩
theorem dec_byte {n : Nat} {az : List AV} (h : avT Tryd.prog n 5 az) : ∃ z, az = [.int .u8 z] ∧ 0 ≤ z ∧ z ≤ 255 := by
  cases n with
  | zero => cases h
  | succ n =>
    unfold avT at h
    rw [Tryd.underlying5] at h
    obtain ⟨z, rfl, hw⟩ := h
    have := int_wf hw
    exact ⟨z, rfl, this.1, this.2⟩
theorem rows_bytes {n : Nat} : ∀ {rows : List (List AV)}, (∀ r ∈ rows, avT Tryd.prog n 5 r) → ∃ t : List Int, rows.flatten = bys t ∧ t.length = rows.length ∧ ∀ b ∈ t, 0 ≤ b ∧ b ≤ 255
  | [], _ => ⟨[], rfl, rfl, fun b h => by cases h⟩
  | r :: q, h => by
    obtain ⟨t, h1, h2, h3⟩ := rows_bytes (rows := q) fun r' hr => h r' (List.mem_cons_of_mem _ hr)
    obtain ⟨z, rfl, h4⟩ := dec_byte (h r (by simp))
    exact ⟨z :: t, by simp [h1, bys], by simp [h2], fun b hb => (List.mem_cons.1 hb).elim (fun e => e ▸ h4) (h3 b)⟩
theorem dec_bytes {n : Nat} {az : List AV} (h : avT Tryd.prog n 22 az) : ∃ t : List Int, az = [.imm false t.length (bys t)] ∧ t.length ≤ 9223372036854775807 ∧ ∀ b ∈ t, 0 ≤ b ∧ b ≤ 255 := by
  cases n with
  | zero => cases h
  | succ n =>
    unfold avT at h
    rw [Tryd.underlying22] at h
    obtain ⟨rows, rfl, hl, hr⟩ := h
    obtain ⟨t, h1, h2, h3⟩ := rows_bytes fun r h => (hr r h).1
    exact ⟨t, by rw [h1, h2], by rw [h2]; exact hl, h3⟩
theorem rows_vals {n : Nat} (ih : ∀ az, avT Tryd.prog n 33 az → ∃ v : Vt, az = v.az ∧ v.ok) : ∀ {rows : List (List AV)}, (∀ r ∈ rows, avT Tryd.prog n 33 r) → ∃ l : List Vt, rows.flatten = azs l ∧ l.length = rows.length ∧ oks l
  | [], _ => ⟨[], rfl, rfl, trivial⟩
  | r :: q, h => by
    obtain ⟨l, h1, h2, h3⟩ := rows_vals ih (rows := q) fun r' hr => h r' (List.mem_cons_of_mem _ hr)
    obtain ⟨v, rfl, h4⟩ := ih r (h r (by simp))
    exact ⟨v :: l, by simp [h1, azs], by simp [h2], ⟨h4, h3⟩⟩
theorem dec_val : ∀ (n : Nat) (az : List AV), avT Tryd.prog n 33 az → ∃ v : Vt, az = v.az ∧ v.ok := by
  intro n
  induction n using Nat.strongRecOn with
  | _ n ih =>
    intro az h
    cases n with
    | zero => cases h
    | succ n =>
      unfold avT at h
      rw [Tryd.underlying33] at h
      obtain ⟨ps, rfl, hl, hp⟩ := h
      match ps, hl with
      | [p0, p1, p2, p3], _ =>
        obtain ⟨k, rfl, hk⟩ := dec_int (hp 0 _ p0 rfl rfl).1
        obtain ⟨z, rfl, hz⟩ := dec_int (hp 1 _ p1 rfl rfl).1
        obtain ⟨t, rfl, ht, htb⟩ := dec_bytes (hp 2 _ p2 rfl rfl).1
        have h3 : avT Tryd.prog n 31 p3 := (hp 3 _ p3 rfl rfl).1
        cases n with
        | zero => cases h3
        | succ n =>
          unfold avT at h3
          rw [show Tryd.prog.underlying 31 = some (.slice 33) from Tryd.underlying31] at h3
          obtain ⟨rows, rfl, hrl, hr⟩ := h3
          obtain ⟨l, h1, h2, h4⟩ := rows_vals (ih n (by omega)) fun r h => (hr r h).1
          refine ⟨.mk k z t l, by simp [Vt.az, h1, h2], ?_⟩
          simp only [Vt.ok]
          exact ⟨hk, hz, htb, ht, by rw [h2]; exact hrl, h4⟩
theorem dec_vals {n : Nat} {a : AV} (h : avT Tryd.prog n 31 [a]) : ∃ l : List Vt, a = .imm false l.length (azs l) ∧ l.length ≤ 9223372036854775807 ∧ oks l := by
  cases n with
  | zero => cases h
  | succ n =>
    unfold avT at h
    rw [show Tryd.prog.underlying 31 = some (.slice 33) from Tryd.underlying31] at h
    obtain ⟨rows, he, hrl, hr⟩ := h
    obtain ⟨l, h1, h2, h4⟩ := rows_vals (dec_val n) fun r h => (hr r h).1
    simp only [List.cons.injEq, and_true] at he
    exact ⟨l, by rw [he, h1, h2], by rw [h2]; exact hrl, h4⟩
theorem law_any {v : Vt} {kids : List Vt} (hok : v.ok) (hoks : oks kids) (hkl : kids.length ≤ 9223372036854775807) : ∃ s, callF (tab tbl) prim1 4 [.agg v.az, .imm false kids.length (azs kids)] noStore = some (.bool true, s) := by
  cases v with
  | mk k n t l =>
    obtain ⟨v', s', e, rfl⟩ := law_big show_c (s := noStore) (f := false) hok hoks hkl
    simp only [Vt.az]
    exact ⟨s', e⟩
end Go.Proofs.YthogcanomihelaaDoor.Gz

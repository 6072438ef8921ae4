/- Slices of slices, appends, makes, literals. -/
import Derived.Test.YthogcanomihelaaDoorAe6
set_option linter.unusedSimpArgs false
set_option linter.unusedVariables false
namespace Go.Proofs.YthogcanomihelaaDoor.Ae
open Go

def VO (s : Store) (L : Nat → Nat → Loc) (C : Cs) (w : World) : Option AV → Option Value → Prop
  | none, none => True
  | some a, some v => VR s L C w a v
  | _, _ => False

section
variable {P : Program} {s : Store} {L : Nat → Nat → Loc} {C : Cs} {w : World}

theorem optInt_sound {o : Option AV} {o' : Option Value} {d n : Int} (h : VO s L C w o o') (hn : optInt o d = some n) : (o' = none ∧ n = d) ∨ ∃ k, o' = some (.int k n) := by
  cases o with
  | none =>
    cases o' with
    | none => exact .inl ⟨rfl, (Option.some.inj hn).symm⟩
    | some v => exact h.elim
  | some a =>
    cases o' with
    | none => exact h.elim
    | some v =>
      cases a <;> try (simp [optInt] at hn; done)
      case int k m =>
        simp only [optInt, Option.some.injEq] at hn
        subst hn
        have h' : VR s L C w (.int k m) v := h
        cases h'
        exact .inr ⟨k, rfl⟩
theorem elem_of {t e : Nat} (h : P.underlying t = some (.slice e)) : P.underlying t = some (.slice (P.elem t)) ∧ P.elem t = e := by
  have : P.elem t = e := by simp [Program.elem, h]
  exact ⟨by rw [this]; exact h, this⟩

/-- A slice of a slice, as the machine makes it. -/
theorem run_cut {t e sz n cap : Nat} {A : Option Addr} {lo hi mx : Option AV} {lo' hi' mx' : Option Value} {l h : Int} (ht : P.underlying t = some (.slice e)) (hs : szCk P e sz = true)
    (hlo : VO s L C w lo lo') (hhi : VO s L C w hi hi') (hmx : VO s L C w mx mx') (el : optInt lo 0 = some l) (eh : optInt hi n = some h) (h0 : 0 ≤ l) (h1 : l ≤ h) (h2 : h ≤ n) (hc : n ≤ cap)
    (hm : mx = none ∨ ∃ k, mx = some (.int k h) ∧ hi.isSome = true) :
    (Instr.sliceAt t (.slice A n cap) lo' hi' mx').run P w = .ok (sliced A l.toNat h.toNat (if mx = none then cap else h.toNat) sz) w := by
  obtain ⟨ht', he⟩ := elem_of ht
  have hsz := run_sizeOf hs w
  rw [run_sliceAt_slice w t _ _ _ _ ht']
  rcases hm with rfl | ⟨km, rfl, hsome⟩
  · obtain rfl : mx' = none := by cases mx' with | none => rfl | some v => exact hmx.elim
    rw [if_pos rfl]
    rcases optInt_sound hlo el with ⟨rfl, rfl⟩ | ⟨kl, rfl⟩
    · rcases optInt_sound hhi eh with ⟨rfl, rfl⟩ | ⟨kh, rfl⟩
      · rw [run_slice_all w t A n cap ht', he, hsz]; simp [Result.andThen]
      · rw [run_slice_h w t A n cap ht' kh h (by omega) (by omega), he, hsz]; simp [Result.andThen]
    · rcases optInt_sound hhi eh with ⟨rfl, rfl⟩ | ⟨kh, rfl⟩
      · rw [run_slice_l w t A n cap ht' kl l h0 (by omega), he, hsz]; simp [Result.andThen]
      · rw [run_slice_lh w t A n cap ht' kl kh l h h0 h1 (by omega), he, hsz]; simp [Result.andThen]
  · rw [if_neg (by simp)]
    obtain ⟨v, rfl⟩ : ∃ v, mx' = some v := by cases mx' with | none => exact hmx.elim | some v => exact ⟨v, rfl⟩
    have hv : VR s L C w (.int km h) v := hmx
    cases hv
    obtain ⟨kh, rfl⟩ : ∃ k, hi' = some (.int k h) := by
      rcases optInt_sound hhi eh with ⟨rfl, _⟩ | hq
      · cases hi with
        | none => simp at hsome
        | some a => exact hhi.elim
      · exact hq
    rcases optInt_sound hlo el with ⟨rfl, rfl⟩ | ⟨kl, rfl⟩
    · rw [run_slice_hm w t A n cap ht' kh km h h (by omega) (Int.le_refl _) (by omega), he, hsz]; simp [Result.andThen]
    · rw [run_slice_lhm w t A n cap ht' kl kh km l h h h0 h1 (Int.le_refl _) (by omega), he, hsz]; simp [Result.andThen]

theorem ck_str {t : Nat} (h : cutCk P t 0 = true) : P.underlying t = some .string := by
  unfold cutCk at h
  split at h
  · simp at h
  · rename_i he; exact he
  · cases h
theorem ck_sl {t sz : Nat} (h : cutCk P t sz = true) (h0 : sz ≠ 0) :
    ∃ e, P.underlying t = some (.slice e) ∧ szCk P e sz = true := by
  unfold cutCk at h
  split at h
  · rename_i e he
    simp only [Bool.and_eq_true] at h
    exact ⟨e, he, h.1⟩
  · simp at h; exact absurd h h0
  · cases h
theorem slice_sound {t sz : Nat} {x v : AV} {u : Value} {lo hi mx : Option AV} {lo' hi' mx' : Option Value} (hx : VR s L C w x u)
    (hck : cutCk P t sz = true)
    (hlo : VO s L C w lo lo') (hhi : VO s L C w hi hi') (hmx : VO s L C w mx mx') (h : sliceV s sz x lo hi mx = some v) :
    ∃ val, (Instr.sliceAt t u lo' hi' mx').run P w = .ok val w ∧ VR s L C w v val := by
  cases hx <;> try (simp [sliceV] at h; done)
  case str q =>
    simp only [sliceV] at h
    obtain ⟨l, el, h⟩ := bind_some h
    obtain ⟨m, em, h⟩ := bind_some h
    cases mx with
    | some _ => simp at h
    | none =>
      dsimp only at h
      split at h
      · rename_i hq
        obtain ⟨h0, h1, h2, h9⟩ := hq
        obtain rfl := Option.some.inj h
        subst h9
        obtain rfl : mx' = none := by cases mx' with | none => rfl | some v => exact hmx.elim
        have hu := ck_str hck
        refine ⟨_, ?_, .str _⟩
        rcases optInt_sound hlo el with ⟨rfl, rfl⟩ | ⟨kl, rfl⟩
        · rcases optInt_sound hhi em with ⟨rfl, rfl⟩ | ⟨kh, rfl⟩
          · simp [Instr.sliceAt, Instr.slice, run_underlying hu, Instr.sliceBounds]
          · simp [Instr.sliceAt, Instr.slice, run_underlying hu, Instr.sliceBounds, run_sliceBound w kh m q.size _ (by omega) h2]
        · rcases optInt_sound hhi em with ⟨rfl, rfl⟩ | ⟨kh, rfl⟩
          · simp [Instr.sliceAt, Instr.slice, run_underlying hu, Instr.sliceBounds, run_sliceBound w kl l q.size _ h0 (by omega)]
          · have hb := run_sliceBound (P := P) w kl l m.toNat .sliceB h0 (by omega)
            simp [Instr.sliceAt, Instr.slice, run_underlying hu, Instr.sliceBounds, run_sliceBound w kh m q.size _ (by omega) h2, hb]
      · cases h
  case imm full n cs A cap b o u' hn hf hok hA hc hr =>
    simp only [sliceV] at h
    obtain ⟨l, el, h⟩ := bind_some h
    obtain ⟨m, em, h⟩ := bind_some h
    have fin : ∀ (full' : Bool) (k : Nat), 0 ≤ l → l ≤ m → m ≤ n → (full' = true → k = m.toNat) → m.toNat ≤ k → k ≤ cap → (full' = true → full = true ∨ m = l) →
        VR s L C w (.imm full' (m - l).toNat ((cs.drop (l.toNat * sz)).take ((m - l).toNat * sz))) (sliced A l.toNat m.toNat k sz) := by
      intro full' k h0 h1 h2 hk hmk hkc hfl
      have e1 : m.toNat - l.toNat = (m - l).toNat := by omega
      unfold sliced
      rw [e1]
      refine .imm _ _ _ _ _ b (o + l.toNat * sz) (fun j => u' (l.toNat * sz + j)) ⟨by omega, fun hq => by
        obtain ⟨a, rfl⟩ := hn.2 (by omega)
        rw [if_neg (by omega)]
        exact ⟨_, rfl⟩⟩ (fun hq => ⟨by have := hk hq; omega, fun hne => by
        rcases hfl hq with h5 | h5
        · exact (hf h5).2 (by rintro rfl; simp at hne)
        · rw [show (m - l).toNat = 0 by omega] at hne; simp at hne⟩) (cellsOk_take (cellsOk_drop hok _) _) (fun hne => ?_) (fun j x hx => ?_) fun j x hx => ?_
      · have hne' : cs ≠ [] := by rintro rfl; simp at hne
        have hlt : k ≠ l.toNat := by
          rintro rfl
          have : (m - l).toNat = 0 := by omega
          rw [this] at hne
          simp at hne
        rw [if_neg hlt, hA hne']
        simp [add_lit']
      · rw [List.getElem?_take] at hx
        split at hx
        · rw [List.getElem?_drop] at hx
          have := hc _ x hx
          rwa [Nat.add_assoc]
        · cases hx
      · rw [List.getElem?_take] at hx
        split at hx
        · rw [List.getElem?_drop] at hx
          exact hr _ x hx
        · cases hx
    cases mx with
    | none =>
      dsimp only at h
      split at h
      · rename_i hq
        obtain ⟨h0, h1, h2, h9⟩ := hq
        obtain rfl := Option.some.inj h
        obtain ⟨e, hu, hs⟩ := ck_sl hck h9
        refine ⟨_, run_cut hu hs hlo hhi hmx el em h0 h1 h2 hn.1 (.inl rfl), ?_⟩
        rw [if_pos rfl]
        have hn1 := hn.1
        refine fin _ cap h0 h1 h2 (fun hq => ?_) (by omega) (Nat.le_refl _) fun hq => ?_
        · simp only [Bool.and_eq_true, decide_eq_true_eq] at hq
          have := (hf hq.1).1
          omega
        · simp only [Bool.and_eq_true, decide_eq_true_eq] at hq
          exact .inl hq.1
      · cases h
    | some a =>
      cases a <;> try (simp at h; done)
      case int km mm =>
        dsimp only at h
        split at h
        · rename_i hq
          obtain ⟨h0, h1, h2, rfl, h4, h9⟩ := hq
          obtain rfl := Option.some.inj h
          obtain ⟨e, hu, hs⟩ := ck_sl hck h9
          refine ⟨_, run_cut hu hs hlo hhi hmx el em h0 h1 h2 hn.1 (.inr ⟨_, rfl, h4⟩), ?_⟩
          rw [if_neg (by simp)]
          have hn1 := hn.1
          exact fin _ _ h0 h1 h2 (fun _ => rfl) (Nat.le_refl _) (by omega) fun hq => by simpa [Bool.or_eq_true, decide_eq_true_eq] using hq
        · cases h
  case slr d i off n ver full e' sz' cs ver' pr hg hv hs' hc =>
    obtain ⟨A, cap, rfl, hn, hfull, hA⟩ := hs'
    simp only [sliceV] at h
    obtain ⟨l, el, h⟩ := bind_some h
    obtain ⟨m, em, h⟩ := bind_some h
    rw [hg] at h
    have fin : ∀ (full' : Bool) (k : Nat), sz' = sz → 0 ≤ l → l ≤ m → m ≤ n → (full' = true → k = m.toNat) → m.toNat ≤ k → k ≤ cap → (full' = false → full = false ∧ k = cap) →
        VR s L C w (.slr d i (off + l.toNat * sz) (m - l).toNat ver full') (sliced A l.toNat m.toNat k sz) := by
      rintro full' k rfl h0 h1 h2 hk hmk hkc hff
      have e1 : m.toNat - l.toNat = (m - l).toNat := by omega
      unfold sliced
      rw [e1]
      have hA' : 0 < k - l.toNat → (if k = l.toNat then A else A.map (·.add (l.toNat * sz'))) = A.map (·.add (l.toNat * sz')) := fun hq => if_neg (by omega)
      refine .slr _ _ _ _ _ _ e' sz' cs ver' pr _ hg hv ⟨_, _, rfl, by omega, fun hq => by have := hk hq; omega, fun hq => ?_⟩ fun hq => ?_
      · obtain ⟨a, rfl⟩ := hA (by omega)
        rw [hA' hq]
        exact ⟨_, rfl⟩
      · obtain ⟨A2, cap2, he, hn2, hf2, hA2⟩ := hc hq
        injection he with he1 _ he3
        subst he1
        subst he3
        refine ⟨_, _, rfl, by omega, ?_, fun hq => ?_⟩
        · cases full' with
          | false =>
            obtain ⟨rfl, rfl⟩ := hff rfl
            rw [if_neg (by simp)] at hf2 ⊢
            rw [← hf2]
            have : l.toNat * sz' + (k - l.toNat) * sz' = k * sz' := by rw [← Nat.add_mul]; congr 1; omega
            omega
          | true =>
            rw [if_pos rfl]
            have := hk rfl
            refine ⟨by omega, ?_⟩
            have hmul : l.toNat * sz' + (m - l).toNat * sz' = m.toNat * sz' := by rw [← Nat.add_mul]; congr 1; omega
            have hle : m.toNat * sz' ≤ n * sz' := Nat.mul_le_mul_right _ (by omega)
            cases full with
            | true =>
              rw [if_pos rfl] at hf2
              omega
            | false =>
              rw [if_neg (by simp)] at hf2
              have : n * sz' ≤ cap * sz' := Nat.mul_le_mul_right _ hn
              omega
        · rw [hA' hq, hA2 (by omega)]
          simp [add_lit', Nat.add_assoc]
    dsimp only at h
    cases mx with
    | none =>
      dsimp only at h
      split at h
      · rename_i hq
        obtain ⟨h0, h1, h2, h3, h4, h9⟩ := hq
        obtain rfl := Option.some.inj h
        obtain ⟨e, hu, hs⟩ := ck_sl hck h9
        refine ⟨_, run_cut hu hs hlo hhi hmx el em h0 h1 h2 hn (.inl rfl), ?_⟩
        rw [if_pos rfl]
        refine fin _ cap h4 h0 h1 h2 (fun hq => ?_) (by omega) (Nat.le_refl _) fun hq => ⟨hq, rfl⟩
        have := hfull hq
        have := h3 hq
        omega
      · cases h
    | some a =>
      cases a <;> try (simp at h; done)
      case int km mm =>
        dsimp only at h
        split at h
        · rename_i hq
          obtain ⟨h0, h1, h2, rfl, h3, h4, h9⟩ := hq
          obtain rfl := Option.some.inj h
          obtain ⟨e, hu, hs⟩ := ck_sl hck h9
          refine ⟨_, run_cut hu hs hlo hhi hmx el em h0 h1 h2 hn (.inr ⟨_, rfl, h3⟩), ?_⟩
          rw [if_neg (by simp)]
          exact fin true _ h4 h0 h1 h2 (fun _ => rfl) (Nat.le_refl _) (by omega) (fun hq => by cases hq)
        · cases h
end
end Go.Proofs.YthogcanomihelaaDoor.Ae

/- The operations that make and read; all of them together. -/
import Derived.Test.YthogcanomihelaaDoorAe10
set_option linter.unusedSimpArgs false
set_option linter.unusedVariables false
namespace Go.Proofs.YthogcanomihelaaDoor.Ae
open Go
section
variable {P : Program} {s : Store} {L : Nat → Nat → Loc} {C : Cs} {w : World}
variable {f : Operand → Opd → Bool} {ρC : Operand → Value} {ρA : Opd → AV} {o : Oper} {v : AV} {s' : Store}

theorem str_get (t : ByteArray) (n : Nat) : t[n]? = t.data[n]? := by
  rcases Nat.lt_or_ge n t.size with h | h
  · rw [getElem?_pos t n h, Array.getElem?_eq_getElem (by simpa using h)]
    rfl
  · rw [getElem?_neg t n (by omega), Array.getElem?_eq_none (by simpa using h)]

theorem op_index {t : Nat} {x i : Operand} {y j : Opd} (hR : SR s L C w) (hρ : ∀ x y, f x y = true → VR s L C w (ρA y) (ρC x)) (ho : o.op = .index t x i) (hck : (strCk P t && f x y && f i j) = true) (hev : evOp (.sidx y j) ρA s = some (v, s')) : Runs P s L C w (execOp ρC o) s' v := by
  simp only [Bool.and_eq_true] at hck
  obtain ⟨⟨h1, h2⟩, h3⟩ := hck
  have ht : P.underlying t = some .string := by
    unfold strCk at h1
    split at h1
    · assumption
    · cases h1
  have hx := hρ _ _ h2
  have hi := hρ _ _ h3
  generalize hxv : ρC x = u at hx
  generalize hiv : ρC i = ui at hi
  simp only [evOp] at hev
  split at hev
  · rename_i t' kk k hq hq2
    rw [hq] at hx
    rw [hq2] at hi
    cases hi
    cases hx
    split at hev
    · rename_i h0
      split at hev
      · rename_i b hb
        refine run_same hR (x := Instr.index t (ρC x) (ρC i)) (by simp [execOp, ho]) ?_ (.int _ _) hev
        rw [hxv, hiv]
        simp only [Instr.index, asIntOf, Sem.run_bind, Sem.run_pure, Result.andThen_ok, run_underlying ht, h0, if_true, str_get, hb]
      · cases hev
    · cases hev
  · cases hev
theorem op_makeSlice {t e sz bytes : Nat} {z : List AV} {n c : Operand} {n' c' : Opd} (hR : SR s L C w) (hρ : ∀ x y, f x y = true → VR s L C w (ρA y) (ρC x)) (ho : o.op = .makeSlice t n c)
    (hck : (slCk P t e && szCk P e sz && decide (0 < sz) && byCk P e bytes && decide (0 < bytes) && zeroCk P e z && f n n' && f c c') = true) (hev : evOp (.mk e sz bytes z n' c') ρA s = some (v, s')) : Runs P s L C w (execOp ρC o) s' v := by
  simp only [Bool.and_eq_true, decide_eq_true_eq] at hck
  obtain ⟨⟨⟨⟨⟨⟨⟨h1, h2⟩, h3⟩, h4⟩, h5⟩, h6⟩, h7⟩, h8⟩ := hck
  simp only [evOp] at hev
  have key := mk_sound (P := P) hR (hρ _ _ h7) (hρ _ _ h8) h1 h2 h3 h4 h5 h6 hev
  exact run_made (by unfold execOp; rw [ho]) key
theorem op_extract {x : Operand} {i j : Nat} {y : Opd} (hR : SR s L C w) (hρ : ∀ x y, f x y = true → VR s L C w (ρA y) (ρC x)) (ho : o.op = .extract x i) (hck : ((i == j) && f x y) = true) (hev : evOp (.ext y j) ρA s = some (v, s')) : Runs P s L C w (execOp ρC o) s' v := by
  simp only [Bool.and_eq_true, beq_iff_eq] at hck
  obtain ⟨rfl, h⟩ := hck
  have hx := hρ _ _ h
  generalize hxv : ρC x = u at hx
  simp only [evOp] at hev
  split at hev
  · rename_i vs hq
    rw [hq] at hx
    cases hx with
    | tup _ us hl hr =>
      obtain ⟨v', hv', hev⟩ := bind_some hev
      obtain ⟨u', hu1, hu2⟩ := VRs.get ⟨hl, hr⟩ hv'
      refine run_same hR (x := Instr.extract (ρC x) i) (by simp [execOp, ho]) ?_ hu2 hev
      rw [hxv]
      simp [Instr.extract, hu1]
  · cases hev
theorem op_makeFunc {fn : Fn} {az bs : Array Operand} {g : Nat} {az' bs' : List Opd} (hR : SR s L C w) (hρ : ∀ x y, f x y = true → VR s L C w (ρA y) (ρC x)) (ho : o.op = .makeFunc fn az bs)
    (hck : ((match (generalizing := false) fn with | .func h => h == g | _ => false) && ckList f az.toList az' && ckList f bs.toList bs') = true) (hev : evOp (.mkfn g az' bs') ρA s = some (v, s')) : Runs P s L C w (execOp ρC o) s' v := by
  simp only [Bool.and_eq_true] at hck
  obtain ⟨⟨h1, h2⟩, h3⟩ := hck
  obtain rfl : fn = .func g := by
    split at h1
    · simp at h1; rw [h1]
    · cases h1
  simp only [evOp] at hev
  have k1 := ckList_sound hρ h2
  have k2 := ckList_sound hρ h3
  refine run_same hR (x := Instr.makeFunc (.func g) (az.map ρC) (bs.map ρC)) (by simp [execOp, ho]) rfl ?_ hev
  rw [show az.map ρC = (az.toList.map ρC).toArray from Array.ext' (Array.toList_map ..), show bs.map ρC = (bs.toList.map ρC).toArray from Array.ext' (Array.toList_map ..)]
  exact .fn g _ _ _ _ k1.1 k2.1 k1.2 k2.2
theorem op_makeInterface {t t' : Nat} {x : Operand} {y : Opd} (hR : SR s L C w) (hρ : ∀ x y, f x y = true → VR s L C w (ρA y) (ρC x)) (ho : o.op = .makeInterface t x) (hck : ((t == t') && P.concrete t && f x y) = true) (hev : evOp (.ifc t' y) ρA s = some (v, s')) : Runs P s L C w (execOp ρC o) s' v := by
  simp only [Bool.and_eq_true, beq_iff_eq] at hck
  obtain ⟨⟨rfl, h1⟩, h2⟩ := hck
  simp only [evOp] at hev
  exact run_same hR (x := Instr.makeInterface t (ρC x)) (by simp [execOp, ho]) (run_makeInterface w t _ h1) (.ifc _ _ _ (hρ _ _ h2)) hev

theorem run_equalIn_bool {t : Nat} {a b : Bool} (d : Nat) (ht : P.underlying t = some .bool) : (Op.equalIn (d + 1) t (.bool a) (.bool b)).run P w = .ok (a == b) w := by
  simp only [Op.equalIn, Sem.run_bind, run_underlying ht, Result.andThen_ok, Sem.run_pure]
theorem op_beq {op : BinOp} {t ty : Nat} {x y : Operand} {neg : Bool} {x' y' : Opd} (hR : SR s L C w) (hρ : ∀ x y, f x y = true → VR s L C w (ρA y) (ρC x)) (ho : o.op = .binOp op t x y ty)
    (hck : (decide (op = if neg then .neq else .eql) && (match P.underlying t with | some .bool => true | _ => false) && f x x' && f y y') = true) (hev : evOp (.beq neg x' y') ρA s = some (v, s')) : Runs P s L C w (execOp ρC o) s' v := by
  simp only [Bool.and_eq_true, decide_eq_true_eq] at hck
  obtain ⟨⟨⟨rfl, h1⟩, h2⟩, h3⟩ := hck
  have ht : P.underlying t = some .bool := by
    split at h1
    · assumption
    · cases h1
  have hx := hρ _ _ h2
  have hy := hρ _ _ h3
  generalize hxv : ρC x = ux at hx
  generalize hyv : ρC y = uy at hy
  simp only [evOp] at hev
  split at hev
  · rename_i a b hq hq2
    rw [hq] at hx
    rw [hq2] at hy
    cases hx
    cases hy
    refine run_same hR (x := do eqGuard (if neg then .neq else .eql) t x y (ρC x) (ρC y); binOp (if neg then .neq else .eql) t (ρC x) (ρC y)) (by simp [execOp, ho]) ?_ (.bool _) hev
    rw [hxv, hyv]
    have hg : ∀ op, (eqGuard op t x y (.bool a) (.bool b)).run P w = .ok () w := by intro op; cases op <;> rfl
    have he : (Op.equal t (.bool a) (.bool b)).run P w = .ok (a == b) w := by
      exact run_equalIn_bool 9999 ht
    simp only [Sem.run_bind, hg, Result.andThen_ok]
    cases neg <;> simp [binOp, he]
  · cases hev
theorem run_eq_sl {t e : Nat} {A : Option Addr} {n cap a b : Nat} (d : Nat) (hu : P.underlying t = some (.slice e)) : (Op.equalIn (d + 1) t (.slice A n cap) (.slice none a b)).run P w = .ok A.isNone w := by
  cases A <;> simp [Op.equalIn, run_underlying hu]
theorem run_eq_pt {t e : Nat} {p : Option Addr} (d : Nat) (hu : P.underlying t = some (.pointer e)) : (Op.equalIn (d + 1) t (.pointer p) (.pointer none)).run P w = .ok p.isNone w := by
  cases p <;> simp [Op.equalIn, run_underlying hu]
theorem run_eq_fn {t : Nat} {a b : Array TypeId} {c : Bool} {r : Bool} {u : Value} (d : Nat) (hu : P.underlying t = some (.func a b c)) (hur : u = .nilFunc ∧ r = true ∨ ∃ f a b, u = .func f a b ∧ r = false) : (Op.equalIn (d + 1) t u .nilFunc).run P w = .ok r w := by
  rcases hur with ⟨rfl, rfl⟩ | ⟨_, _, _, rfl, rfl⟩ <;> simp [Op.equalIn, run_underlying hu]
theorem run_eq_if {t : Nat} {a : Array (String × TypeId)} {r : Bool} {u : Value} (d : Nat) (hu : P.underlying t = some (.interface a)) (hur : u = .nilIface ∧ r = true ∨ ∃ f a, u = .iface f a ∧ r = false) : (Op.equalIn (d + 1) t u .nilIface).run P w = .ok r w := by
  rcases hur with ⟨rfl, rfl⟩ | ⟨_, _, rfl, rfl⟩ <;> simp [Op.equalIn, run_underlying hu]
theorem run_nil {t : Nat} {x y : Operand} {u yv : Value} {neg r : Bool} (hg : (eqGuard (if neg then .neq else .eql) t x y u yv).run P w = .ok () w) (he : (Op.equal t u yv).run P w = .ok r w)
    (hb : ∀ op, op = BinOp.eql ∨ op = BinOp.neq → binOp op t u yv = (match op with | .eql => (do pure (.bool (← Op.equal t u yv))) | _ => (do pure (.bool (!(← Op.equal t u yv)))))) :
    (do eqGuard (if neg then .neq else .eql) t x y u yv; binOp (if neg then .neq else .eql) t u yv : Sem Value).run P w = .ok (.bool (if neg then !r else r)) w := by
  simp only [Sem.run_bind, hg, Result.andThen_ok]
  cases neg
  · rw [hb _ (.inl (by simp))]
    simp [he]
  · rw [hb _ (.inr (by simp))]
    simp [he]
theorem op_isnil {op : BinOp} {t ty k : Nat} {x y : Operand} {neg : Bool} {x' : Opd} (hcst : ∀ c, ρC (.const c) = c) (hR : SR s L C w) (hρ : ∀ x y, f x y = true → VR s L C w (ρA y) (ρC x)) (ho : o.op = .binOp op t x y ty)
    (hck : (decide (op = if neg then .neq else .eql) && nilCk P t k y && f x x') = true) (hev : evOp (.isnil k neg x') ρA s = some (v, s')) : Runs P s L C w (execOp ρC o) s' v := by
  simp only [Bool.and_eq_true, decide_eq_true_eq] at hck
  obtain ⟨⟨rfl, h1⟩, h2⟩ := hck
  have hx := hρ _ _ h2
  generalize hxv : ρC x = u at hx
  have fin : ∀ (yv : Value) (r : Bool), y = .const yv → (eqGuard (if neg then .neq else .eql) t x y u yv).run P w = .ok () w → (Op.equal t u yv).run P w = .ok r w →
      (∀ op, op = BinOp.eql ∨ op = BinOp.neq → binOp op t u yv = (match op with | .eql => (do pure (.bool (← Op.equal t u yv))) | _ => (do pure (.bool (!(← Op.equal t u yv)))))) →
      VR s L C w v (.bool (if neg then !r else r)) → s' = s → Runs P s L C w (execOp ρC o) s' v := by
    intro yv r hy hg he hb hv hs
    subst hs
    refine run_same hR (x := do eqGuard (if neg then .neq else .eql) t x y (ρC x) (ρC y); binOp (if neg then .neq else .eql) t (ρC x) (ρC y)) (by simp [execOp, ho]) ?_ hv rfl
    rw [hxv, show ρC y = yv by rw [hy]; exact hcst yv]
    exact run_nil hg he hb
  simp only [evOp] at hev
  unfold nilCk at h1
  split at h1
  · -- slices
    rename_i e a b hu
    have key : ∀ (A : Option Addr) (n cap : Nat), u = .slice A n cap → n ≤ cap → (0 < cap → ∃ a, A = some a) → (if n = 0 then AV.anyb else .bool neg) = v → s = s' → Runs P s L C w (execOp ρC o) s' v := by
      intro A n cap hun hn hA hv hs
      subst hun
      refine fin _ A.isNone rfl ?_ ?_ ?_ ?_ hs.symm
      · cases neg <;> rfl
      · exact run_eq_sl 9999 hu
      · intro op hop; rcases hop with rfl | rfl <;> rfl
      · subst hv
        split
        · exact .anyb _
        · rename_i hn0
          obtain ⟨a, rfl⟩ := hA (by omega)
          cases neg <;> exact .bool _
    split at hev
    · rename_i full n cs hq
      rw [hq] at hx
      simp only [Option.some.injEq, Prod.mk.injEq] at hev
      cases hx with
      | imm _ _ _ A cap b o' u' hn hf hok hA hc hr => exact key A _ cap rfl hn.1 hn.2 hev.1 hev.2
    · rename_i d i off n ver full hq
      rw [hq] at hx
      simp only [Option.some.injEq, Prod.mk.injEq] at hev
      cases hx with
      | slr _ _ _ _ _ _ e' sz' cs ver' pr v h hv hsV hc =>
        obtain ⟨A, cap, rfl, hn, hf, hA⟩ := hsV
        exact key A _ cap rfl hn hA hev.1 hev.2
    all_goals first | (rename_i hh _; cases hh; done) | (rename_i hh; cases hh; done) | (cases hev; done)
  · -- pointers
    rename_i e hu
    have key : ∀ (p : Option Addr), u = .pointer p → AV.bool (if p.isNone then !neg else neg) = v → s = s' → Runs P s L C w (execOp ρC o) s' v := by
      intro p hup hv hs
      subst hup
      refine fin _ p.isNone rfl ?_ ?_ ?_ ?_ hs.symm
      · cases neg <;> rfl
      · exact run_eq_pt 9999 hu
      · intro op hop; rcases hop with rfl | rfl <;> rfl
      · subst hv
        cases p <;> cases neg <;> exact .bool _
    split at hev
    all_goals first | (cases hev; done) | skip
    all_goals simp only [Option.some.injEq, Prod.mk.injEq] at hev
    all_goals first | (rename_i hh _; cases hh; done) | (rename_i hh; cases hh; done) | skip
    · rename_i hq; rw [hq] at hx; cases hx; exact key none rfl hev.1 hev.2
    · rename_i hq; rw [hq] at hx; cases hx; exact key (some _) rfl hev.1 hev.2
    · rename_i hq
      rw [hq] at hx
      cases hx with
      | aptr d i off ver e sz cs ver' pr v h hv hs hc =>
        obtain ⟨a, rfl⟩ := hs
        exact key (some _) rfl hev.1 hev.2
    · rename_i hq; rw [hq] at hx; cases hx; exact key (some _) rfl hev.1 hev.2
  · -- functions
    rename_i a b c hu
    have key : ∀ (r : Bool), (u = .nilFunc ∧ r = true ∨ ∃ f a b, u = .func f a b ∧ r = false) → AV.bool (if r then !neg else neg) = v → s = s' → Runs P s L C w (execOp ρC o) s' v := by
      intro r hur hv hs
      refine fin _ r rfl ?_ ?_ ?_ ?_ hs.symm
      · rcases hur with ⟨rfl, _⟩ | ⟨_, _, _, rfl, _⟩ <;> cases neg <;> rfl
      · exact run_eq_fn 9999 hu hur
      · intro op hop; rcases hur with ⟨rfl, _⟩ | ⟨_, _, _, rfl, _⟩ <;> rcases hop with rfl | rfl <;> rfl
      · subst hv
        cases r <;> cases neg <;> exact .bool _
    split at hev
    all_goals first | (cases hev; done) | skip
    all_goals simp only [Option.some.injEq, Prod.mk.injEq] at hev
    all_goals first | (rename_i hh _; cases hh; done) | (rename_i hh; cases hh; done) | skip
    · rename_i hq; rw [hq] at hx; cases hx; exact key true (.inl ⟨rfl, rfl⟩) hev.1 hev.2
    · rename_i hq; rw [hq] at hx; cases hx; exact key false (.inr ⟨_, _, _, rfl, rfl⟩) hev.1 hev.2
  · -- interfaces
    rename_i a hu
    have key : ∀ (r : Bool), (u = .nilIface ∧ r = true ∨ ∃ f a, u = .iface f a ∧ r = false) → AV.bool (if r then !neg else neg) = v → s = s' → Runs P s L C w (execOp ρC o) s' v := by
      intro r hur hv hs
      refine fin _ r rfl ?_ ?_ ?_ ?_ hs.symm
      · rcases hur with ⟨rfl, _⟩ | ⟨_, _, rfl, _⟩ <;> cases neg <;> simp [eqGuard]
      · exact run_eq_if 9999 hu hur
      · intro op hop; rcases hur with ⟨rfl, _⟩ | ⟨_, _, rfl, _⟩ <;> rcases hop with rfl | rfl <;> rfl
      · subst hv
        cases r <;> cases neg <;> exact .bool _
    split at hev
    all_goals first | (cases hev; done) | skip
    all_goals simp only [Option.some.injEq, Prod.mk.injEq] at hev
    all_goals first | (rename_i hh _; cases hh; done) | (rename_i hh; cases hh; done) | skip
    · rename_i hq; rw [hq] at hx; cases hx; exact key true (.inl ⟨rfl, rfl⟩) hev.1 hev.2
    · rename_i hq; rw [hq] at hx; cases hx; exact key false (.inr ⟨_, _, rfl, rfl⟩) hev.1 hev.2
  · cases h1
theorem toBytes_ints : ∀ (cs : List AV) (us : List Value) (b r : ByteArray), VRs s L C w cs us → toBytes cs b = some r → ∃ ns : List Int, us = ns.map (Value.int .u8) ∧ ns.foldl (fun r n => r.push (UInt8.ofNat n.toNat)) b = r
  | [], us, b, r, hv, h => by
    simp only [toBytes, Option.some.injEq] at h
    have : us = [] := List.eq_nil_of_length_eq_zero hv.1
    exact ⟨[], by simp [this], h⟩
  | c :: cs, us, b, r, hv, h => by
    unfold toBytes at h
    split at h
    · rename_i hq; cases hq
    · rename_i b' n q hq
      obtain ⟨rfl, rfl⟩ := List.cons.inj hq
      cases us with
      | nil => have := hv.1; simp at this
      | cons u ur =>
        have h0 := hv.2 0 _ u rfl rfl
        cases h0
        obtain ⟨ns, h1, h2⟩ := toBytes_ints cs ur _ r ⟨by simpa using hv.1, fun j x y hx hy => hv.2 (j + 1) x y (by simpa using hx) (by simpa using hy)⟩ h
        exact ⟨n :: ns, by simp [h1], h2⟩
    · cases h
theorem op_b2s {src dst : Nat} {x : Operand} {y : Opd} (hR : SR s L C w) (hρ : ∀ x y, f x y = true → VR s L C w (ρA y) (ρC x)) (ho : o.op = .convert src dst x)
    (hck : ((match P.underlying src with | some (.slice e) => (match P.underlying e with | some (.int .u8) => true | _ => false) | _ => false) && strCk P dst && f x y) = true) (hev : evOp (.b2s y) ρA s = some (v, s')) : Runs P s L C w (execOp ρC o) s' v := by
  simp only [Bool.and_eq_true] at hck
  obtain ⟨⟨h1, h2⟩, h3⟩ := hck
  obtain ⟨e, hs, he⟩ : ∃ e, P.underlying src = some (.slice e) ∧ P.underlying e = some (.int .u8) := by
    split at h1
    · rename_i e hs
      split at h1
      · rename_i he; exact ⟨e, hs, he⟩
      · cases h1
    · cases h1
  have hd : P.underlying dst = some .string := by
    unfold strCk at h2
    split at h2
    · assumption
    · cases h2
  have hx := hρ _ _ h3
  generalize hxv : ρC x = u at hx
  simp only [evOp] at hev
  obtain ⟨⟨n, cs⟩, hq, hev⟩ := bind_some hev
  simp only at hev
  split at hev
  · rename_i hn
    obtain ⟨b, hb, hev⟩ := bind_some hev
    obtain ⟨A, cap, us, rfl, hle, hv, hrow⟩ := elems_sound hR hx hq
    obtain ⟨ns, h4, h5⟩ := toBytes_ints cs us .empty b hv hb
    refine run_same hR (x := convert src dst (ρC x)) (by simp [execOp, ho]) ?_ (.str _) hev
    rw [hxv, run_convert_bytes_string w src dst e A n cap hs he hd]
    have hul : us.length = n := by rw [hv.1, hn]
    cases A with
    | none =>
      have hus : us = [] := by
        rcases List.eq_nil_or_concat us with h | ⟨_, _, h⟩
        · exact h
        · obtain ⟨b', o', hA, _⟩ := hrow (by rw [h]; simp)
          cases hA
      rw [hus] at h4
      have : ns = [] := by cases ns with | nil => rfl | cons a b => simp at h4
      subst this
      simp only [List.foldl_nil] at h5
      subst h5
      rfl
    | some a =>
      rw [← h5]
      refine run_bytesToString w a n cap ns ?_
      rw [← h4, ← hul]
      refine run_loadCells_list w a us ?_
      intro j v hv
      obtain ⟨b', o', hA, hr⟩ := hrow (by rintro rfl; simp at hv)
      obtain rfl := Option.some.inj hA
      rw [add_lit']
      exact hr j v hv
  · cases hev

theorem arr_one {α : Type} {a : Array α} {x : α} (h : a.toList = [x]) : a = #[x] := Array.ext' h
theorem arr_two {α : Type} {a : Array α} {x y : α} (h : a.toList = [x, y]) : a = #[x, y] := Array.ext' h

theorem run_builtin {m : Sem Next} {c : Call} {b : Builtin} {args : Array Operand} {ts : Array TypeId} (ho : o.op = .call c) (hc : c.callee = .builtin b) (ha : c.args = args) (ht : c.argTypes = ts)
    (hm : ∀ k, builtin b ts o.type k (args.map ρC) = m) : execOp ρC o = m := by
  subst ha ht
  rw [← hm (c.args.map fun | .const _ => true | _ => false)]
  simp only [execOp, ho, resolve, hc, pure_bind, invoke]
  rfl

theorem op_len {c : Call} {st : Bool} {y : Opd} (hR : SR s L C w) (hρ : ∀ x y, f x y = true → VR s L C w (ρA y) (ρC x)) (ho : o.op = .call c)
    (hck : (match c.callee, c.args.toList, c.argTypes.toList with
    | .builtin .len, [x], [t] => f x y && (match P.underlying t with | some (.slice _) => !st | some .string => st | _ => false)
    | _, _, _ => false) = true) (hev : evOp (.len st y) ρA s = some (v, s')) : Runs P s L C w (execOp ρC o) s' v := by
  split at hck
  · rename_i x t hc ha ht
    simp only [Bool.and_eq_true] at hck
    obtain ⟨h1, h2⟩ := hck
    have hx := hρ _ _ h1
    have he : execOp ρC o = (do pure (Next.value (← Builtin.len_ #[t] o.type #[ρC x]))) := run_builtin ho hc (arr_one ha) (arr_one ht) fun k => by simp [builtin]
    generalize hxv : ρC x = u at hx
    simp only [evOp] at hev
    split at hev
    · rename_i full n cs hq
      rw [hq] at hx
      cases hx with
      | imm _ _ _ A cap b o' u' hn hf hok hA hc hr =>
        refine run_same hR he ?_ (.int _ _) hev
        rw [hxv]
        split at h2
        · rename_i e hu; simp [Builtin.len_, run_underlying hu, goInt]
        · cases h2
        · cases h2
    · rename_i d i off n ver full hq
      rw [hq] at hx
      cases hx with
      | slr _ _ _ _ _ _ e' sz' cs ver' pr v h hv hsV hc =>
        obtain ⟨A, cap, rfl, hn, hf, hA⟩ := hsV
        refine run_same hR he ?_ (.int _ _) hev
        rw [hxv]
        split at h2
        · rename_i e hu; simp [Builtin.len_, run_underlying hu, goInt]
        · cases h2
        · cases h2
    · rename_i t' hq
      rw [hq] at hx
      cases hx
      refine run_same hR he ?_ (.int _ _) hev
      rw [hxv]
      split at h2
      · cases h2
      · rename_i hu; simp [Builtin.len_, run_underlying hu, goInt]
      · cases h2
    · cases hev
  · cases hck
theorem op_app {c : Call} {e sz bytes : Nat} {y z : Opd} (hR : SR s L C w) (hρ : ∀ x y, f x y = true → VR s L C w (ρA y) (ρC x)) (ho : o.op = .call c)
    (hck : (match c.callee, c.args.toList, c.argTypes.toList with
    | .builtin .append, [x, v], [t, u] => f x y && f v z && slCk P t e && szCk P e sz && decide (0 < sz) && byCk P e bytes && decide (0 < bytes) &&
        (match P.info? e with | some i => (match i.zero with | some zv => zv.cells.size == sz | none => false) | none => false) &&
        (match P.underlying u with | some (.slice _) => true | some .string => true | _ => false)
    | _, _, _ => false) = true) (hev : evOp (.app e sz bytes y z) ρA s = some (v, s')) : Runs P s L C w (execOp ρC o) s' v := by
  split at hck
  · rename_i x v0 t u hc ha ht
    simp only [Bool.and_eq_true, decide_eq_true_eq] at hck
    obtain ⟨⟨⟨⟨⟨⟨⟨⟨h1, h2⟩, h3⟩, h4⟩, h5⟩, h6⟩, h7⟩, h8⟩, h9⟩ := hck
    have he : execOp ρC o = (do pure (Next.value (← Builtin.append_ #[t, u] o.type #[ρC x, ρC v0]))) := run_builtin ho hc (arr_two ha) (arr_two ht) fun k => by simp [builtin]
    simp only [evOp] at hev
    exact run_made he (append_sound hR (hρ _ _ h1) (hρ _ _ h2) (slCk_sound h3) h4 h5 h6 h7 h8 h9 hev)
  · cases hck
theorem op_convs {src dst : Nat} {x : Operand} {y : Opd} (hR : SR s L C w) (hρ : ∀ x y, f x y = true → VR s L C w (ρA y) (ρC x)) (ho : o.op = .convert src dst x)
    (hck : ((src == dst) && (match P.underlying src with | some (.slice e) => (match P.underlying e with | some (.int .u8) => true | _ => false) | _ => false) && f x y) = true) (hev : evOp (.convs y) ρA s = some (v, s')) : Runs P s L C w (execOp ρC o) s' v := by
  simp only [Bool.and_eq_true, beq_iff_eq] at hck
  obtain ⟨⟨rfl, h2⟩, h3⟩ := hck
  have hx := hρ _ _ h3
  generalize hxv : ρC x = u at hx
  simp only [evOp] at hev
  obtain ⟨v', hv', hev⟩ := bind_some hev
  simp only [Option.some.injEq, Prod.mk.injEq] at hev
  obtain ⟨rfl, rfl⟩ := hev
  unfold convsV at hv'
  split at hv'
  · rename_i n c cs hq
    rw [hq] at hx
    split at hv'
    · rename_i hn0
      obtain rfl := Option.some.inj hv'
      have hx0 := hx
      cases hx with
      | imm _ _ _ A cap b q u' hn hf hok hA hc hr =>
        obtain ⟨hcap, hfz⟩ := hf rfl
        have hAe := hA (by simp)
        subst hAe
        have hz := hfz (by simp)
        split at h2
        · rename_i e he
          split at h2
          · rename_i hb8
            obtain ⟨hcb, hcv⟩ := hc 0 c rfl
            obtain ⟨vs, t, fr, hheap⟩ : ∃ vs t fr, w.heap[b]? = some (.cells vs t fr) := by
              simp only [World.cell?] at hcv
              split at hcv
              · rename_i vs t fr hh; exact ⟨vs, t, fr, hh⟩
              all_goals cases hcv
            have hsh : w.shape? b = some (t, vs.size) := by simp [World.shape?, hheap]
            have key := hR.mark (W := w.freeze ⟨b, vs.size, none⟩ 1) hz (by simp [World.freeze]) (by simp [World.freeze]) (by simp [World.freeze]) (by simp [World.freeze])
              (fun b' hb' => by simp [World.freeze, Array.getElem?_modify, Ne.symm hb']) (fun k => by
                simp [World.freeze, World.cell?, Array.getElem?_modify, hheap])
            refine ⟨L, C, w.freeze ⟨b, vs.size, none⟩ 1, .value (.slice (some ⟨b, q, none⟩) n cap), _, ?_, .inl rfl, hx0.keep key.1, key.2, key.1⟩
            have he1 : execOp ρC o = (do pure (Next.value (← convert src src (ρC x)))) := by simp [execOp, ho]
            rw [he1, hxv]
            simp [convert, run_underlying he, run_underlying hb8, markStringish, hsh]
          · cases h2
        · cases h2
    · cases hv'
  · cases hv'
theorem op_min {c : Call} {y z : Opd} (hR : SR s L C w) (hρ : ∀ x y, f x y = true → VR s L C w (ρA y) (ρC x)) (ho : o.op = .call c)
    (hck : (match c.callee, c.args.toList with
    | .builtin .min, [x, v] => f x y && f v z
    | _, _ => false) = true) (hev : evOp (.min y z) ρA s = some (v, s')) : Runs P s L C w (execOp ρC o) s' v := by
  split at hck
  · rename_i x x2 hc ha
    simp only [Bool.and_eq_true] at hck
    obtain ⟨h1, h2⟩ := hck
    have hx := hρ _ _ h1
    have hy := hρ _ _ h2
    have he : execOp ρC o = (do pure (Next.value (← Builtin.min_ c.argTypes o.type #[ρC x, ρC x2]))) := run_builtin ho hc (arr_two ha) rfl fun k => by simp [builtin]
    generalize hxv : ρC x = u at hx
    generalize hyv : ρC x2 = u2 at hy
    simp only [evOp] at hev
    obtain ⟨v', hv', hev⟩ := bind_some hev
    unfold minV at hv'
    split at hv'
    · rename_i k a k' b hq1 hq2
      rw [hq1] at hx
      rw [hq2] at hy
      cases hx
      cases hy
      split at hv'
      · rename_i hk
        subst hk
        obtain rfl := Option.some.inj hv'
        refine run_same hR he ?_ (.int _ _) hev
        rw [hxv, hyv]
        simp [Builtin.min_, Builtin.min2]
      · cases hv'
    · cases hv'
  · cases hck
theorem op_clear {c : Call} {sz : Nat} {z : List AV} {y : Opd} (hR : SR s L C w) (hρ : ∀ x y, f x y = true → VR s L C w (ρA y) (ρC x)) (ho : o.op = .call c)
    (hck : (match c.callee, c.args.toList, c.argTypes.toList with
    | .builtin .clear, [x], [t] => f x y && (match P.underlying t with | some (.slice e) => szCk P e sz && zeroCk P e z | _ => false)
    | _, _, _ => false) = true) (hev : evOp (.clear sz z y) ρA s = some (v, s')) : Runs P s L C w (execOp ρC o) s' v := by
  split at hck
  · rename_i x t hc ha ht
    simp only [Bool.and_eq_true] at hck
    obtain ⟨h1, h2⟩ := hck
    have he : execOp ρC o = (do pure (Next.value (← Builtin.clear_ #[t] o.type #[ρC x]))) := run_builtin ho hc (arr_one ha) (arr_one ht) fun k => by simp [builtin]
    simp only [evOp] at hev
    obtain ⟨s2, hs2, hev⟩ := bind_some hev
    simp only [Option.some.injEq, Prod.mk.injEq] at hev
    obtain ⟨rfl, rfl⟩ := hev
    obtain ⟨w', k1, k2, k3⟩ := clear_sound (P := P) (ty := o.type) hR (hρ _ _ h1) h2 hs2
    exact run_made he ⟨L, C, w', _, k1, .undef _, k2, k3⟩
  · cases hck

/-- EVERY OPERATION THAT IS NO CALL. -/
theorem op_sound {a : AOp} (hcst : ∀ c, ρC (.const c) = c) (hR : SR s L C w) (hρ : ∀ x y, f x y = true → VR s L C w (ρA y) (ρC x)) (hck : ckOp f P o.op a = true) (hev : evOp a ρA s = some (v, s')) : Runs P s L C w (execOp ρC o) s' v := by
  generalize ho : o.op = q at hck
  unfold ckOp at hck
  split at hck
  · exact op_move hR hρ ho hck hev
  · exact op_assign hR hρ ho hck hev
  · exact op_pick hR hρ ho hck hev
  · exact op_alloc hR hρ ho hck hev
  · exact op_box hR hρ ho hck hev
  · exact op_build hR hρ ho hck hev
  · exact op_buildSlice hR hρ ho hck hev
  · exact op_load hR hρ ho hck hev
  · exact op_store hR hρ ho hck hev
  · exact op_nilCheck hR hρ ho hck hev
  · exact op_binOp hR hρ ho hck hev
  · exact op_unOp hR hρ ho hck hev
  · exact op_convert hR hρ ho hck hev
  · exact op_slice hR hρ ho hck hev
  · exact op_fieldAddr hR hρ ho hck hev
  · exact op_field hR hρ ho hck hev
  · exact op_indexAddr hR hρ ho hck hev
  · exact op_index hR hρ ho hck hev
  · exact op_makeSlice hR hρ ho hck hev
  · exact op_extract hR hρ ho hck hev
  · exact op_makeFunc hR hρ ho hck hev
  · exact op_isnil hcst hR hρ ho hck hev
  · exact op_beq hR hρ ho hck hev
  · exact op_b2s hR hρ ho hck hev
  · exact op_makeInterface hR hρ ho hck hev
  · exact op_convs hR hρ ho hck hev
  · exact op_len hR hρ ho hck hev
  · exact op_app hR hρ ho hck hev
  · exact op_clear hR hρ ho hck hev
  · exact op_min hR hρ ho hck hev
  · cases hck
end
end Go.Proofs.YthogcanomihelaaDoor.Ae

/- Arguments of nested data (bools, numbers, strings, slices, structs): what reads as a datum stands to abstract values. Sources that come in. -/
import Derived.Test.YtkjonfojileipaaGreatDoorW4
import Derived.ChangeArms
import Derived.DataReads
import Derived.WideShapes
import Derived.DataElems
import Derived.KernelRfl
set_option linter.unusedSimpArgs false
set_option linter.unusedVariables false
namespace Go.Proofs.YtkjonfojileipaaGreatDoor.Ae
open Go Go.ChangeShapes Go.WideShapes
def contig (P : Program) : Nat → List Field → Option Nat
  | o, [] => some o
  | o, f :: r => if f.offset = o then contig P (o + P.cellsOf f.type) r else none
def plainB (P : Program) (S : List TypeId) : Bool := S.all fun t =>
  match P.underlying t with
  | some .bool | some (.int _) | some .string => true
  | some (.slice e) => S.contains e
  | some (.struct fs) => fs.toList.all (fun f => S.contains f.type) && decide (contig P 0 fs.toList = some (P.cellsOf t))
  | _ => false

def avT (P : Program) : Nat → TypeId → List AV → Prop
  | 0, _, _ => False
  | n + 1, t, az =>
    match P.underlying t with
    | some .bool => ∃ b, az = [.bool b]
    | some (.int k) => ∃ z, az = [.int k z] ∧ (Lit.int k z).wf = true
    | some .string => ∃ s : ByteArray, az = [.str s] ∧ s.size ≤ maxLen
    | some (.slice e) => ∃ rows : List (List AV), az = [.imm false rows.length rows.flatten] ∧ rows.length ≤ maxLen ∧ ∀ r ∈ rows, avT P n e r ∧ r.length = P.cellsOf e
    | some (.struct fs) => ∃ ps : List (List AV), az = ps.flatten ∧ ps.length = fs.size ∧ ∀ (i : Nat) f p, fs[i]? = some f → ps[i]? = some p → avT P n f.type p ∧ p.length = P.cellsOf f.type
    | _ => False

theorem flat_get {α : Type} {m : Nat} : ∀ {rows : List (List α)} {j : Nat} {x : α}, (∀ r ∈ rows, r.length = m) → rows.flatten[j]? = some x → ∃ i k r, j = i * m + k ∧ k < m ∧ rows[i]? = some r ∧ r[k]? = some x
  | [], j, x, _, h => by simp at h
  | r :: q, j, x, hm, h => by
    have hr:=hm r (by simp)
    rw [List.flatten_cons] at h
    rcases Nat.lt_or_ge j m with hj | hj
    · rw [List.getElem?_append_left (by omega)] at h
      exact ⟨0,j,r,by omega,hj,rfl,h⟩
    · rw [List.getElem?_append_right (by omega), hr] at h
      obtain ⟨i,k,r',h1,h2,h3,h4⟩:=flat_get (fun r' hr'=>hm r' (by simp [hr'])) h
      exact ⟨i + 1,k,r',by rw [Nat.succ_mul]; omega,h2,by simpa using h3,h4⟩
theorem contig_le {P : Program} : ∀ {fl : List Field} {o e : Nat}, contig P o fl = some e → o ≤ e ∧ ∀ f ∈ fl, f.offset + P.cellsOf f.type ≤ e
  | [], o, e, h => by
    simp only [contig,Option.some.injEq] at h
    exact ⟨by omega,fun f hf=>by cases hf⟩
  | f :: r, o, e, h => by
    simp only [contig] at h
    split at h
    · rename_i hf
      obtain ⟨h1,h2⟩:=contig_le h
      refine ⟨by omega,fun g hg=>?_⟩
      rcases List.mem_cons.1 hg with rfl | hg
      · omega
      · exact h2 g hg
    · cases h
theorem contig_flat {P : Program} {α β : Type} {R : α → β → Prop} {cs : List β} : ∀ {fl : List Field} {o e : Nat} {pl : List (List α)}, contig P o fl = some e → pl.length = fl.length →
    (∀ (i : Nat) f p, fl[i]? = some f → pl[i]? = some p → p.length = P.cellsOf f.type ∧ ∀ (j : Nat) a v, p[j]? = some a → cs[f.offset + j]? = some v → R a v) →
    o + pl.flatten.length = e ∧ ∀ (j : Nat) a v, pl.flatten[j]? = some a → cs[o + j]? = some v → R a v
  | [], o, e, pl, h, hl, _ => by
    simp only [contig,Option.some.injEq] at h
    obtain rfl:pl = []:=List.eq_nil_of_length_eq_zero hl
    exact ⟨by simpa using h,fun j a v ha _=>by simp at ha⟩
  | f :: r, o, e, [], h, hl, _ => by simp at hl
  | f :: r, o, e, p :: pl, h, hl, hp => by
    simp only [contig] at h
    split at h
    · rename_i hf
      obtain ⟨h1,h2⟩:=hp 0 f p rfl rfl
      obtain ⟨h3,h4⟩:=contig_flat h (by simpa using hl) fun i g q hg hq=>hp (i + 1) g q (by simpa using hg) (by simpa using hq)
      refine ⟨by rw [List.flatten_cons,List.length_append]; omega,fun j a v ha hv=>?_⟩
      rw [List.flatten_cons] at ha
      rcases Nat.lt_or_ge j p.length with hj | hj
      · rw [List.getElem?_append_left hj] at ha
        exact h2 j a v ha (by rw [hf]; exact hv)
      · rw [List.getElem?_append_right hj] at ha
        exact h4 _ a v ha (by rw [show o + P.cellsOf f.type + (j - p.length) = o + j by omega]; exact hv)
    · cases h

def startCs (w : World) : Cs := ⟨fun b o => ∃ v, w.cell? ⟨b, o, none⟩ = some v, fun _ => False, w⟩

theorem cellsOk_flat {D : Nat} : ∀ {pl : List (List AV)}, (∀ p ∈ pl, cellsOk D p = true) → cellsOk D pl.flatten = true := by
  intro pl h
  simp only [cellsOk,List.all_eq_true] at h ⊢
  intro x hx
  obtain ⟨p,hp,hx⟩:=List.mem_flatten.1 hx
  exact h p hp x hx

theorem av_of_trod {H : Type} {enc : TypeId × Value → H} {P : Program} {w : World} {base : Nat} {sp : Nat → Bool} {held : Bool} {S : List TypeId} (hS : plainB P S = true) {s : Store} {L : Nat → Nat → Loc} :
    ∀ (fuel : Nat) (t : TypeId) (cs : List Value) (x : DataW H × List MemPlace), t ∈ S → DataW.trod enc P w base sp held fuel t cs = some x →
      ∃ az, avT P fuel t az ∧ az.length = cs.length ∧ cellsOk 0 az = true ∧ ∀ (j : Nat) a v, az[j]? = some a → cs[j]? = some v → VR s L (startCs w) w a v := by
  intro fuel
  induction fuel with
  | zero => intro t cs x _ h; simp [DataW.trod] at h
  | succ n ih =>
    intro t cs x ht h
    have hp:=List.all_eq_true.1 hS t ht
    have one:∀ (a:AV) (v:Value),cs = [v]→a.isCell = true→a.lowB 0 = true→VR s L (startCs w) w a v→([a].length = cs.length∧cellsOk 0 [a] = true∧∀ (j:Nat) a' v',[a][j]? = some a'→cs[j]? = some v'→VR s L (startCs w) w a' v'):=by
      intro a v hcs h1 h2 hv
      subst hcs
      refine ⟨rfl,by simp [cellsOk,h1,h2],fun j a' v' ha hv'=>?_⟩
      cases j with
      | zero =>
        simp only [List.getElem?_cons_zero,Option.some.injEq] at ha hv'
        subst ha hv'
        exact hv
      | succ j => simp at ha
    cases hu : P.underlying t with
    | none => rw [hu] at hp; cases hp
    | some u =>
      rw [hu] at hp
      cases u <;> simp only [Bool.false_eq_true] at hp
      case bool =>
        obtain ⟨b,rfl,_⟩:=DataW.trod_bool hu h
        refine ⟨[.bool b],?_,one _ _ rfl rfl rfl (.bool b)⟩
        unfold avT
        rw [hu]
        exact ⟨b,rfl⟩
      case int k =>
        obtain ⟨z,rfl,_,hw⟩:=DataW.trod_int hu h
        refine ⟨[.int k z],?_,one _ _ rfl rfl rfl (.int k z)⟩
        unfold avT
        rw [hu]
        exact ⟨z,rfl,hw⟩
      case string =>
        obtain ⟨b,rfl,_,hw⟩:=DataW.trod_string hu h
        refine ⟨[.str b],?_,one _ _ rfl rfl rfl (.str b)⟩
        unfold avT
        rw [hu]
        exact ⟨b,rfl,hw⟩
      case slice e =>
        have he:e ∈ S:=by simpa using hp
        rcases DataW.trod_slice hu h with ⟨rfl, _⟩ | ⟨a, len, cap, elems, rest, m, hm, rfl, _, _, hl, hmax, hlen, hel, _, _⟩
        · refine ⟨[.imm false 0 []], ?_, one _ _ rfl rfl rfl (.imm false 0 [] none 0 0 0 (fun _ => .bool true) ⟨Nat.le_refl _, fun h => absurd h (Nat.lt_irrefl _)⟩ (fun h => by cases h) rfl (fun h => absurd rfl h) (fun j x hx => by simp at hx) (fun j x hx => by simp at hx))⟩
          unfold avT
          rw [hu]
          exact ⟨[],rfl,Nat.zero_le _,fun r hr=>by cases hr⟩
        · obtain rfl : m = n := by omega
          have hrow:∀ i,∃ r:List AV,i < len→(avT P m e r∧r.length = P.cellsOf e∧cellsOk 0 r = true∧∀ (k:Nat) b,r[k]? = some b→∃ v,w.cell? (a.add (i * P.cellsOf e + k)) = some v∧VR s L (startCs w) w b v):=by
            intro i
            by_cases hi:i < len
            · have h1 := hel i hi
              rw [List.getElem?_eq_getElem (by omega)] at h1
              obtain ⟨csi,h2,h3⟩:=Option.bind_eq_some_iff.1 h1
              obtain ⟨r,h4,h5,h6,h7⟩:=ih e csi _ he h3
              obtain ⟨_,h8,h9⟩:=World.cells?_some h2
              refine ⟨r,fun _=>⟨h4,by omega,h6,fun k b hk=>?_⟩⟩
              have hk':k < P.cellsOf e:=by have:=(List.getElem?_eq_some_iff.1 hk).1; omega
              have h10:=h9 k hk'
              rw [List.getElem?_eq_getElem (by omega)] at h10
              refine ⟨_,?_,h7 k b _ hk (List.getElem?_eq_getElem (by omega))⟩
              rw [← h10,Addr.add_add]
            · exact ⟨[], fun h => absurd h hi⟩
          obtain ⟨g,hg⟩:=Classical.axiomOfChoice hrow
          have hmem:∀ r ∈ (List.range len).map g,∃ i,i < len∧r = g i:=fun r hr=>by
            obtain ⟨i,hi,rfl⟩:=List.mem_map.1 hr
            exact ⟨i,List.mem_range.1 hi,rfl⟩
          have hrl:((List.range len).map g).length = len:=by simp
          have huni:∀ r ∈ (List.range len).map g,r.length = P.cellsOf e:=fun r hr=>by
            obtain ⟨i,hi,rfl⟩:=hmem r hr
            exact (hg i hi).2.1
          have hcell:∀ (j:Nat) b,((List.range len).map g).flatten[j]? = some b→∃ v,w.cell? (a.add j) = some v∧VR s L (startCs w) w b v:=by
            intro j b hb
            obtain ⟨i,k,r,rfl,hk,hr,hx⟩:=flat_get huni hb
            have hi:i < len:=by have:=(List.getElem?_eq_some_iff.1 hr).1; omega
            rw [List.getElem?_map,List.getElem?_range hi] at hr
            simp only [Option.map_some,Option.some.injEq] at hr
            subst hr
            exact (hg i hi).2.2.2 k b hx
          obtain ⟨ab,ao,spot⟩:=a
          have hspot:((List.range len).map g).flatten ≠ []→spot = none:=fun hne=>by
            obtain ⟨b,q,hq⟩:=List.exists_cons_of_ne_nil hne
            obtain ⟨v,hv,_⟩:=hcell 0 b (by rw [hq]; rfl)
            simpa [Addr.add] using World.cell?_spot hv
          have hspot':∀ (j:Nat) b,((List.range len).map g).flatten[j]? = some b→spot = none:=fun j b hb=>hspot fun h=>by rw [h] at hb; simp at hb
          have hok:cellsOk 0 ((List.range len).map g).flatten = true:=cellsOk_flat fun p hp=>by
            obtain ⟨i,hi,rfl⟩:=hmem p hp
            exact (hg i hi).2.2.1
          have hadd:∀ (j:Nat) b,((List.range len).map g).flatten[j]? = some b→(⟨ab,ao,spot⟩:Addr).add j = ⟨ab,ao + j,none⟩:=fun j b hb=>by
            rw [hspot' j b hb]
            exact Addr.add_lit ..
          refine ⟨[.imm false len ((List.range len).map g).flatten],?_,one _ _ rfl rfl rfl (.imm false len _ _ cap ab ao (fun j=>(w.cell? ⟨ab,ao + j,none⟩).getD undef) ⟨hl,fun _=>⟨_,rfl⟩⟩ (fun h=>by cases h) hok (fun hne=>by rw [hspot hne]) (fun j b hb=>?_) fun j b hb=>?_)⟩
          · unfold avT
            rw [hu]
            exact ⟨(List.range len).map g,by rw [hrl],by rw [hrl]; omega,fun r hr=>by
              obtain ⟨i,hi,rfl⟩:=hmem r hr
              exact ⟨(hg i hi).1,(hg i hi).2.1⟩⟩
          · obtain ⟨v, hv, _⟩ := hcell j b hb
            rw [hadd j b hb] at hv
            exact ⟨⟨v,hv⟩,by rw [hv]; rfl⟩
          · obtain ⟨v, hv, hr⟩ := hcell j b hb
            rw [hadd j b hb] at hv
            simp only [hv,Option.getD_some]
            exact hr
      case struct fs =>
        simp only [Bool.and_eq_true,decide_eq_true_eq,List.all_eq_true] at hp
        obtain ⟨hin,hct⟩:=hp
        obtain ⟨xs,m,hm,_,hl,hlen,hf⟩:=DataW.trod_struct hu h
        obtain rfl:m = n:=by omega
        have hle:=(contig_le hct).2
        have hpart:∀ i:Nat,∃ p:List AV,∀ f:Field,fs[i]? = some f→(avT P m f.type p∧p.length = P.cellsOf f.type∧cellsOk 0 p = true∧∀ (j:Nat) a v,p[j]? = some a→cs[f.offset + j]? = some v→VR s L (startCs w) w a v):=by
          intro i
          cases hfi : fs[i]? with
          | none => exact ⟨[], fun f h => by cases h⟩
          | some f =>
            have hi:i < fs.size:=(Array.getElem?_eq_some_iff.1 hfi).1
            have hmf:f ∈ fs.toList:=by
              rw [← Array.getElem?_toList] at hfi
              exact List.mem_of_getElem? hfi
            have h1:=hf i f hfi
            rw [List.getElem?_eq_getElem (by omega)] at h1
            obtain ⟨p,h4,h5,h6,h7⟩:=ih f.type _ _ (by simpa using hin f hmf) h1
            have:=hle f hmf
            have hpl:p.length = P.cellsOf f.type:=by rw [h5,List.length_take,List.length_drop]; omega
            refine ⟨p,fun f' hf'=>?_⟩
            cases hf'
            refine ⟨h4,hpl,h6,fun j a v ha hv=>h7 j a v ha ?_⟩
            have hj:=(List.getElem?_eq_some_iff.1 ha).1
            rw [List.getElem?_take_of_lt (by omega),List.getElem?_drop]
            exact hv
        obtain ⟨g,hg⟩:=Classical.axiomOfChoice hpart
        have hgl:∀ (i:Nat) f p,fs[i]? = some f→((List.range fs.size).map g)[i]? = some p→p = g i:=fun i f p hfi hp=>by
          have hi:i < fs.size:=(Array.getElem?_eq_some_iff.1 hfi).1
          rw [List.getElem?_map,List.getElem?_range hi] at hp
          simpa using hp.symm
        obtain ⟨h1,h2⟩:=contig_flat (R:=VR s L (startCs w) w) (cs:=cs) (pl:=(List.range fs.size).map g) hct (by simp) fun i f p hfi hp=>by
          rw [Array.getElem?_toList] at hfi
          obtain rfl:=hgl i f p hfi hp
          exact ⟨(hg i f hfi).2.1,(hg i f hfi).2.2.2⟩
        refine ⟨((List.range fs.size).map g).flatten,?_,by omega,cellsOk_flat fun p hp=>?_,fun j a v ha hv=>h2 j a v ha (by simpa using hv)⟩
        · unfold avT
          rw [hu]
          exact ⟨(List.range fs.size).map g,rfl,by simp,fun i f p hfi hp=>by
            obtain rfl:=hgl i f p hfi hp
            exact ⟨(hg i f hfi).1,(hg i f hfi).2.1⟩⟩
        · obtain ⟨i, hi, rfl⟩ := List.mem_map.1 hp
          have hi':=List.mem_range.1 hi
          exact (hg i fs[i] (Array.getElem?_eq_getElem hi')).2.2.1

def argOf (P : Program) (n : Nat) (t : TypeId) (a : AV) : Prop :=
  match P.underlying t with
  | some (.struct _) => ∃ az, a = .agg az ∧ avT P n t az
  | _ => avT P n t [a]

theorem arg_vr {H : Type} {enc : TypeId × Value → H} {P : Program} {w : World} {base b0 : Nat} {r : Reach} {sp : Nat → Bool} {held : Bool} {S : List TypeId} (hS : plainB P S = true) {s : Store} {L : Nat → Nat → Loc}
    {t : TypeId} {v : Value} {d : DataW H} {ps : List MemPlace} (ht : t ∈ S) (hok : Value.okWide P w r b0 t v) (hd : DataW.Trod enc P w base sp held t v d ps) : ∃ n a, argOf P n t a ∧ VR s L (startCs w) w a v := by
  obtain ⟨fuel,hf⟩:=hd
  obtain ⟨az,h1,h2,_,h4⟩:=av_of_trod hS (s:=s) (L:=L) fuel t _ _ ht hf
  have hp:=List.all_eq_true.1 hS t ht
  cases hu : P.underlying t with
  | none => rw [hu] at hp; cases hp
  | some u =>
    rw [hu] at hp
    have single:v.cells.toList = [v]→(∀ fs,u ≠ .struct fs)→∃ n a,argOf P n t a∧VR s L (startCs w) w a v:=by
      intro hv hns
      rw [hv] at h2 h4
      match az, h2 with
      | [a], _ =>
        refine ⟨fuel,a,?_,h4 0 a v rfl rfl⟩
        unfold argOf
        rw [hu]
        cases u <;> first | exact h1 | exact absurd rfl (hns _)
    cases u <;> simp only [Bool.false_eq_true] at hp
    case bool =>
      obtain ⟨b,rfl⟩:=okWide_bool hu hok
      exact single rfl fun _ h=>by cases h
    case int k =>
      obtain ⟨b,rfl⟩:=okWide_int hu hok
      exact single rfl fun _ h=>by cases h
    case string =>
      obtain ⟨b,rfl⟩:=okWide_string hu hok
      exact single rfl fun _ h=>by cases h
    case slice e =>
      obtain ⟨a,len,cap,rfl⟩:=okWide_slice hu hok
      exact single rfl fun _ h=>by cases h
    case struct fs =>
      obtain ⟨cs,rfl,_⟩:=okWide_struct hu hok
      refine ⟨fuel,.agg az,?_,?_⟩
      · unfold argOf
        rw [hu]
        exact ⟨az,rfl,h1⟩
      · have := VR.agg (s := s) (L := L) (C := startCs w) (w := w) az cs.toList (by simpa [Value.cells] using h2.symm) fun j x y hx hy => h4 j x y hx (by simpa [Value.cells] using hy)
        simpa using this

theorem args_call {P : Program} {T : Nat → Option FC} {prim : CallT} (hm : P.follows .mixedOrders = true) (hT : Fits P T) (hp : CallOK P prim) {f : Nat} {fc : FC} (hf : T f = some fc) {azl : List AV} {us : List Value} {s' : Store}
    (h : callF T prim f azl noStore = some (.bool true, s')) {w : World} (hgood : WGood w) (hv : VRs noStore (fun _ _ => ⟨0, 0, 0⟩) (startCs w) w azl us) :
    Calls P f us.toArray w fun e w' => e = .returned (.bool true) ∧ Kept w w' := by
  refine (callF_calls hm hT hp hf h (noStore_rel (fun b o h=>h) (fun _ h=>h) rfl hgood) hv).mono fun e w' he=>?_
  obtain ⟨u,rfl,L',C',h1,_,h3⟩:=he
  cases h1
  exact ⟨rfl,kept_of (fun _ h=>h) h3⟩
end Go.Proofs.YtkjonfojileipaaGreatDoor.Ae
namespace Go.Proofs.YtkjonfojileipaaGreatDoor.Ae
open Go Go.Proofs
set_option maxRecDepth 100000
theorem flat_one {α β : Type} (f : α → β) : ∀ l : List α, (l.flatMap fun z => [f z]) = l.map f
  | [] => rfl
  | x :: r => by rw [List.flatMap_cons, flat_one f r]; rfl
theorem int_wf {k : IntKind} {z : Int} (h : (Lit.int k z).wf = true) : k.min ≤ z ∧ z ≤ k.max := by
  simpa [Lit.wf] using h
theorem dec_int {n : Nat} {az : List AV} (h : avT Tryz.prog n 3 az) : ∃ z, az = [.int .i64 z] ∧ inI z := by
  cases n with
  | zero => cases h
  | succ n =>
    unfold avT at h
    rw [Tryz.underlying3] at h
    obtain ⟨z,rfl,hw⟩:=h
    have h1:=int_wf hw
    have h2:(-9223372036854775808:Int) ≤ z∧z ≤ 9223372036854775807:=h1
    exact ⟨z,rfl,by unfold inI; omega⟩
theorem dec_byte {n : Nat} {az : List AV} (h : avT Tryz.prog n 5 az) : ∃ z : Int, az = [.int .u8 z] ∧ 0 ≤ z ∧ z < 256 := by
  cases n with
  | zero => cases h
  | succ n =>
    unfold avT at h
    rw [Tryz.underlying5] at h
    obtain ⟨z,rfl,hw⟩:=h
    have h1:=int_wf hw
    have h2:(0:Int) ≤ z∧z ≤ 255:=h1
    exact ⟨z,rfl,by omega⟩
theorem rows_of {α : Type} {enc : α → List AV} {P : α → Prop} : ∀ {rows : List (List AV)}, (∀ r ∈ rows, ∃ x, r = enc x ∧ P x) → ∃ l : List α, rows.flatten = l.flatMap enc ∧ l.length = rows.length ∧ ∀ x ∈ l, P x
  | [], _ => ⟨[], rfl, rfl, fun b h => by cases h⟩
  | r :: q, h => by
    obtain ⟨l,h1,h2,h3⟩:=rows_of (rows:=q) fun r' hr=>h r' (List.mem_cons_of_mem _ hr)
    obtain ⟨x,rfl,h4⟩:=h r (by simp)
    exact ⟨x :: l,by simp [h1],by simp [h2],fun b hb=>(List.mem_cons.1 hb).elim (fun e=>e ▸ h4) (h3 b)⟩
theorem dec_slice {α : Type} {enc : α → List AV} {P : α → Prop} {t e n : Nat} {az : List AV} (hu : Tryz.prog.underlying t = some (.slice e)) (h : avT Tryz.prog n t az) (hd : ∀ m r, m < n → avT Tryz.prog m e r → ∃ x, r = enc x ∧ P x) :
    ∃ l : List α, az = [.imm false l.length (l.flatMap enc)] ∧ l.length ≤ 9223372036854775807 ∧ ∀ x ∈ l, P x := by
  cases n with
  | zero => cases h
  | succ n =>
    unfold avT at h
    rw [hu] at h
    obtain ⟨rows,rfl,hl,hr⟩:=h
    obtain ⟨l,h1,h2,h3⟩:=rows_of (enc:=enc) (P:=P) fun r hr'=>hd n r (by omega) (hr r hr').1
    exact ⟨l,by rw [h1,h2],by rw [h2]; exact hl,h3⟩
theorem dec_bytes {n : Nat} {az : List AV} (h : avT Tryz.prog n 23 az) : ∃ t : List Int, az = [bsl t] ∧ okB t := by
  obtain ⟨l,rfl,h1,h2⟩:=dec_slice (enc:=fun z=>[AV.int .u8 z]) (P:=fun z=>0 ≤ z∧z < 256) Tryz.underlying23 h fun m r _ hr=>dec_byte hr
  exact ⟨l,by rw [flat_one]; rfl,h1,h2⟩
theorem dec_vars {n : Nat} {az : List AV} (h : avT Tryz.prog n 50 az) : ∃ t : List (List Int), az = [.imm false t.length (t.map bsl)] ∧ t.length ≤ 9223372036854775807 ∧ ∀ v ∈ t, okB v := by
  obtain ⟨l,rfl,h1,h2⟩:=dec_slice (enc:=fun z=>[bsl z]) (P:=okB) Tryz.underlying50 h fun m r _ hr=>dec_bytes hr
  exact ⟨l,by rw [flat_one],h1,h2⟩
theorem dec_ty : ∀ (n : Nat) (az : List AV), avT Tryz.prog n 235 az → ∃ t : Ty, az = t.az ∧ t.ok := by
  intro n
  induction n using Nat.strongRecOn with
  | _ n ih =>
    intro az h
    cases n with
    | zero => cases h
    | succ n =>
      unfold avT at h
      rw [Tryz.underlying235] at h
      obtain ⟨ps,rfl,hl,hp⟩:=h
      match ps, hl with
      | [p0, p1, p2], _ =>
        obtain ⟨k,rfl,hk⟩:=dec_int (hp 0 _ p0 rfl rfl).1
        obtain ⟨z,rfl,hz⟩:=dec_int (hp 1 _ p1 rfl rfl).1
        obtain ⟨l,rfl,h1,h2⟩:=dec_slice (enc:=Ty.az) (P:=Ty.ok) Tryz.underlying195 (hp 2 _ p2 rfl rfl).1 fun m r hm hr=>ih m (by omega) r hr
        refine ⟨.mk k z l,by simp [Ty.az,azT_eq],?_⟩
        simp only [Ty.ok,okT_iff]
        exact ⟨hk,hz,h1,h2⟩
theorem dec_con {n : Nat} {az : List AV} (h : avT Tryz.prog n 197 az) : ∃ t : Con, az = t.az ∧ t.ok := by
  cases n with
  | zero => cases h
  | succ n =>
    unfold avT at h
    rw [Tryz.underlying197] at h
    obtain ⟨ps,rfl,hl,hp⟩:=h
    match ps, hl with
    | [p0, p1], _ =>
      obtain ⟨k,rfl,hk⟩:=dec_bytes (hp 0 _ p0 rfl rfl).1
      obtain ⟨l,rfl,h1,h2⟩:=dec_slice (enc:=Ty.az) (P:=Ty.ok) Tryz.underlying195 (hp 1 _ p1 rfl rfl).1 fun m r hm hr=>dec_ty m r hr
      exact ⟨⟨k,l⟩,by simp [Con.az,azT_eq],hk,h1,h2⟩
theorem dec_data {n : Nat} {az : List AV} (h : avT Tryz.prog n 82 az) : ∃ t : Dt, az = t.az ∧ t.ok := by
  cases n with
  | zero => cases h
  | succ n =>
    unfold avT at h
    rw [Tryz.underlying82] at h
    obtain ⟨ps,rfl,hl,hp⟩:=h
    match ps, hl with
    | [p0, p1, p2], _ =>
      obtain ⟨k,rfl,hk⟩:=dec_bytes (hp 0 _ p0 rfl rfl).1
      obtain ⟨z,rfl,hz⟩:=dec_int (hp 1 _ p1 rfl rfl).1
      obtain ⟨l,rfl,h1,h2⟩:=dec_slice (enc:=Con.az) (P:=Con.ok) Tryz.underlying80 (hp 2 _ p2 rfl rfl).1 fun m r hm hr=>dec_con hr
      exact ⟨⟨k,z,l⟩,by simp [Dt.az],hk,hz,h1,h2⟩
theorem dec_exar : ∀ (n : Nat), (∀ az, avT Tryz.prog n 27 az → ∃ t : Xp, az = t.az ∧ t.ok) ∧ (∀ az, avT Tryz.prog n 156 az → ∃ t : Arm, az = t.az ∧ t.ok) := by
  intro n
  induction n using Nat.strongRecOn with
  | _ n ih =>
    refine ⟨fun az h=>?_,fun az h=>?_⟩
    · cases n with
      | zero => cases h
      | succ n =>
        unfold avT at h
        rw [Tryz.underlying27] at h
        obtain ⟨ps,rfl,hl,hp⟩:=h
        match ps, hl with
        | [p0, p1, p2, p3, p4, p5, p6], _ =>
          obtain ⟨k,rfl,hk⟩:=dec_int (hp 0 _ p0 rfl rfl).1
          obtain ⟨z,rfl,hz⟩:=dec_int (hp 1 _ p1 rfl rfl).1
          obtain ⟨a,rfl,ha⟩:=dec_bytes (hp 2 _ p2 rfl rfl).1
          obtain ⟨b,rfl,hb⟩:=dec_bytes (hp 3 _ p3 rfl rfl).1
          obtain ⟨c,rfl,hc⟩:=dec_bytes (hp 4 _ p4 rfl rfl).1
          obtain ⟨l,rfl,h1,h2⟩:=dec_slice (enc:=Xp.az) (P:=Xp.ok) Tryz.underlying24 (hp 5 _ p5 rfl rfl).1 fun m r hm hr=>(ih m (by omega)).1 r hr
          obtain ⟨q,rfl,h3,h4⟩:=dec_slice (enc:=Arm.az) (P:=Arm.ok) Tryz.underlying25 (hp 6 _ p6 rfl rfl).1 fun m r hm hr=>(ih m (by omega)).2 r hr
          refine ⟨.mk k z a b c l q,by simp [Xp.az,azE_eq,azA_eq],?_⟩
          simp only [Xp.ok,okE_iff,okA_iff]
          exact ⟨hk,hz,ha,hb,hc,⟨h1,h2⟩,h3,h4⟩
    · cases n with
      | zero => cases h
      | succ n =>
        unfold avT at h
        rw [Tryz.underlying156] at h
        obtain ⟨ps,rfl,hl,hp⟩:=h
        match ps, hl with
        | [p0, p1, p2], _ =>
          obtain ⟨a,rfl,ha⟩:=dec_bytes (hp 0 _ p0 rfl rfl).1
          obtain ⟨v,rfl,hv1,hv2⟩:=dec_vars (hp 1 _ p1 rfl rfl).1
          obtain ⟨e,rfl,he⟩:=(ih n (by omega)).1 _ (hp 2 _ p2 rfl rfl).1
          refine ⟨.mk a v e,by simp [Arm.az],?_⟩
          simp only [Arm.ok]
          exact ⟨ha,⟨hv1,hv2⟩,he⟩
theorem dec_src {n : Nat} {az : List AV} (h : avT Tryz.prog n 29 az) : ∃ t : Sr, az = t.az ∧ t.ok := by
  cases n with
  | zero => cases h
  | succ n =>
    unfold avT at h
    rw [Tryz.underlying29] at h
    obtain ⟨ps,rfl,hl,hp⟩:=h
    match ps, hl with
    | [p0, p1], _ =>
      obtain ⟨l,rfl,h1,h2⟩:=dec_slice (enc:=Dt.az) (P:=Dt.ok) Tryz.underlying22 (hp 0 _ p0 rfl rfl).1 fun m r hm hr=>dec_data hr
      obtain ⟨e,rfl,he⟩:=(dec_exar n).1 _ (hp 1 _ p1 rfl rfl).1
      exact ⟨⟨l,e⟩,by simp [Sr.az],⟨h1,h2⟩,he⟩
end Go.Proofs.YtkjonfojileipaaGreatDoor.Ae

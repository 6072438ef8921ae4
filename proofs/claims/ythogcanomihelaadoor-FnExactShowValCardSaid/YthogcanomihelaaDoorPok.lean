/- strconv.Itoa by its contract is as good as a walk. -/
import Derived.Test.YthogcanomihelaaDoorPr
import Derived.Test.YthogcanomihelaaDoorShelf
import Derived.Test.YthogcanomihelaaDoorAe16
import Derived.Lib.AppendIntMem
set_option linter.unusedSimpArgs false
set_option linter.unusedVariables false
namespace Go.Proofs.YthogcanomihelaaDoor.Ae
open Go

theorem tab_of {s : Store} {L : Nat → Nat → Loc} {C : Cs} {w : World} (h : SR s L C w) : Lib.TabIs Tryd.prog w "internal/strconv.uint64pow10" .u64 Lib.pow10Tab := by
  have h0 : Lib.TabIs Tryd.prog C.w0 "internal/strconv.uint64pow10" .u64 Lib.pow10Tab := h.good
  exact Lib.tabBelow_of_tabIs h0 { w with os := C.w0.os, tape := C.w0.tape, output := C.w0.output } ⟨rfl, rfl, rfl, h.nsz, fun b hb => h.base b hb⟩
theorem prim_sound : CallOK Tryd.prog prim := by
  intro f args s v s' h L C w us hR hv
  unfold prim at h
  split at h
  · rename_i n
    split at h
    · rename_i hn
      simp only [Option.some.injEq, Prod.mk.injEq] at h
      obtain ⟨rfl, rfl⟩ := h
      obtain ⟨hl, hv⟩ := hv
      match us, hl with
      | [u], _ =>
        have hu := hv 0 _ u rfl rfl
        cases hu
        refine .inl ⟨callFunc_run Tryd.func43 (by kernel_rfl) (by kernel_rfl), (Tryd.strconv_Itoa n hn.1 hn.2 w (tab_of hR)).mono fun e w' he => ?_⟩
        obtain ⟨rfl, k, os, rfl⟩ := he
        have hb := Lib.below_grow w.heap.size w (Nat.le_refl _) k os
        have key := hR.grown hb.os hb.tape hb.output hb.size fun b hb' => hb.block b hb'
        exact ⟨_, rfl, L, C, .str _, key.2, key.1⟩
    · cases h
  · cases h
end Go.Proofs.YthogcanomihelaaDoor.Ae

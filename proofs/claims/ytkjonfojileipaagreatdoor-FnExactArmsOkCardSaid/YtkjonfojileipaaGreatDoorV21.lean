/- DERIVED: THE SHELF's CONTRACTS AT THIS DUMP, IN PLAIN WORDS (tools/lay-plain.mjs out of 'TryzShelf.lean', which tools/lay-shelf.mjs wrote): THE SAME DECLARATIONS UNDER THE SAME NAMES: 'import', 'namespace', 'open', 'def', 'theorem' AND NOTHING ELSE: no command of the shelf's: FOR A HAND-IN. Each laying: the table of numbers ('.._ren') and one theorem, a field a fact of the dump's own or the kernel's comparison; each contract: ONE APPLICATION. The library functions taken by a law of their own are as good as a walk. -/
import Derived.Test.YtkjonfojileipaaGreatDoorW4
import Derived.Shelf.Strings.Builder1
import Derived.Shelf.Strconv.Itoa0
import Derived.Shelf.Strconv.Itoa1
import Derived.Shelf.LaysM
import Derived.Shelf.Strconv.Itoa2
import Derived.Shelf.Strconv.Itoa3
import Derived.Shelf.Strings.Fields
import Derived.Shelf.Unicode.Latin
import Derived.Shelf.Unicode.Is16White
import Derived.Shelf.Unicode.IsSpaceAny
import Derived.Shelf.Unicode.Is16Any
import Derived.Shelf.Unicode.Is32Any
import Derived.Shelf.Unicode.ExclAny
import Derived.Test.YtkjonfojileipaaGreatDoorProg
import Derived.Lib.AppendIntMem
set_option linter.unusedSimpArgs false
set_option linter.unusedVariables false
namespace Go.Proofs
open Go.Shelf
def Tryz.lays169_ren : Go.Shelf.Ren := ⟨fun | 169 => 81 | n => n, fun | 70 => 109 | 9 => 9 | 0 => 0 | 72 => 111 | 37 => 23 | 127 => 168 | 3 => 3 | 5 => 5 | n => n, fun | n => n⟩
theorem Tryz.lays169 : Go.Proofs.Lays.n169 Tryz.prog Tryz.lays169_ren := {
  mixed := by kernel_rfl
  f169 := Tryz.func81.trans (congrArg some (by kernel_rfl))
  t0 := Tryz.underlying0
  a0 := Tryz.isAgg0
  z0 := Tryz.sizeOf0
  v0 := Tryz.zeroValue0
  t3 := Tryz.underlying3
  a3 := Tryz.isAgg3
  z3 := Tryz.sizeOf3
  v3 := Tryz.zeroValue3
  t9 := Tryz.underlying9
  a9 := Tryz.isAgg9
  z9 := Tryz.sizeOf9
  v9 := Tryz.zeroValue9
  t37 := Tryz.underlying23
  a37 := Tryz.isAgg23
  z37 := Tryz.sizeOf23
  v37 := Tryz.zeroValue23
  t70 := Tryz.underlying109
  a70 := Tryz.isAgg109
  z70 := Tryz.sizeOf109
  v70 := Tryz.zeroValue109
  t72 := Tryz.underlying111
  a72 := Tryz.isAgg111
  z72 := Tryz.sizeOf111
  v72 := Tryz.zeroValue111
  t127 := Tryz.underlying168
  a127 := Tryz.isAgg168
  z127 := Tryz.sizeOf168
  v127 := Tryz.zeroValue168 }
def Tryz.lays129_ren : Go.Shelf.Ren := ⟨fun | 129 => 204 | n => n, fun | 53 => 159 | 3 => 3 | 4 => 4 | 46 => 210 | 5 => 5 | 9 => 9 | n => n, fun | n => n⟩
def Tryz.lays317_ren : Go.Shelf.Ren := ⟨fun | 317 => 203 | n => n, fun | 3 => 3 | 46 => 210 | n => n, fun | n => n⟩
def Tryz.lays318_ren : Go.Shelf.Ren := ⟨fun | 318 => 205 | n => n, fun | 3 => 3 | 4 => 4 | n => n, fun | n => n⟩
def Tryz.lays283_ren : Go.Shelf.Ren := ⟨fun | 283 => 194 | n => n, fun | 3 => 3 | 9 => 9 | 4 => 4 | n => n, fun | n => n⟩
def Tryz.laysM284_ren : Go.Shelf.Ren := ⟨fun | 284 => 195 | 129 => 204 | 317 => 203 | 318 => 205 | n => n, fun | 53 => 159 | 3 => 3 | 212 => 238 | 0 => 0 | 4 => 4 | 46 => 210 | 5 => 5 | 9 => 9 | n => n, fun | 17 => 2 | n => n⟩
def Tryz.lays285_ren : Go.Shelf.Ren := ⟨fun | 285 => 196 | n => n, fun | 37 => 23 | 53 => 159 | 3 => 3 | 4 => 4 | 51 => 229 | 9 => 9 | 5 => 5 | 0 => 0 | n => n, fun | n => n⟩
def Tryz.laysM246_ren : Go.Shelf.Ren := ⟨fun | 246 => 180 | 283 => 194 | 284 => 195 | 285 => 196 | 286 => 197 | 129 => 204 | 317 => 203 | 318 => 205 | 319 => 206 | 320 => 207 | 337 => 211 | 338 => 212 | n => n, fun | 2 => 2 | 3 => 3 | 9 => 9 | 4 => 4 | 171 => 220 | 0 => 0 | 53 => 159 | 37 => 23 | 5 => 5 | 173 => 223 | 212 => 238 | 51 => 229 | 20 => 20 | 213 => 239 | 46 => 210 | 232 => 255 | 233 => 256 | n => n, fun | 17 => 2 | 18 => 3 | 19 => 4 | n => n⟩
def Tryz.lays246_ren : Go.Shelf.Ren := ⟨fun | 246 => 180 | 283 => 194 | 284 => 195 | 285 => 196 | 286 => 197 | 129 => 204 | 317 => 203 | 318 => 205 | 319 => 206 | 320 => 207 | 337 => 211 | 338 => 212 | n => n, fun | 2 => 2 | 3 => 3 | 9 => 9 | 4 => 4 | 171 => 220 | 0 => 0 | 53 => 159 | 37 => 23 | 5 => 5 | 173 => 223 | 212 => 238 | 51 => 229 | 20 => 20 | 213 => 239 | 46 => 210 | 232 => 255 | 233 => 256 | n => n, fun | 17 => 2 | 18 => 3 | 19 => 4 | n => n⟩
def Tryz.laysM243_ren : Go.Shelf.Ren := ⟨fun | 243 => 129 | 246 => 180 | 283 => 194 | 284 => 195 | 285 => 196 | 286 => 197 | 129 => 204 | 317 => 203 | 318 => 205 | 319 => 206 | 320 => 207 | 337 => 211 | 338 => 212 | n => n, fun | 3 => 3 | 9 => 9 | 2 => 2 | 4 => 4 | 171 => 220 | 0 => 0 | 53 => 159 | 37 => 23 | 5 => 5 | 173 => 223 | 212 => 238 | 51 => 229 | 20 => 20 | 213 => 239 | 46 => 210 | 232 => 255 | 233 => 256 | n => n, fun | 17 => 2 | 18 => 3 | 19 => 4 | n => n⟩
def Tryz.lays243_ren : Go.Shelf.Ren := ⟨fun | 243 => 129 | 246 => 180 | 283 => 194 | 284 => 195 | 285 => 196 | 286 => 197 | 129 => 204 | 317 => 203 | 318 => 205 | 319 => 206 | 320 => 207 | 337 => 211 | 338 => 212 | n => n, fun | 3 => 3 | 9 => 9 | 2 => 2 | 4 => 4 | 171 => 220 | 0 => 0 | 53 => 159 | 37 => 23 | 5 => 5 | 173 => 223 | 212 => 238 | 51 => 229 | 20 => 20 | 213 => 239 | 46 => 210 | 232 => 255 | 233 => 256 | n => n, fun | 17 => 2 | 18 => 3 | 19 => 4 | n => n⟩
def Tryz.laysM171_ren : Go.Shelf.Ren := ⟨fun | 171 => 76 | 243 => 129 | 246 => 180 | 283 => 194 | 284 => 195 | 285 => 196 | 286 => 197 | 129 => 204 | 317 => 203 | 318 => 205 | 319 => 206 | 320 => 207 | 337 => 211 | 338 => 212 | n => n, fun | 3 => 3 | 9 => 9 | 2 => 2 | 4 => 4 | 171 => 220 | 0 => 0 | 53 => 159 | 37 => 23 | 5 => 5 | 173 => 223 | 212 => 238 | 51 => 229 | 20 => 20 | 213 => 239 | 46 => 210 | 232 => 255 | 233 => 256 | n => n, fun | 17 => 2 | 18 => 3 | 19 => 4 | n => n⟩
theorem Tryz.laysM171 : Go.Proofs.LaysM.n171 Tryz.prog Tryz.laysM171_ren := {
  mixed := by kernel_rfl
  f129 := Tryz.func204.trans (congrArg some (by kernel_rfl))
  f171 := Tryz.func76.trans (congrArg some (by kernel_rfl))
  f243 := Tryz.func129.trans (congrArg some (by kernel_rfl))
  f246 := Tryz.func180.trans (congrArg some (by kernel_rfl))
  f283 := Tryz.func194.trans (congrArg some (by kernel_rfl))
  f284 := Tryz.func195.trans (congrArg some (by kernel_rfl))
  f285 := Tryz.func196.trans (congrArg some (by kernel_rfl))
  f286 := Tryz.func197.trans (congrArg some (by kernel_rfl))
  f317 := Tryz.func203.trans (congrArg some (by kernel_rfl))
  f318 := Tryz.func205.trans (congrArg some (by kernel_rfl))
  f319 := Tryz.func206.trans (congrArg some (by kernel_rfl))
  f320 := Tryz.func207.trans (congrArg some (by kernel_rfl))
  f337 := Tryz.func211.trans (congrArg some (by kernel_rfl))
  f338 := Tryz.func212.trans (congrArg some (by kernel_rfl))
  t0 := Tryz.underlying0
  a0 := Tryz.isAgg0
  z0 := Tryz.sizeOf0
  v0 := Tryz.zeroValue0
  t2 := Tryz.underlying2
  a2 := Tryz.isAgg2
  z2 := Tryz.sizeOf2
  v2 := Tryz.zeroValue2
  t3 := Tryz.underlying3
  a3 := Tryz.isAgg3
  z3 := Tryz.sizeOf3
  v3 := Tryz.zeroValue3
  t4 := Tryz.underlying4
  a4 := Tryz.isAgg4
  z4 := Tryz.sizeOf4
  v4 := Tryz.zeroValue4
  t5 := Tryz.underlying5
  a5 := Tryz.isAgg5
  z5 := Tryz.sizeOf5
  v5 := Tryz.zeroValue5
  t9 := Tryz.underlying9
  a9 := Tryz.isAgg9
  z9 := Tryz.sizeOf9
  v9 := Tryz.zeroValue9
  t20 := Tryz.underlying20
  a20 := Tryz.isAgg20
  z20 := Tryz.sizeOf20
  v20 := Tryz.zeroValue20
  t37 := Tryz.underlying23
  a37 := Tryz.isAgg23
  z37 := Tryz.sizeOf23
  v37 := Tryz.zeroValue23
  t46 := Tryz.underlying210
  a46 := Tryz.isAgg210
  z46 := Tryz.sizeOf210
  v46 := Tryz.zeroValue210
  t51 := Tryz.underlying229
  a51 := Tryz.isAgg229
  z51 := Tryz.sizeOf229
  v51 := Tryz.zeroValue229
  t53 := Tryz.underlying159
  a53 := Tryz.isAgg159
  z53 := Tryz.sizeOf159
  v53 := Tryz.zeroValue159
  t171 := Tryz.underlying220
  a171 := Tryz.isAgg220
  z171 := Tryz.sizeOf220
  v171 := Tryz.zeroValue220
  t173 := Tryz.underlying223
  a173 := Tryz.isAgg223
  z173 := Tryz.sizeOf223
  v173 := Tryz.zeroValue223
  t212 := Tryz.underlying238
  a212 := Tryz.isAgg238
  z212 := Tryz.sizeOf238
  v212 := Tryz.zeroValue238
  t213 := Tryz.underlying239
  a213 := Tryz.isAgg239
  z213 := Tryz.sizeOf239
  t232 := Tryz.underlying255
  a232 := Tryz.isAgg255
  z232 := Tryz.sizeOf255
  v232 := Tryz.zeroValue255
  t233 := Tryz.underlying256
  a233 := Tryz.isAgg256
  z233 := Tryz.sizeOf256
  v233 := Tryz.zeroValue256
  g17 := by kernel_rfl
  g18 := by kernel_rfl
  g19 := by kernel_rfl
  i0 := by kernel_rfl
  i2 := by kernel_rfl
  i3 := by kernel_rfl
  i4 := by kernel_rfl
  i5 := by kernel_rfl
  i9 := by kernel_rfl
  i20 := by kernel_rfl
  i37 := by kernel_rfl
  i46 := by kernel_rfl
  i51 := by kernel_rfl
  i53 := by kernel_rfl
  i171 := by kernel_rfl
  i173 := by kernel_rfl
  i212 := by kernel_rfl
  i232 := by kernel_rfl
  i233 := by kernel_rfl
  m17 := by kernel_rfl
  m18 := by kernel_rfl
  m19 := by kernel_rfl }
open Go.RowKit Go.Sort Go.Lib in
theorem Tryz.strconv_Itoa (n : Int) (h0 : -9223372036854775808 ≤ n) (h1 : n ≤ 9223372036854775807) (w : World) (htab : Lib.TabIs Tryz.prog w "internal/strconv.uint64pow10" .u64 Lib.pow10Tab) :
    Calls Tryz.prog 76 #[.int .i64 n] w fun e w' => e = .returned (.string ⟨(Lib.itoa n).toArray⟩) ∧ ∃ k os, w' = grow (w.drewN k) os := Any.strconv_Itoa Tryz.laysM171 n h0 h1 w htab
def Tryz.lays171_ren : Go.Shelf.Ren := ⟨fun | 171 => 76 | 243 => 129 | 246 => 180 | 283 => 194 | 284 => 195 | 285 => 196 | 286 => 197 | 129 => 204 | 317 => 203 | 318 => 205 | 319 => 206 | 320 => 207 | 337 => 211 | 338 => 212 | n => n, fun | 3 => 3 | 9 => 9 | 2 => 2 | 4 => 4 | 171 => 220 | 0 => 0 | 53 => 159 | 37 => 23 | 5 => 5 | 173 => 223 | 212 => 238 | 51 => 229 | 20 => 20 | 213 => 239 | 46 => 210 | 232 => 255 | 233 => 256 | n => n, fun | 17 => 2 | 18 => 3 | 19 => 4 | n => n⟩
def Tryz.lays157_ren : Go.Shelf.Ren := ⟨fun | 157 => 161 | 229 => 187 | 199 => 188 | 261 => 199 | 311 => 209 | 312 => 210 | n => n, fun | 9 => 9 | 31 => 113 | 3 => 3 | 5 => 5 | 4 => 4 | 119 => 213 | 0 => 0 | 40 => 215 | 152 => 226 | 21 => 21 | 154 => 228 | 51 => 229 | 141 => 231 | 196 => 244 | 193 => 241 | 198 => 247 | 49 => 245 | 194 => 242 | 201 => 250 | 226 => 253 | 46 => 210 | 227 => 254 | n => n, fun | 0 => 0 | 6 => 1 | n => n⟩
theorem Tryz.lays157 : Go.Proofs.Lays.n157 Tryz.prog Tryz.lays157_ren := {
  mixed := by kernel_rfl
  f157 := Tryz.func161.trans (congrArg some (by kernel_rfl))
  f199 := Tryz.func188.trans (congrArg some (by kernel_rfl))
  f229 := Tryz.func187.trans (congrArg some (by kernel_rfl))
  f261 := Tryz.func199.trans (congrArg some (by kernel_rfl))
  f311 := Tryz.func209.trans (congrArg some (by kernel_rfl))
  f312 := Tryz.func210.trans (congrArg some (by kernel_rfl))
  t0 := Tryz.underlying0
  a0 := Tryz.isAgg0
  z0 := Tryz.sizeOf0
  v0 := Tryz.zeroValue0
  t3 := Tryz.underlying3
  a3 := Tryz.isAgg3
  z3 := Tryz.sizeOf3
  v3 := Tryz.zeroValue3
  t4 := Tryz.underlying4
  a4 := Tryz.isAgg4
  z4 := Tryz.sizeOf4
  v4 := Tryz.zeroValue4
  t5 := Tryz.underlying5
  a5 := Tryz.isAgg5
  z5 := Tryz.sizeOf5
  v5 := Tryz.zeroValue5
  t9 := Tryz.underlying9
  a9 := Tryz.isAgg9
  z9 := Tryz.sizeOf9
  v9 := Tryz.zeroValue9
  t21 := Tryz.underlying21
  a21 := Tryz.isAgg21
  z21 := Tryz.sizeOf21
  v21 := Tryz.zeroValue21
  t31 := Tryz.underlying113
  a31 := Tryz.isAgg113
  z31 := Tryz.sizeOf113
  v31 := Tryz.zeroValue113
  t40 := Tryz.underlying215
  a40 := Tryz.isAgg215
  z40 := Tryz.sizeOf215
  v40 := Tryz.zeroValue215
  t46 := Tryz.underlying210
  a46 := Tryz.isAgg210
  z46 := Tryz.sizeOf210
  v46 := Tryz.zeroValue210
  t49 := Tryz.underlying245
  a49 := Tryz.isAgg245
  z49 := Tryz.sizeOf245
  v49 := Tryz.zeroValue245
  t51 := Tryz.underlying229
  a51 := Tryz.isAgg229
  z51 := Tryz.sizeOf229
  v51 := Tryz.zeroValue229
  t119 := Tryz.underlying213
  a119 := Tryz.isAgg213
  z119 := Tryz.sizeOf213
  t141 := Tryz.underlying231
  a141 := Tryz.isAgg231
  z141 := Tryz.sizeOf231
  v141 := Tryz.zeroValue231
  t152 := Tryz.underlying226
  a152 := Tryz.isAgg226
  z152 := Tryz.sizeOf226
  v152 := Tryz.zeroValue226
  t154 := Tryz.underlying228
  a154 := Tryz.isAgg228
  z154 := Tryz.sizeOf228
  v154 := Tryz.zeroValue228
  t193 := Tryz.underlying241
  a193 := Tryz.isAgg241
  z193 := Tryz.sizeOf241
  v193 := Tryz.zeroValue241
  t194 := Tryz.underlying242
  a194 := Tryz.isAgg242
  z194 := Tryz.sizeOf242
  v194 := Tryz.zeroValue242
  t196 := Tryz.underlying244
  a196 := Tryz.isAgg244
  z196 := Tryz.sizeOf244
  v196 := Tryz.zeroValue244
  t198 := Tryz.underlying247
  a198 := Tryz.isAgg247
  z198 := Tryz.sizeOf247
  v198 := Tryz.zeroValue247
  t201 := Tryz.underlying250
  a201 := Tryz.isAgg250
  z201 := Tryz.sizeOf250
  v201 := Tryz.zeroValue250
  t226 := Tryz.underlying253
  a226 := Tryz.isAgg253
  z226 := Tryz.sizeOf253
  v226 := Tryz.zeroValue253
  t227 := Tryz.underlying254
  a227 := Tryz.isAgg254
  z227 := Tryz.sizeOf254
  v227 := Tryz.zeroValue254
  g0 := by kernel_rfl
  g6 := by kernel_rfl }
open Go.RowKit Go.Lib in
theorem Tryz.strings_Fields (s : ByteArray) (w : World) (hs : s.size < 4294967281) (hascii : ∀ (j : Nat) b, s.data.toList[j]? = some b → b.toNat < 128) (htab : Lib.TabIs Tryz.prog w "strings.asciiSpace" .u8 Lib.asciiSpaceTab) :
    Calls Tryz.prog 161 #[.string s] w fun e w' =>
      e = .returned (.slice (some ⟨w.heap.size, 0, none⟩) (Lib.fields s.data.toList).length (Lib.fields s.data.toList).length) ∧ w' = w.alloc (.cells ((Lib.fields s.data.toList).map fun l => Value.string ⟨l.toArray⟩).toArray 9) := Any.strings_Fields Tryz.lays157 (by kernel_rfl) (by kernel_rfl) s w hs hascii htab
def Tryz.lays199_ren : Go.Shelf.Ren := ⟨fun | 199 => 188 | 261 => 199 | 311 => 209 | 312 => 210 | n => n, fun | 21 => 21 | 4 => 4 | 51 => 229 | 141 => 231 | 0 => 0 | 196 => 244 | 193 => 241 | 3 => 3 | 198 => 247 | 49 => 245 | 194 => 242 | 201 => 250 | 226 => 253 | 46 => 210 | 227 => 254 | n => n, fun | 6 => 1 | n => n⟩
def Tryz.lays311_ren : Go.Shelf.Ren := ⟨fun | 311 => 209 | n => n, fun | 193 => 241 | 49 => 245 | 4 => 4 | 3 => 3 | 0 => 0 | 226 => 253 | 198 => 247 | 46 => 210 | n => n, fun | n => n⟩
def Tryz.lays261_ren : Go.Shelf.Ren := ⟨fun | 261 => 199 | 311 => 209 | 312 => 210 | n => n, fun | 141 => 231 | 21 => 21 | 4 => 4 | 0 => 0 | 196 => 244 | 193 => 241 | 3 => 3 | 51 => 229 | 198 => 247 | 49 => 245 | 194 => 242 | 201 => 250 | 226 => 253 | 46 => 210 | 227 => 254 | n => n, fun | n => n⟩
def Tryz.lays312_ren : Go.Shelf.Ren := ⟨fun | 312 => 210 | n => n, fun | 194 => 242 | 51 => 229 | 4 => 4 | 3 => 3 | 0 => 0 | 227 => 254 | 201 => 250 | 46 => 210 | n => n, fun | n => n⟩
end Go.Proofs
namespace Go.Proofs.YtkjonfojileipaaGreatDoor.Ae
open Go Go.Shelf Go.RowKit
/-! ### (*strings.Builder).copyCheck -/
def ren240 : Ren := ⟨fun | 240 => 132 | 276 => 181 | n => n, fun | 72 => 111 | 70 => 109 | 37 => 23 | 164 => 204 | n => n, fun | n => n⟩
theorem lays240 : Lays.n240 Tryz.prog ren240 := {
  mixed := by kernel_rfl
  f240 := Tryz.func132.trans (congrArg some (by kernel_rfl))
  f276 := Tryz.func181.trans (congrArg some (by kernel_rfl))
  t0 := Tryz.underlying0
  a0 := Tryz.isAgg0
  z0 := Tryz.sizeOf0
  v0 := Tryz.zeroValue0
  t4 := Tryz.underlying4
  a4 := Tryz.isAgg4
  z4 := Tryz.sizeOf4
  v4 := Tryz.zeroValue4
  t9 := Tryz.underlying9
  a9 := Tryz.isAgg9
  z9 := Tryz.sizeOf9
  v9 := Tryz.zeroValue9
  t20 := Tryz.underlying20
  a20 := Tryz.isAgg20
  z20 := Tryz.sizeOf20
  v20 := Tryz.zeroValue20
  t70 := Tryz.underlying109
  a70 := Tryz.isAgg109
  z70 := Tryz.sizeOf109
  v70 := Tryz.zeroValue109
  t72 := Tryz.underlying111
  a72 := Tryz.isAgg111
  z72 := Tryz.sizeOf111
  v72 := Tryz.zeroValue111
  t164 := Tryz.underlying204
  a164 := Tryz.isAgg204
  z164 := Tryz.sizeOf204
  v164 := Tryz.zeroValue204 }
theorem x240 : Builder.X72 Tryz.prog ren240 where
  sizeBuilder := by kernel_rfl
  liesBuilder := by kernel_rfl

/-! ### (*strings.Builder).String -/
theorem lies_at {P : Program} {e : TypeId} (hc : P.cellsOf e = 1) (count o n : Nat) (hn : o + n ≤ count) : liesAt P P.depth e count o e n = true := by
  have hd:P.depth = (2 * (P.types.size + Made.depth) + 1) + 1:=rfl
  rw [hd]
  simp only [liesAt,Bool.or_eq_true]
  left
  rw [hd]
  simp [rowAt, hc, hn, sameLayout, Nat.mod_one]
theorem load_at {P : Program} (w : World) : ∀ (l : List UInt8) (a : Addr) (acc : ByteArray), (∀ j x, l[j]? = some x → ∃ z : Int, w.cell? (a.add j) = some (.int .u8 z) ∧ UInt8.ofNat z.toNat = x) →
    (loadBytes a acc l.length).run P w = .ok ⟨acc.data ++ l.toArray⟩ w
  | [], a, acc, _ => by simp [loadBytes]
  | x :: l, a, acc, h => by
    obtain ⟨z,h0,hz⟩:∃ z:Int,w.cell? a = some (.int .u8 z)∧UInt8.ofNat z.toNat = x:=by
      have:=h 0 x rfl
      simpa [Addr.add] using this
    have ih:=load_at (P:=P) w l (a.add 1) (acc.push x) (fun j y hy=>by
      have:=h (j + 1) y (by simpa using hy)
      have e:(a.add 1).add j = a.add (j + 1):=by
        unfold Addr.add
        by_cases hj:j = 0
        · subst hj; simp
        · simp [hj]; omega
      rw [e]; exact this)
    have hx:z.toNat.toUInt8 = x:=hz
    simp only [List.length_cons,loadBytes,Sem.run_bind,Go.run_load,h0,Result.andThen,hx]
    rw [ih]
    congr 1
    apply ByteArray.ext
    simp [ByteArray.push]
theorem ustr_at {P : Program} {w : World} (pt it ty e : TypeId) (hp : P.underlying pt = some (.pointer e)) (hc : P.cellsOf e = 1) (g o cells : Nat) (hsh : w.shape? g = some (e, cells)) (l : List UInt8) (h0 : l ≠ []) (hn : o + l.length ≤ cells) (h63 : l.length ≤ 9223372036854775807)
    (hcell : ∀ (j : Nat) x, l[j]? = some x → ∃ z : Int, w.cell? ((⟨g, o, none⟩ : Addr).add j) = some (.int .u8 z) ∧ UInt8.ofNat z.toNat = x) :
    (Builtin.unsafeString_ #[pt, it] ty #[.pointer (some ⟨g, o, none⟩), .int .i64 l.length]).run P w = .ok (.string ⟨l.toArray⟩) (w.freeze ⟨g, o, none⟩ l.length) := by
  have hl:l.length ≠ 0:=by simpa using h0
  have hlb:=load_at (P:=P) w l ⟨g,o,none⟩ .empty hcell
  have hlies:=lies_at (P:=P) hc (cells / P.cellsOf e) o l.length (by rw [hc]; simpa using hn)
  have h63':¬ (9223372036854775807:Int) < (l.length:Int):=by omega
  have hdef:Builtin.unsafeString_ #[pt,it] ty #[.pointer (some ⟨g,o,none⟩),.int .i64 l.length] =
      (do
        let n ← asInt (.int .i64 l.length)
        if n < 0 then runtimePanic (.error "unsafe.String: len out of range")
        if n > IntKind.i64.max then unsupported (.unsafePointer "String: a length above the largest int")
        if n = 0 then pure (.string .empty)
        else if ← variablesAt ⟨g, o, none⟩ (← elemOf pt) n.toNat then do
          let s ← loadBytes ⟨g, o, none⟩ .empty n.toNat
          freeze ⟨g, o, none⟩ n.toNat
          pure (.string s)
        else unsupported (.unsafePointer "String: not so many bytes at ptr")) := rfl
  rw [hdef]
  have hmax:IntKind.i64.max = 9223372036854775807:=rfl
  have hneg:¬ (l.length:Int) < 0:=by omega
  simp [asInt, asIntOf, hmax, h63', hneg, hl, variablesAt, hsh, elemOf, run_underlying hp, hlies, hlb]
set_option maxHeartbeats 1000000 in
set_option maxRecDepth 100000 in
theorem string_at {b g o cap cells : Nat} {l : List UInt8} {w : World} (h0 : l ≠ []) (hc : w.cell? ⟨b, 1, none⟩ = some (.slice (some ⟨g, o, none⟩) l.length cap)) (hcap : cap ≠ 0) (h63 : l.length ≤ 9223372036854775807) (hsh : w.shape? g = some (5, cells)) (hle : o + l.length ≤ cells)
    (hcell : ∀ (j : Nat) x, l[j]? = some x → ∃ z : Int, w.cell? ((⟨g, o, none⟩ : Addr).add j) = some (.int .u8 z) ∧ UInt8.ofNat z.toNat = x) :
    Calls Tryz.prog 81 #[.pointer (some ⟨b, 0, none⟩)] w fun e w' => e = .returned (.string ⟨l.toArray⟩) ∧ w' = w.drew.freeze ⟨g, o, none⟩ l.length := by
  have c1:w.drew.cell? ⟨b,1,none⟩ = some (.slice (some ⟨g,o,none⟩) l.length cap):=hc
  have hSD:(Builtin.unsafeSliceData_ #[23] 168 #[.slice (some ⟨g,o,none⟩) l.length cap]).run Tryz.prog w.drew = .ok (.pointer (some ⟨g,o,none⟩)) w.drew:=Lib.run_unsafeSliceData_row _ _ _ _ _ _ hcap
  have hUS:(Builtin.unsafeString_ #[168,3] 9 #[.pointer (some ⟨g,o,none⟩),.int .i64 l.length]).run Tryz.prog w.drew = .ok (.string ⟨l.toArray⟩) (w.drew.freeze ⟨g,o,none⟩ l.length) :=
    ustr_at (w := w.drew) 168 3 9 5 Tryz.underlying168 (by kernel_rfl) g o cells hsh l h0 hle h63 hcell
  clear hcell hsh
  have L:=Tryz.lays169
  have mixed:=L.mixed
  go_enter Tryz.func81, Tryz.ntmps81
  go_wp2
  go_region
  all_goals (go_wp2; go_ret; exact ⟨rfl, rfl⟩)

/-! ### the tables, whatever has been made since -/
theorem tab_of {s : Store} {L : Nat → Nat → Loc} {C : Cs} {w : World} (h : SR s L C w) : Lib.TabIs Tryz.prog w "internal/strconv.uint64pow10" .u64 Lib.pow10Tab := by
  have h0:Lib.TabIs Tryz.prog C.w0 "internal/strconv.uint64pow10" .u64 Lib.pow10Tab:=h.good.1
  exact Lib.tabBelow_of_tabIs h0 { w with os:=C.w0.os,tape:=C.w0.tape,output:=C.w0.output } ⟨rfl,rfl,rfl,h.nsz,fun b hb=>h.base b hb⟩
theorem tab_sp {s : Store} {L : Nat → Nat → Loc} {C : Cs} {w : World} (h : SR s L C w) : Lib.TabIs Tryz.prog w "strings.asciiSpace" .u8 Lib.asciiSpaceTab :=
  Lib.tabBelow_of_tabIs h.good.2 { w with os := C.w0.os, tape := C.w0.tape, output := C.w0.output } ⟨rfl, rfl, rfl, h.nsz, fun b hb => h.base b hb⟩
theorem box_two {s : Store} {L : Nat → Nat → Loc} {C : Cs} {w : World} {d i t : Nat} {a x : AV} (h : SR s L C w) (hg : s.get d i = some (.box t [a, x])) :
    cellsOk (d + 1) [a, x] = true ∧ (∀ o, ¬ C (L d i).blk o) ∧ ∃ v0 v1, w.heap[(L d i).blk]? = some (.cells #[v0, v1] t (0, 0)) ∧ VR s L C w a v0 ∧ VR s L C w x v1 := by
  obtain ⟨h1,h2,vs,h3,h4⟩:=h.obj d i _ hg
  obtain ⟨hl,hr⟩:=h4
  match vs, hl with
  | [v0, v1], _ => exact ⟨h1, h2, v0, v1, h3, hr 0 _ _ rfl rfl, hr 1 _ _ rfl rfl⟩
theorem bytes_of : ∀ {cs : List AV} {b b' : ByteArray}, toBytes cs b = some b' → ∃ l : List UInt8, b' = ⟨b.data ++ l.toArray⟩ ∧ l.length = cs.length ∧ ∀ (j : Nat) x, l[j]? = some x → ∃ z : Int, cs[j]? = some (AV.int .u8 z) ∧ UInt8.ofNat z.toNat = x
  | [], b, b', h => by
    simp only [toBytes,Option.some.injEq] at h
    subst h
    exact ⟨[],by simp,rfl,fun j x h=>by simp at h⟩
  | c :: r, b, b', h => by
    cases c with
    | int k z =>
      cases k <;> simp only [toBytes, reduceCtorEq] at h
      obtain ⟨l,h1,h2,h3⟩:=bytes_of h
      refine ⟨UInt8.ofNat z.toNat :: l,?_,by simp [h2],fun j x hx=>?_⟩
      · rw [h1]
        apply ByteArray.ext
        simp [ByteArray.push]
      · cases j with
        | zero =>
          simp only [List.getElem?_cons_zero,Option.some.injEq] at hx
          exact ⟨z,rfl,hx⟩
        | succ j => exact h3 j x (by simpa using hx)
    | _ => simp [toBytes] at h
theorem copy_sound {s : Store} {L : Nat → Nat → Loc} {C : Cs} {w : World} {d i : Nat} {x : AV} (hR : SR s L C w) (hg : s.get d i = some (.box 111 [.nilp, x])) :
    Calls Tryz.prog 132 #[.pointer (some ⟨(L d i).blk, 0, none⟩)] w fun e w' => ∃ u, e = .returned u ∧ Post s L C w (s.set d i (.box 111 [.ptr d i 0, x])) (.tup []) u w' := by
  obtain ⟨hok,hnc,v0,v1,hh,r0,r1⟩:=box_two hR hg
  cases r0
  have hlt:(L d i).blk < w.heap.size:=hR.lt (.inl ⟨_,_,hg⟩)
  refine (Any.Builder_copyCheck_fresh lays240 x240 (L d i).blk w (by simp [World.cell?,hh]) (by simp [World.shape?,hh]; rfl) (by simp [World.frozen?,hh])).mono fun e w' he=>?_
  obtain ⟨rfl,rfl⟩:=he
  have hb1:(w.setCell ⟨(L d i).blk,0,none⟩ (.pointer (some ⟨(L d i).blk,0,none⟩))).heap[(L d i).blk]? = some (.cells #[.pointer (some ⟨(L d i).blk,0,none⟩),v1] 111 (0,0)):=by
    simp [World.setCell, Array.getElem?_modify, hh]
  have hb2:∀ b,b ≠ (L d i).blk→(w.setCell ⟨(L d i).blk,0,none⟩ (.pointer (some ⟨(L d i).blk,0,none⟩))).heap[b]? = w.heap[b]?:=fun b hb=>by
    simp only [World.setCell,Array.getElem?_modify]
    rw [if_neg (Ne.symm hb)]
  have hM:Mat s L d i:=.inl ⟨_,_,hg⟩
  have hcell:∀ b q,C b q→(w.setCell ⟨(L d i).blk,0,none⟩ (.pointer (some ⟨(L d i).blk,0,none⟩))).cell? ⟨b,q,none⟩ = w.cell? ⟨b,q,none⟩:=fun b q hc=>World.cell?_of_block (hb2 b (by rintro rfl; exact hnc _ hc))
  have hgs:=get_set (o':=.box 111 [.ptr d i 0,x]) s hg
  have hL:upd L d i (L d i) = L:=by
    funext a b
    unfold upd
    split
    · rename_i hq; rw [hq.1, hq.2]
    · rfl
  have key:=hR.turn (W:=w.setCell ⟨(L d i).blk,0,none⟩ (.pointer (some ⟨(L d i).blk,0,none⟩))) (C':=C) (l:=L d i) (o':=.box 111 [.ptr d i 0,x]) hg ⟨rfl,rfl⟩ rfl rfl rfl (by simp [World.setCell])
    (fun b _ hn => hb2 b (hn hM)) (fun _ _ h => h) (fun _ _ h => .inl h) hcell
    (fun b q hc => by
      obtain ⟨v,hv⟩:=hR.cok b q hc
      exact ⟨v,by rw [hcell b q hc]; exact hv⟩)
    (fun _ => .inl ⟨hM, rfl⟩)
    (fun hE => by
      rw [hL] at hE ⊢
      refine ⟨?_,hnc,[.pointer (some ⟨(L d i).blk,0,none⟩),v1],hb1,rfl,fun j a b ha hb=>?_⟩
      · simp only [cellsOk, List.all_cons, List.all_nil, Bool.and_true, Bool.and_eq_true] at hok ⊢
        exact ⟨⟨rfl,by simp [AV.lowB]⟩,hok.2⟩
      · match j, ha, hb with
        | 0, ha, hb =>
          simp only [List.getElem?_cons_zero,Option.some.injEq] at ha hb
          subst ha hb
          exact .ptr d i 0 _ _ hgs
        | 1, ha, hb =>
          simp only [List.getElem?_cons_succ,List.getElem?_cons_zero,Option.some.injEq] at ha hb
          subst ha hb
          exact r1.keep hE)
  rw [hL] at key
  exact ⟨_,rfl,L,C,.tup [] [] rfl fun j x y hx _=>by simp at hx,key.2,key.1⟩
theorem frz_w (w : World) (a : Addr) (n : Nat) : (w.freeze a n).os = w.os ∧ (w.freeze a n).tape = w.tape ∧ (w.freeze a n).output = w.output ∧ (w.freeze a n).heap.size = w.heap.size := by
  unfold World.freeze
  split
  · exact ⟨rfl, rfl, rfl, rfl⟩
  · exact ⟨rfl, rfl, rfl, by simp⟩
theorem frz_other (w : World) (a : Addr) (n : Nat) {b : Nat} (hb : b ≠ a.block) : (w.freeze a n).heap[b]? = w.heap[b]? := by
  unfold World.freeze
  split
  · rfl
  · simp only [Array.getElem?_modify]
    rw [if_neg (Ne.symm hb)]
theorem frz_cell (w : World) (a : Addr) (n : Nat) (b q : Nat) : (w.freeze a n).cell? ⟨b, q, none⟩ = w.cell? ⟨b, q, none⟩ := by
  by_cases hb:b = a.block
  · subst hb
    unfold World.freeze
    split
    · rfl
    · simp only [World.cell?, Array.getElem?_modify, if_true]
      cases w.heap[a.block]? with
      | none => rfl
      | some o => cases o <;> rfl
  · exact World.cell?_of_block (frz_other w a n hb)
theorem str_sound {s : Store} {L : Nat → Nat → Loc} {C : Cs} {w : World} {d i t k n ver pr : Nat} {a : AV} {cs : List AV} {b : ByteArray} (hR : SR s L C w) (hg : s.get d i = some (.box t [a, .slr 0 k 0 n ver false])) (hk : s.get 0 k = some (.arr 5 1 cs ver pr)) (hn : 0 < n) (hcap : n ≤ 9223372036854775807) (hl : cs.length = n) (hb : toBytes cs .empty = some b) :
    Calls Tryz.prog 81 #[.pointer (some ⟨(L d i).blk, 0, none⟩)] w fun e w' => ∃ u, e = .returned u ∧ Post s L C w (s.set 0 k (.arr 5 1 [] (ver + 1) 0)) (.str b) u w' := by
  obtain ⟨_,_,v0,v1,hh,_,r1⟩:=box_two hR hg
  cases r1 with
  | slr _ _ _ _ _ _ e sz cs' ver' pr' _ hk2 hle hsV hc =>
    rw [hk] at hk2
    simp only [Option.some.injEq,Obj.arr.injEq] at hk2
    obtain ⟨rfl,rfl,rfl,rfl,rfl⟩:=hk2
    obtain ⟨A,cap,rfl,hnc,hf,hA⟩:=hc rfl
    have hA:=hA (by omega)
    subst hA
    rw [if_neg (by simp)] at hf
    obtain ⟨_,hok0,h2⟩:=hR.obj 0 k _ hk
    rcases h2 with ⟨_, _, hcs⟩ | ⟨h0, hcc, hbase, vs, hheap, hlim, hrel⟩
    · subst hcs; simp at hl; omega
    · obtain ⟨l, hbl, hll, hlz⟩ := bytes_of hb
      have hbe:b = ⟨l.toArray⟩:=by rw [hbl]; apply ByteArray.ext; simp
      have hln:l.length = n:=by omega
      have hne:l ≠ []:=fun h=>by subst h; simp at hln; omega
      have hM:Mat s L 0 k:=.inr ⟨_,_,_,_,_,hk,h0⟩
      subst hln
      refine (string_at (cells:=vs.length) (b:=(L d i).blk) (g:=(L 0 k).blk) (o:=(L 0 k).base + 0) (cap:=cap) (l:=l) hne (by simp [World.cell?,hh]) (by omega) hcap (by simp [World.shape?,hheap]) (by omega) fun j x hx=>?_).mono fun e w' he=>?_
      · obtain ⟨z, hz1, hz2⟩ := hlz j x hx
        have hj:=(List.getElem?_eq_some_iff.1 hz1).1
        refine ⟨z,?_,hz2⟩
        have hv:vs[(L 0 k).base + j]? = some vs[(L 0 k).base + j]:=List.getElem?_eq_getElem (by omega)
        have:=hrel j _ _ hz1 hv
        cases hw : vs[(L 0 k).base + j] with
        | int k2 z2 =>
          rw [hw] at this
          cases this
          rw [add_lit',cell_of_heap hheap,Nat.add_zero,hv,hw]
        | _ => rw [hw] at this; cases this
      · obtain ⟨rfl, rfl⟩ := he
        have hb2:∀ b,b ≠ (L 0 k).blk→(w.drew.freeze ⟨(L 0 k).blk,(L 0 k).base + 0,none⟩ l.length).heap[b]? = w.heap[b]?:=fun b hb=>frz_other w.drew _ _ hb
        have hcell:∀ b q,(w.drew.freeze ⟨(L 0 k).blk,(L 0 k).base + 0,none⟩ l.length).cell? ⟨b,q,none⟩ = w.cell? ⟨b,q,none⟩:=fun b q=>frz_cell w.drew _ _ b q
        have hgs:=get_set (o':=.arr 5 1 [] (ver + 1) 0) s hk
        have key:=hR.turn (W:=w.drew.freeze ⟨(L 0 k).blk,(L 0 k).base + 0,none⟩ l.length) (C':=C) (l:=⟨(L 0 k).blk,0,0⟩) (o':=.arr 5 1 [] (ver + 1) 0) hk ⟨rfl,rfl,by omega,fun hq=>by omega⟩
          (frz_w w.drew _ _).1 (frz_w w.drew _ _).2.1 (frz_w w.drew _ _).2.2.1 (by rw [(frz_w w.drew _ _).2.2.2]; exact Nat.le_refl _)
          (fun b _ hn => hb2 b (hn hM)) (fun _ _ h => h) (fun _ _ h => .inl h) (fun b q _ => hcell b q)
          (fun b q hc => by
            obtain ⟨v,hv⟩:=hR.cok b q hc
            exact ⟨v,by rw [hcell b q]; exact hv⟩)
          (fun hm => by
            exfalso
            rcases hm with ⟨t, cs, hm⟩ | ⟨_, _, _, _, _, hm, hlim⟩
            · rw [hgs] at hm; cases hm
            · rw [upd_same] at hlim; exact absurd hlim (Nat.lt_irrefl _))
          (fun hE => ⟨by omega, rfl, by rw [upd_same]; exact .inl ⟨rfl, rfl, rfl⟩⟩)
        rw [hbe]
        exact ⟨_,rfl,_,C,.str _,key.2,key.1⟩
theorem prim_sound : CallOK Tryz.prog prim := by
  intro f args s v s' h L C w us hR hv
  unfold prim at h
  split at h
  · rename_i n
    split at h
    · rename_i hn
      simp only [Option.some.injEq,Prod.mk.injEq] at h
      obtain ⟨rfl,rfl⟩:=h
      obtain ⟨hl,hv⟩:=hv
      match us, hl with
      | [u], _ =>
        have hu:=hv 0 _ u rfl rfl
        cases hu
        refine .inl ⟨callFunc_run Tryz.func76 (by kernel_rfl) (by kernel_rfl),(Tryz.strconv_Itoa n hn.1 hn.2 w (tab_of hR)).mono fun e w' he=>?_⟩
        obtain ⟨rfl,k,os,rfl⟩:=he
        have hb:=Lib.below_grow w.heap.size w (Nat.le_refl _) k os
        have key:=hR.grown hb.os hb.tape hb.output hb.size fun b hb'=>hb.block b hb'
        exact ⟨_,rfl,L,C,.str _,key.2,key.1⟩
    · cases h
  · rename_i b
    split at h
    · rename_i hn
      simp only [Option.some.injEq,Prod.mk.injEq] at h
      obtain ⟨rfl,rfl⟩:=h
      obtain ⟨hl,hv⟩:=hv
      match us, hl with
      | [u], _ =>
        have hu:=hv 0 _ u rfl rfl
        cases hu
        refine .inl ⟨callFunc_run Tryz.func161 (by kernel_rfl) (by kernel_rfl),(Tryz.strings_Fields b w hn.1 (fun j x hx=>by
          have:=List.all_eq_true.1 hn.2 x (List.mem_of_getElem? hx)
          simpa using this) (tab_sp hR)).mono fun e w' he => ?_⟩
        obtain ⟨rfl,rfl⟩:=he
        obtain ⟨C',h1,h2,h3⟩:=newImm_sound (W:=w.alloc (.cells ((Lib.fields b.data.toList).map fun l=>Value.string ⟨l.toArray⟩).toArray 9)) (t:=9) (n:=(Lib.fields b.data.toList).length) (cs:=(Lib.fields b.data.toList).map fun l=>AV.str ⟨l.toArray⟩) (vs:=(Lib.fields b.data.toList).map fun l=>Value.string ⟨l.toArray⟩) hR
          ⟨by simp, fun j x y hx hy => by
            rw [List.getElem?_map] at hx hy
            obtain ⟨l,hl,rfl⟩:=Option.map_eq_some_iff.1 hx
            rw [hl] at hy
            cases hy
            exact .str _⟩ (by simp [cellsOk,AV.isCell,AV.lowB]) (pushed_alloc w _)
        refine ⟨_,rfl,L,C',?_,h2,h3⟩
        cases h1 with
        | imm full n cs A cap b o u hn hf hok hA hc hr => exact .imm false _ _ _ _ b o u hn (fun h => by cases h) hok hA hc hr
    · cases h
  · rename_i d i
    obtain ⟨hl,hv⟩:=hv
    match us, hl with
    | [u], _ =>
      have hu:=hv 0 _ u rfl rfl
      cases hu
      split at h
      · rename_i t x hg
        split at h
        · rename_i ht
          subst ht
          simp only [Option.some.injEq,Prod.mk.injEq] at h
          obtain ⟨rfl,rfl⟩:=h
          exact .inl ⟨callFunc_run Tryz.func132 (by kernel_rfl) (by kernel_rfl),copy_sound hR hg⟩
        · cases h
      · rename_i t d' i' x hg
        split at h
        · rename_i hdi
          obtain ⟨rfl,rfl⟩:=hdi
          simp only [Option.some.injEq,Prod.mk.injEq] at h
          obtain ⟨rfl,rfl⟩:=h
          obtain ⟨_,_,v0,v1,hh,r0,_⟩:=box_two hR hg
          cases r0
          refine .inl ⟨callFunc_run Tryz.func132 (by kernel_rfl) (by kernel_rfl),(Any.Builder_copyCheck_used lays240 x240 _ w (by simp [World.cell?,hh])).mono fun e w' he=>?_⟩
          obtain ⟨rfl,rfl⟩:=he
          exact ⟨_,rfl,L,C,.tup [] [] rfl fun j x y hx _=>by simp at hx,hR,Ext.refl _⟩
        · cases h
      · cases h
  · rename_i d i
    obtain ⟨hl,hv⟩:=hv
    match us, hl with
    | [u], _ =>
      have hu:=hv 0 _ u rfl rfl
      cases hu
      split at h
      · rename_i t a k n ver hg
        split at h
        · rename_i e sz cs ver' pr hk
          split at h
          · rename_i hq
            obtain ⟨rfl,rfl,rfl,hn,hcap,hl⟩:=hq
            obtain ⟨b,hb,h⟩:=bind_some h
            simp only [Option.some.injEq,Prod.mk.injEq] at h
            obtain ⟨rfl,rfl⟩:=h
            exact .inl ⟨callFunc_run Tryz.func81 (by kernel_rfl) (by kernel_rfl),str_sound hR hg hk hn hcap hl hb⟩
          · cases h
        · cases h
      · cases h
  · cases h
end Go.Proofs.YtkjonfojileipaaGreatDoor.Ae

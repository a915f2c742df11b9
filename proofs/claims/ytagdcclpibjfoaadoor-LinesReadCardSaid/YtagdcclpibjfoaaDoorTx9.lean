/-
  Texts (9): a word that is a number (the kit's shelf laid for strconv.Atoi, strings.Split and strings.Cut: its print).
-/
import Derived.Test.YtagdcclpibjfoaaDoorTx8
import Derived.Lib.SmallJoins
import Derived.Shelf.Strconv.Atoi
import Derived.Shelf.Strings.Search1
import Derived.Shelf.Strings.Search2
import Derived.Shelf.Strings.Search3
import Derived.Shelf.Strings.Cut
import Derived.Shelf.Strings.Split
namespace Go.Proofs
open Go.Shelf
def Tryd.lays172_ren : Go.Shelf.Ren := ⟨fun | 172 => 122 | 244 => 141 | 245 => 142 | 247 => 158 | 279 => 159 | 280 => 160 | 281 => 161 | 282 => 162 | 287 => 173 | 316 => 174 | 171 => 74 | 205 => 175 | 321 => 180 | 322 => 181 | 243 => 113 | 246 => 126 | 283 => 145 | 284 => 146 | 285 => 147 | 286 => 148 | 129 => 116 | 317 => 167 | 318 => 168 | 319 => 169 | 320 => 170 | 337 => 178 | 338 => 179 | n => n, fun | 9 => 9 | 3 => 3 | 75 => 100 | 76 => 101 | 4 => 4 | 5 => 5 | 167 => 177 | 37 => 86 | 0 => 0 | 85 => 178 | 2 => 2 | 168 => 180 | 53 => 30 | 175 => 189 | 46 => 107 | 210 => 193 | 127 => 140 | 145 => 205 | 143 => 203 | 21 => 21 | 171 => 164 | 173 => 166 | 212 => 184 | 51 => 142 | 20 => 20 | 213 => 185 | 232 => 206 | 233 => 207 | 80 => 104 | n => n, fun | 15 => 2 | 16 => 3 | 17 => 1 | 18 => 6 | 19 => 7 | n => n⟩
theorem Tryd.lays172 : Go.Proofs.Lays.n172 Tryd.prog Tryd.lays172_ren := {
  mixed := by kernel_rfl
  f129 := Tryd.func116.trans (congrArg some (by kernel_rfl))
  f171 := Tryd.func74.trans (congrArg some (by kernel_rfl))
  f172 := Tryd.func122.trans (congrArg some (by kernel_rfl))
  f205 := Tryd.func175.trans (congrArg some (by kernel_rfl))
  f243 := Tryd.func113.trans (congrArg some (by kernel_rfl))
  f244 := Tryd.func141.trans (congrArg some (by kernel_rfl))
  f245 := Tryd.func142.trans (congrArg some (by kernel_rfl))
  f246 := Tryd.func126.trans (congrArg some (by kernel_rfl))
  f247 := Tryd.func158.trans (congrArg some (by kernel_rfl))
  f279 := Tryd.func159.trans (congrArg some (by kernel_rfl))
  f280 := Tryd.func160.trans (congrArg some (by kernel_rfl))
  f281 := Tryd.func161.trans (congrArg some (by kernel_rfl))
  f282 := Tryd.func162.trans (congrArg some (by kernel_rfl))
  f283 := Tryd.func145.trans (congrArg some (by kernel_rfl))
  f284 := Tryd.func146.trans (congrArg some (by kernel_rfl))
  f285 := Tryd.func147.trans (congrArg some (by kernel_rfl))
  f286 := Tryd.func148.trans (congrArg some (by kernel_rfl))
  f287 := Tryd.func173.trans (congrArg some (by kernel_rfl))
  f316 := Tryd.func174.trans (congrArg some (by kernel_rfl))
  f317 := Tryd.func167.trans (congrArg some (by kernel_rfl))
  f318 := Tryd.func168.trans (congrArg some (by kernel_rfl))
  f319 := Tryd.func169.trans (congrArg some (by kernel_rfl))
  f320 := Tryd.func170.trans (congrArg some (by kernel_rfl))
  f321 := Tryd.func180.trans (congrArg some (by kernel_rfl))
  f322 := Tryd.func181.trans (congrArg some (by kernel_rfl))
  f337 := Tryd.func178.trans (congrArg some (by kernel_rfl))
  f338 := Tryd.func179.trans (congrArg some (by kernel_rfl))
  t0 := Tryd.underlying0
  a0 := Tryd.isAgg0
  z0 := Tryd.sizeOf0
  v0 := Tryd.zeroValue0
  t2 := Tryd.underlying2
  a2 := Tryd.isAgg2
  z2 := Tryd.sizeOf2
  v2 := Tryd.zeroValue2
  t3 := Tryd.underlying3
  a3 := Tryd.isAgg3
  z3 := Tryd.sizeOf3
  v3 := Tryd.zeroValue3
  t4 := Tryd.underlying4
  a4 := Tryd.isAgg4
  z4 := Tryd.sizeOf4
  v4 := Tryd.zeroValue4
  t5 := Tryd.underlying5
  a5 := Tryd.isAgg5
  z5 := Tryd.sizeOf5
  v5 := Tryd.zeroValue5
  t9 := Tryd.underlying9
  a9 := Tryd.isAgg9
  z9 := Tryd.sizeOf9
  v9 := Tryd.zeroValue9
  t20 := Tryd.underlying20
  a20 := Tryd.isAgg20
  z20 := Tryd.sizeOf20
  v20 := Tryd.zeroValue20
  t21 := Tryd.underlying21
  a21 := Tryd.isAgg21
  z21 := Tryd.sizeOf21
  v21 := Tryd.zeroValue21
  t37 := Tryd.underlying86
  a37 := Tryd.isAgg86
  z37 := Tryd.sizeOf86
  v37 := Tryd.zeroValue86
  t46 := Tryd.underlying107
  a46 := Tryd.isAgg107
  z46 := Tryd.sizeOf107
  v46 := Tryd.zeroValue107
  t51 := Tryd.underlying142
  a51 := Tryd.isAgg142
  z51 := Tryd.sizeOf142
  v51 := Tryd.zeroValue142
  t53 := Tryd.underlying30
  a53 := Tryd.isAgg30
  z53 := Tryd.sizeOf30
  v53 := Tryd.zeroValue30
  t75 := Tryd.underlying100
  a75 := Tryd.isAgg100
  z75 := Tryd.sizeOf100
  v75 := Tryd.zeroValue100
  t76 := Tryd.underlying101
  a76 := Tryd.isAgg101
  z76 := Tryd.sizeOf101
  v76 := Tryd.zeroValue101
  t85 := Tryd.underlying178
  a85 := Tryd.isAgg178
  z85 := Tryd.sizeOf178
  v85 := Tryd.zeroValue178
  t127 := Tryd.underlying140
  a127 := Tryd.isAgg140
  z127 := Tryd.sizeOf140
  v127 := Tryd.zeroValue140
  t143 := Tryd.underlying203
  a143 := Tryd.isAgg203
  z143 := Tryd.sizeOf203
  v143 := Tryd.zeroValue203
  t145 := Tryd.underlying205
  a145 := Tryd.isAgg205
  z145 := Tryd.sizeOf205
  v145 := Tryd.zeroValue205
  t167 := Tryd.underlying177
  a167 := Tryd.isAgg177
  z167 := Tryd.sizeOf177
  v167 := Tryd.zeroValue177
  t168 := Tryd.underlying180
  a168 := Tryd.isAgg180
  z168 := Tryd.sizeOf180
  v168 := Tryd.zeroValue180
  t171 := Tryd.underlying164
  a171 := Tryd.isAgg164
  z171 := Tryd.sizeOf164
  v171 := Tryd.zeroValue164
  t173 := Tryd.underlying166
  a173 := Tryd.isAgg166
  z173 := Tryd.sizeOf166
  v173 := Tryd.zeroValue166
  t175 := Tryd.underlying189
  a175 := Tryd.isAgg189
  z175 := Tryd.sizeOf189
  v175 := Tryd.zeroValue189
  t210 := Tryd.underlying193
  a210 := Tryd.isAgg193
  z210 := Tryd.sizeOf193
  v210 := Tryd.zeroValue193
  t212 := Tryd.underlying184
  a212 := Tryd.isAgg184
  z212 := Tryd.sizeOf184
  v212 := Tryd.zeroValue184
  t213 := Tryd.underlying185
  a213 := Tryd.isAgg185
  z213 := Tryd.sizeOf185
  t232 := Tryd.underlying206
  a232 := Tryd.isAgg206
  z232 := Tryd.sizeOf206
  v232 := Tryd.zeroValue206
  t233 := Tryd.underlying207
  a233 := Tryd.isAgg207
  z233 := Tryd.sizeOf207
  v233 := Tryd.zeroValue207
  g15 := by kernel_rfl
  g16 := by kernel_rfl
  g17 := by kernel_rfl
  g18 := by kernel_rfl
  g19 := by kernel_rfl }
def Tryd.lays146_ren : Go.Shelf.Ren := ⟨fun | 146 => 97 | 221 => 121 | 268 => 138 | 138 => 139 | 143 => 140 | 195 => 155 | 197 => 156 | 218 => 157 | 219 => 143 | 260 => 172 | 217 => 163 | 225 => 164 | 224 => 165 | 267 => 166 | 266 => 176 | 314 => 177 | n => n, fun | 9 => 9 | 31 => 113 | 3 => 3 | 4 => 4 | 0 => 0 | 105 => 174 | 21 => 21 | 5 => 5 | 46 => 107 | 119 => 197 | 139 => 200 | 138 => 199 | 146 => 195 | 51 => 142 | n => n, fun | 1 => 0 | 3 => 4 | 4 => 5 | n => n⟩
theorem Tryd.lays146 : Go.Proofs.Lays.n146 Tryd.prog Tryd.lays146_ren := {
  mixed := by kernel_rfl
  f138 := Tryd.func139.trans (congrArg some (by kernel_rfl))
  f143 := Tryd.func140.trans (congrArg some (by kernel_rfl))
  f146 := Tryd.func97.trans (congrArg some (by kernel_rfl))
  f195 := Tryd.func155.trans (congrArg some (by kernel_rfl))
  f197 := Tryd.func156.trans (congrArg some (by kernel_rfl))
  f217 := Tryd.func163.trans (congrArg some (by kernel_rfl))
  f218 := Tryd.func157.trans (congrArg some (by kernel_rfl))
  f219 := Tryd.func143.trans (congrArg some (by kernel_rfl))
  f221 := Tryd.func121.trans (congrArg some (by kernel_rfl))
  f224 := Tryd.func165.trans (congrArg some (by kernel_rfl))
  f225 := Tryd.func164.trans (congrArg some (by kernel_rfl))
  f260 := Tryd.func172.trans (congrArg some (by kernel_rfl))
  f266 := Tryd.func176.trans (congrArg some (by kernel_rfl))
  f267 := Tryd.func166.trans (congrArg some (by kernel_rfl))
  f268 := Tryd.func138.trans (congrArg some (by kernel_rfl))
  f314 := Tryd.func177.trans (congrArg some (by kernel_rfl))
  t0 := Tryd.underlying0
  a0 := Tryd.isAgg0
  z0 := Tryd.sizeOf0
  v0 := Tryd.zeroValue0
  t3 := Tryd.underlying3
  a3 := Tryd.isAgg3
  z3 := Tryd.sizeOf3
  v3 := Tryd.zeroValue3
  t4 := Tryd.underlying4
  a4 := Tryd.isAgg4
  z4 := Tryd.sizeOf4
  v4 := Tryd.zeroValue4
  t5 := Tryd.underlying5
  a5 := Tryd.isAgg5
  z5 := Tryd.sizeOf5
  v5 := Tryd.zeroValue5
  t9 := Tryd.underlying9
  a9 := Tryd.isAgg9
  z9 := Tryd.sizeOf9
  v9 := Tryd.zeroValue9
  t21 := Tryd.underlying21
  a21 := Tryd.isAgg21
  z21 := Tryd.sizeOf21
  v21 := Tryd.zeroValue21
  t31 := Tryd.underlying113
  a31 := Tryd.isAgg113
  z31 := Tryd.sizeOf113
  v31 := Tryd.zeroValue113
  t46 := Tryd.underlying107
  a46 := Tryd.isAgg107
  z46 := Tryd.sizeOf107
  v46 := Tryd.zeroValue107
  t51 := Tryd.underlying142
  a51 := Tryd.isAgg142
  z51 := Tryd.sizeOf142
  v51 := Tryd.zeroValue142
  t105 := Tryd.underlying174
  a105 := Tryd.isAgg174
  z105 := Tryd.sizeOf174
  v105 := Tryd.zeroValue174
  t119 := Tryd.underlying197
  a119 := Tryd.isAgg197
  z119 := Tryd.sizeOf197
  t138 := Tryd.underlying199
  a138 := Tryd.isAgg199
  z138 := Tryd.sizeOf199
  v138 := Tryd.zeroValue199
  t139 := Tryd.underlying200
  a139 := Tryd.isAgg200
  z139 := Tryd.sizeOf200
  v139 := Tryd.zeroValue200
  t146 := Tryd.underlying195
  a146 := Tryd.isAgg195
  z146 := Tryd.sizeOf195
  v146 := Tryd.zeroValue195
  g1 := by kernel_rfl
  g3 := by kernel_rfl
  g4 := by kernel_rfl }
open Go.RowKit Go.Lib in
theorem Tryd.strings_Split (s sep : ByteArray) (m : Int) (w : World) (hs : s.size < 4294967281) (hm : w.cell? ⟨0, 0, none⟩ = some (.int .i64 m)) (h1 : 1 ≤ sep.size) :
    Calls Tryd.prog 97 #[.string s, .string sep] w fun e w' =>
      e = .returned (.slice (some ⟨w.heap.size, 0, none⟩) (Lib.countB s sep + 1) (Lib.countB s sep + 1)) ∧ w' = w.alloc (.cells ((Lib.splitB sep 0 (Lib.countB s sep) s).map Value.string).toArray 9) := Any.strings_Split Tryd.lays146 (by kernel_rfl) s sep m w hs hm h1
def Tryd.lays145_ren : Go.Shelf.Ren := ⟨fun | 145 => 103 | 220 => 123 | 219 => 143 | 217 => 163 | 225 => 164 | 224 => 165 | 267 => 166 | 266 => 176 | 314 => 177 | n => n, fun | 9 => 9 | 4 => 4 | 59 => 134 | 3 => 3 | 5 => 5 | 46 => 107 | 146 => 195 | 51 => 142 | n => n, fun | 1 => 0 | n => n⟩
theorem Tryd.lays145 : Go.Proofs.Lays.n145 Tryd.prog Tryd.lays145_ren := {
  mixed := by kernel_rfl
  f145 := Tryd.func103.trans (congrArg some (by kernel_rfl))
  f217 := Tryd.func163.trans (congrArg some (by kernel_rfl))
  f219 := Tryd.func143.trans (congrArg some (by kernel_rfl))
  f220 := Tryd.func123.trans (congrArg some (by kernel_rfl))
  f224 := Tryd.func165.trans (congrArg some (by kernel_rfl))
  f225 := Tryd.func164.trans (congrArg some (by kernel_rfl))
  f266 := Tryd.func176.trans (congrArg some (by kernel_rfl))
  f267 := Tryd.func166.trans (congrArg some (by kernel_rfl))
  f314 := Tryd.func177.trans (congrArg some (by kernel_rfl))
  t3 := Tryd.underlying3
  a3 := Tryd.isAgg3
  z3 := Tryd.sizeOf3
  v3 := Tryd.zeroValue3
  t4 := Tryd.underlying4
  a4 := Tryd.isAgg4
  z4 := Tryd.sizeOf4
  v4 := Tryd.zeroValue4
  t5 := Tryd.underlying5
  a5 := Tryd.isAgg5
  z5 := Tryd.sizeOf5
  v5 := Tryd.zeroValue5
  t9 := Tryd.underlying9
  a9 := Tryd.isAgg9
  z9 := Tryd.sizeOf9
  v9 := Tryd.zeroValue9
  t46 := Tryd.underlying107
  a46 := Tryd.isAgg107
  z46 := Tryd.sizeOf107
  v46 := Tryd.zeroValue107
  t51 := Tryd.underlying142
  a51 := Tryd.isAgg142
  z51 := Tryd.sizeOf142
  v51 := Tryd.zeroValue142
  t59 := Tryd.underlying134
  a59 := Tryd.isAgg134
  z59 := Tryd.sizeOf134
  v59 := Tryd.zeroValue134
  t146 := Tryd.underlying195
  a146 := Tryd.isAgg195
  z146 := Tryd.sizeOf195
  v146 := Tryd.zeroValue195
  g1 := by kernel_rfl }
open Go.RowKit Go.Lib in
theorem Tryd.strings_Cut (s sep : ByteArray) (m : Int) (w : World) (hs : s.size < 4294967281) (hm : w.cell? ⟨0, 0, none⟩ = some (.int .i64 m)) :
    Calls Tryd.prog 103 #[.string s, .string sep] w fun e w' => e = .returned (.tuple #[.string ⟨(Lib.cut s.data.toList sep.data.toList).1.toArray⟩, .string ⟨(Lib.cut s.data.toList sep.data.toList).2.1.toArray⟩, .bool (Lib.cut s.data.toList sep.data.toList).2.2]) ∧ ∃ n, w' = w.drewN n := Any.strings_Cut Tryd.lays145 s sep m w hs hm
end Go.Proofs
namespace Go.Proofs.YtagdcclpibjfoaaDoor
open Go.Vm
namespace Txt

theorem framed_of_below {w w' : World} (h : Go.RowKit.Below w.heap.size w w') : Framed w w' := ⟨h.size, h.block, h.tape, h.os, h.output⟩
theorem itoa_len9 {n : Int} (h : 0 ≤ n) (h2 : n < 1000000000) : (Lib.itoa n).length ≤ 9 := by
  unfold Lib.itoa
  rw [if_neg (by omega), Lib.decDigits_length]
  exact nDigits_le 8 n.toNat (by omega)
end Txt
end Go.Proofs.YtagdcclpibjfoaaDoor

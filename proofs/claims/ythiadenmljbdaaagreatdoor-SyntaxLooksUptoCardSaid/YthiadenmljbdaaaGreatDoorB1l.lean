/-
  l: the parts Shelf.
-/
import Derived.Shelf.Strings.Builder1
import Derived.Shelf.Strings.Builder2
import Derived.Shelf.Strings.OnBuilder
import Derived.Shelf.Strings.Trim
import Derived.Shelf.Small.Utf8
import Derived.Shelf.Small.Bits
import Derived.Shelf.Small.Strs
import Derived.Shelf.Strings.BuilderF
import Derived.Shelf.Strings.BuilderK
import Derived.Shelf.Strings.Builder2Cap
import Derived.Shelf.Strconv.Itoa0
import Derived.Shelf.LaysM
import Derived.Shelf.Strconv.Clone
import Derived.Shelf.Strings.Search1
import Derived.Shelf.Sort.Plain
import Derived.Shelf.Unicode.Decode
import Derived.Shelf.Strings.Runes
import Derived.Shelf.Strings.AsciiSet
import Derived.Shelf.Unicode.DecodeSlow
import Derived.Shelf.Unicode.DecodeAny
import Derived.Shelf.Unicode.DecodeLast
import Derived.Shelf.Strings.BuilderCap
import Derived.Shelf.Slices.Equal
import Derived.Ground.Names2Prog
import Derived.Shelf.Slices.Clone
import Derived.Shelf.Slices.In.SortNone
import Derived.Shelf.Slices.Empties2
import Derived.Ground.SlgnProg
import Derived.Shelf.SlicesE.Clone
import Derived.Test.YthiadenmljbdaaaGreatDoorProg
section
namespace Go.Proofs
open Go.Shelf
def Tryz.lays169_ren : Go.Shelf.Ren := ⟨fun | 169 => 45 | n => n, fun | 70 => 75 | 9 => 9 | 0 => 0 | 72 => 77 | 37 => 71 | 127 => 114 | 3 => 3 | 5 => 5 | n => n, fun | n => n⟩
theorem Tryz.lays169 : Go.Proofs.Lays.n169 Tryz.prog Tryz.lays169_ren := {
 mixed := by kernel_rfl
 f169 := Tryz.func45.trans (congrArg some (by kernel_rfl))
 t0 := Tryz.underlying0
 a0 := Tryz.isAgg0
 z0 := Tryz.sizeOf0
 v0 := Tryz.zeroValue0
 t3 := Tryz.underlying3
 a3 := Tryz.isAgg3
 z3 := Tryz.sizeOf3
 v3 := Tryz.zeroValue3
 t9 := Tryz.underlying9
 a9 := Tryz.isAgg9
 z9 := Tryz.sizeOf9
 v9 := Tryz.zeroValue9
 t37 := Tryz.underlying71
 a37 := Tryz.isAgg71
 z37 := Tryz.sizeOf71
 v37 := Tryz.zeroValue71
 t70 := Tryz.underlying75
 a70 := Tryz.isAgg75
 z70 := Tryz.sizeOf75
 v70 := Tryz.zeroValue75
 t72 := Tryz.underlying77
 a72 := Tryz.isAgg77
 z72 := Tryz.sizeOf77
 v72 := Tryz.zeroValue77
 t127 := Tryz.underlying114
 a127 := Tryz.isAgg114
 z127 := Tryz.sizeOf114
 v127 := Tryz.zeroValue114 }
theorem Tryz.Builder_Extra_169 : Builder.Extra Tryz.prog Tryz.lays169_ren := {
 sizeBuilder := by kernel_rfl
 liesBuilder := by kernel_rfl
 t5 := Tryz.underlying5
 a5 := Tryz.isAgg5
 z5 := Tryz.sizeOf5
 v5 := Tryz.zeroValue5
 infoByte := by kernel_rfl
 cellsByte := by kernel_rfl
 sizeByte := by kernel_rfl
 neB5 := by decide }
open Go.RowKit in
theorem Tryz.Builder_String_any (B b : Nat) (l : List UInt8) (w : World) (h : Lib.IsBuilder 77 5 B b (Lib.byteCells l) w) (hBw : B ≤ w.heap.size) :
    Calls Tryz.prog 45 #[.pointer (some ⟨b, 0, none⟩)] w fun e w' => e = .returned (.string ⟨l.toArray⟩) ∧ Below B w w' := Any.Builder_String_any Tryz.lays169 Tryz.Builder_Extra_169 B b l w h hBw
def Tryz.lays156_ren : Go.Shelf.Ren := ⟨fun | 156 => 79 | 165 => 113 | 166 => 78 | 169 => 45 | 240 => 112 | 241 => 146 | 276 => 145 | 277 => 165 | n => n, fun | 31 => 22 | 9 => 9 | 3 => 3 | 4 => 4 | 0 => 0 | 20 => 20 | 72 => 77 | 76 => 111 | 70 => 75 | 37 => 71 | 75 => 108 | 127 => 114 | 164 => 165 | 5 => 5 | 80 => 81 | n => n, fun | n => n⟩
theorem Tryz.lays156 : Go.Proofs.Lays.n156 Tryz.prog Tryz.lays156_ren := {
 mixed := by kernel_rfl
 f156 := Tryz.func79.trans (congrArg some (by kernel_rfl))
 f165 := Tryz.func113.trans (congrArg some (by kernel_rfl))
 f166 := Tryz.func78.trans (congrArg some (by kernel_rfl))
 f169 := Tryz.func45.trans (congrArg some (by kernel_rfl))
 f240 := Tryz.func112.trans (congrArg some (by kernel_rfl))
 f241 := Tryz.func146.trans (congrArg some (by kernel_rfl))
 f276 := Tryz.func145.trans (congrArg some (by kernel_rfl))
 f277 := Tryz.func165.trans (congrArg some (by kernel_rfl))
 t0 := Tryz.underlying0
 a0 := Tryz.isAgg0
 z0 := Tryz.sizeOf0
 v0 := Tryz.zeroValue0
 t3 := Tryz.underlying3
 a3 := Tryz.isAgg3
 z3 := Tryz.sizeOf3
 v3 := Tryz.zeroValue3
 t4 := Tryz.underlying4
 a4 := Tryz.isAgg4
 z4 := Tryz.sizeOf4
 v4 := Tryz.zeroValue4
 t9 := Tryz.underlying9
 a9 := Tryz.isAgg9
 z9 := Tryz.sizeOf9
 v9 := Tryz.zeroValue9
 t20 := Tryz.underlying20
 a20 := Tryz.isAgg20
 z20 := Tryz.sizeOf20
 v20 := Tryz.zeroValue20
 t31 := Tryz.underlying22
 a31 := Tryz.isAgg22
 z31 := Tryz.sizeOf22
 v31 := Tryz.zeroValue22
 t37 := Tryz.underlying71
 a37 := Tryz.isAgg71
 z37 := Tryz.sizeOf71
 v37 := Tryz.zeroValue71
 t70 := Tryz.underlying75
 a70 := Tryz.isAgg75
 z70 := Tryz.sizeOf75
 v70 := Tryz.zeroValue75
 t72 := Tryz.underlying77
 a72 := Tryz.isAgg77
 z72 := Tryz.sizeOf77
 v72 := Tryz.zeroValue77
 t75 := Tryz.underlying108
 a75 := Tryz.isAgg108
 z75 := Tryz.sizeOf108
 v75 := Tryz.zeroValue108
 t76 := Tryz.underlying111
 a76 := Tryz.isAgg111
 z76 := Tryz.sizeOf111
 v76 := Tryz.zeroValue111
 t127 := Tryz.underlying114
 a127 := Tryz.isAgg114
 z127 := Tryz.sizeOf114
 v127 := Tryz.zeroValue114
 t164 := Tryz.underlying165
 a164 := Tryz.isAgg165
 z164 := Tryz.sizeOf165
 v164 := Tryz.zeroValue165 }
theorem Tryz.Builder_Extra_156 : Builder.Extra Tryz.prog Tryz.lays156_ren := {
 sizeBuilder := by kernel_rfl
 liesBuilder := by kernel_rfl
 t5 := Tryz.underlying5
 a5 := Tryz.isAgg5
 z5 := Tryz.sizeOf5
 v5 := Tryz.zeroValue5
 infoByte := by kernel_rfl
 cellsByte := by kernel_rfl
 sizeByte := by kernel_rfl
 neB5 := by decide }
open Go.RowKit in
theorem Tryz.strings_Join (bk o c : Nat) (xs : List ByteArray) (sep : ByteArray) (w : World) (hcells : ∀ (j : Nat) x, xs[j]? = some x → w.cell? ⟨bk, o + j, none⟩ = some (.string x)) (hbk : bk < w.heap.size) (hN : xs.length ≤ 140737488355328) (hcap : xs.length ≤ c) (hlen : (Lib.join (xs.map (·.data.toList)) sep.data.toList).length ≤ 140737488355328) :
    Calls Tryz.prog 79 #[.slice (some ⟨bk, o, none⟩) xs.length c, .string sep] w fun e w' => e = .returned (.string ⟨(Lib.join (xs.map (·.data.toList)) sep.data.toList).toArray⟩) ∧ Below w.heap.size w w' := Any.strings_Join Tryz.lays156 Tryz.Builder_Extra_156 bk o c xs sep w hcells hbk hN hcap hlen
def Tryz.lays161_ren : Go.Shelf.Ren := ⟨fun | 161 => 167 | 231 => 174 | 227 => 175 | 233 => 176 | 235 => 177 | 228 => 183 | 197 => 184 | 151 => 185 | 260 => 188 | 152 => 189 | 137 => 105 | 119 => 191 | 224 => 192 | 225 => 193 | 217 => 140 | 266 => 158 | n => n, fun | 9 => 9 | 4 => 4 | 3 => 3 | 5 => 5 | 117 => 185 | 116 => 184 | 0 => 0 | 124 => 188 | 105 => 189 | 21 => 21 | 119 => 193 | 46 => 133 | 139 => 196 | 138 => 195 | n => n, fun | 3 => 1 | 4 => 2 | n => n⟩
theorem Tryz.lays161 : Go.Proofs.Lays.n161 Tryz.prog Tryz.lays161_ren := {
 mixed := by kernel_rfl
 f119 := Tryz.func191.trans (congrArg some (by kernel_rfl))
 f137 := Tryz.func105.trans (congrArg some (by kernel_rfl))
 f151 := Tryz.func185.trans (congrArg some (by kernel_rfl))
 f152 := Tryz.func189.trans (congrArg some (by kernel_rfl))
 f161 := Tryz.func167.trans (congrArg some (by kernel_rfl))
 f197 := Tryz.func184.trans (congrArg some (by kernel_rfl))
 f217 := Tryz.func140.trans (congrArg some (by kernel_rfl))
 f224 := Tryz.func192.trans (congrArg some (by kernel_rfl))
 f225 := Tryz.func193.trans (congrArg some (by kernel_rfl))
 f227 := Tryz.func175.trans (congrArg some (by kernel_rfl))
 f228 := Tryz.func183.trans (congrArg some (by kernel_rfl))
 f231 := Tryz.func174.trans (congrArg some (by kernel_rfl))
 f233 := Tryz.func176.trans (congrArg some (by kernel_rfl))
 f235 := Tryz.func177.trans (congrArg some (by kernel_rfl))
 f260 := Tryz.func188.trans (congrArg some (by kernel_rfl))
 f266 := Tryz.func158.trans (congrArg some (by kernel_rfl))
 t0 := Tryz.underlying0
 a0 := Tryz.isAgg0
 z0 := Tryz.sizeOf0
 v0 := Tryz.zeroValue0
 t3 := Tryz.underlying3
 a3 := Tryz.isAgg3
 z3 := Tryz.sizeOf3
 v3 := Tryz.zeroValue3
 t4 := Tryz.underlying4
 a4 := Tryz.isAgg4
 z4 := Tryz.sizeOf4
 v4 := Tryz.zeroValue4
 t5 := Tryz.underlying5
 a5 := Tryz.isAgg5
 z5 := Tryz.sizeOf5
 v5 := Tryz.zeroValue5
 t9 := Tryz.underlying9
 a9 := Tryz.isAgg9
 z9 := Tryz.sizeOf9
 v9 := Tryz.zeroValue9
 t21 := Tryz.underlying21
 a21 := Tryz.isAgg21
 z21 := Tryz.sizeOf21
 v21 := Tryz.zeroValue21
 t46 := Tryz.underlying133
 a46 := Tryz.isAgg133
 z46 := Tryz.sizeOf133
 v46 := Tryz.zeroValue133
 t105 := Tryz.underlying189
 a105 := Tryz.isAgg189
 z105 := Tryz.sizeOf189
 v105 := Tryz.zeroValue189
 t116 := Tryz.underlying184
 a116 := Tryz.isAgg184
 z116 := Tryz.sizeOf184
 t117 := Tryz.underlying185
 a117 := Tryz.isAgg185
 z117 := Tryz.sizeOf185
 v117 := Tryz.zeroValue185
 t119 := Tryz.underlying193
 a119 := Tryz.isAgg193
 z119 := Tryz.sizeOf193
 t124 := Tryz.underlying188
 a124 := Tryz.isAgg188
 z124 := Tryz.sizeOf188
 v124 := Tryz.zeroValue188
 t138 := Tryz.underlying195
 a138 := Tryz.isAgg195
 z138 := Tryz.sizeOf195
 v138 := Tryz.zeroValue195
 t139 := Tryz.underlying196
 a139 := Tryz.isAgg196
 z139 := Tryz.sizeOf196
 v139 := Tryz.zeroValue196
 g3 := by kernel_rfl
 g4 := by kernel_rfl }
open Go.RowKit in
theorem Tryz.strings_TrimLeft_one (s : ByteArray) (c : UInt8) (hc : c.toNat < 128) (w : World) :
    Calls Tryz.prog 167 #[.string s, .string ⟨#[c]⟩] w fun e w' => e = .returned (.string ⟨(Lib.trimLeftB s.data.toList c).toArray⟩) ∧ w' = w := Any.strings_TrimLeft_one Tryz.lays161 s c hc w
def Tryz.lays160_ren : Go.Shelf.Ren := ⟨fun | 160 => 171 | 232 => 180 | 231 => 174 | 227 => 175 | 234 => 181 | 233 => 176 | 236 => 182 | 235 => 177 | 228 => 183 | 271 => 187 | 151 => 185 | 197 => 184 | 120 => 190 | 152 => 189 | 260 => 188 | 137 => 105 | 119 => 191 | 224 => 192 | 225 => 193 | 217 => 140 | 266 => 158 | n => n, fun | 9 => 9 | 4 => 4 | 3 => 3 | 5 => 5 | 117 => 185 | 116 => 184 | 0 => 0 | 124 => 188 | 21 => 21 | 105 => 189 | 46 => 133 | 119 => 193 | 139 => 196 | 138 => 195 | n => n, fun | 3 => 1 | 4 => 2 | n => n⟩
theorem Tryz.lays160 : Go.Proofs.Lays.n160 Tryz.prog Tryz.lays160_ren := {
 mixed := by kernel_rfl
 f119 := Tryz.func191.trans (congrArg some (by kernel_rfl))
 f120 := Tryz.func190.trans (congrArg some (by kernel_rfl))
 f137 := Tryz.func105.trans (congrArg some (by kernel_rfl))
 f151 := Tryz.func185.trans (congrArg some (by kernel_rfl))
 f152 := Tryz.func189.trans (congrArg some (by kernel_rfl))
 f160 := Tryz.func171.trans (congrArg some (by kernel_rfl))
 f197 := Tryz.func184.trans (congrArg some (by kernel_rfl))
 f217 := Tryz.func140.trans (congrArg some (by kernel_rfl))
 f224 := Tryz.func192.trans (congrArg some (by kernel_rfl))
 f225 := Tryz.func193.trans (congrArg some (by kernel_rfl))
 f227 := Tryz.func175.trans (congrArg some (by kernel_rfl))
 f228 := Tryz.func183.trans (congrArg some (by kernel_rfl))
 f231 := Tryz.func174.trans (congrArg some (by kernel_rfl))
 f232 := Tryz.func180.trans (congrArg some (by kernel_rfl))
 f233 := Tryz.func176.trans (congrArg some (by kernel_rfl))
 f234 := Tryz.func181.trans (congrArg some (by kernel_rfl))
 f235 := Tryz.func177.trans (congrArg some (by kernel_rfl))
 f236 := Tryz.func182.trans (congrArg some (by kernel_rfl))
 f260 := Tryz.func188.trans (congrArg some (by kernel_rfl))
 f266 := Tryz.func158.trans (congrArg some (by kernel_rfl))
 f271 := Tryz.func187.trans (congrArg some (by kernel_rfl))
 t0 := Tryz.underlying0
 a0 := Tryz.isAgg0
 z0 := Tryz.sizeOf0
 v0 := Tryz.zeroValue0
 t3 := Tryz.underlying3
 a3 := Tryz.isAgg3
 z3 := Tryz.sizeOf3
 v3 := Tryz.zeroValue3
 t4 := Tryz.underlying4
 a4 := Tryz.isAgg4
 z4 := Tryz.sizeOf4
 v4 := Tryz.zeroValue4
 t5 := Tryz.underlying5
 a5 := Tryz.isAgg5
 z5 := Tryz.sizeOf5
 v5 := Tryz.zeroValue5
 t9 := Tryz.underlying9
 a9 := Tryz.isAgg9
 z9 := Tryz.sizeOf9
 v9 := Tryz.zeroValue9
 t21 := Tryz.underlying21
 a21 := Tryz.isAgg21
 z21 := Tryz.sizeOf21
 v21 := Tryz.zeroValue21
 t46 := Tryz.underlying133
 a46 := Tryz.isAgg133
 z46 := Tryz.sizeOf133
 v46 := Tryz.zeroValue133
 t105 := Tryz.underlying189
 a105 := Tryz.isAgg189
 z105 := Tryz.sizeOf189
 v105 := Tryz.zeroValue189
 t116 := Tryz.underlying184
 a116 := Tryz.isAgg184
 z116 := Tryz.sizeOf184
 t117 := Tryz.underlying185
 a117 := Tryz.isAgg185
 z117 := Tryz.sizeOf185
 v117 := Tryz.zeroValue185
 t119 := Tryz.underlying193
 a119 := Tryz.isAgg193
 z119 := Tryz.sizeOf193
 t124 := Tryz.underlying188
 a124 := Tryz.isAgg188
 z124 := Tryz.sizeOf188
 v124 := Tryz.zeroValue188
 t138 := Tryz.underlying195
 a138 := Tryz.isAgg195
 z138 := Tryz.sizeOf195
 v138 := Tryz.zeroValue195
 t139 := Tryz.underlying196
 a139 := Tryz.isAgg196
 z139 := Tryz.sizeOf196
 v139 := Tryz.zeroValue196
 g3 := by kernel_rfl
 g4 := by kernel_rfl }
def Tryz.lays137_ren : Go.Shelf.Ren := ⟨fun | 137 => 105 | 217 => 140 | 266 => 158 | n => n, fun | 9 => 9 | 5 => 5 | 3 => 3 | n => n, fun | n => n⟩
theorem Tryz.lays137 : Go.Proofs.Lays.n137 Tryz.prog Tryz.lays137_ren := {
 mixed := by kernel_rfl
 f137 := Tryz.func105.trans (congrArg some (by kernel_rfl))
 f217 := Tryz.func140.trans (congrArg some (by kernel_rfl))
 f266 := Tryz.func158.trans (congrArg some (by kernel_rfl))
 t3 := Tryz.underlying3
 a3 := Tryz.isAgg3
 z3 := Tryz.sizeOf3
 v3 := Tryz.zeroValue3
 t5 := Tryz.underlying5
 a5 := Tryz.isAgg5
 z5 := Tryz.sizeOf5
 v5 := Tryz.zeroValue5
 t9 := Tryz.underlying9
 a9 := Tryz.isAgg9
 z9 := Tryz.sizeOf9
 v9 := Tryz.zeroValue9 }
open Go.RowKit in
theorem Tryz.strings_IndexByte (s : ByteArray) (c : Int) (w : World) :
    Calls Tryz.prog 105 #[.string s, .int .u8 c] w fun e w' => e = .returned (.int .i64 (Lib.indexByte s.data.toList c.toNat.toUInt8)) ∧ w' = w := Any.strings_IndexByte Tryz.lays137 s c w
def Tryz.laysM316_ren : Go.Shelf.Ren := ⟨fun | 316 => 160 | n => n, fun | 9 => 9 | 3 => 3 | 4 => 4 | 37 => 71 | 0 => 0 | 127 => 114 | 5 => 5 | n => n, fun | n => n⟩
theorem Tryz.laysM316 : Go.Proofs.LaysM.n316 Tryz.prog Tryz.laysM316_ren := {
 mixed := by kernel_rfl
 f316 := Tryz.func160.trans (congrArg some (by kernel_rfl))
 t0 := Tryz.underlying0
 a0 := Tryz.isAgg0
 z0 := Tryz.sizeOf0
 v0 := Tryz.zeroValue0
 t3 := Tryz.underlying3
 a3 := Tryz.isAgg3
 z3 := Tryz.sizeOf3
 v3 := Tryz.zeroValue3
 t4 := Tryz.underlying4
 a4 := Tryz.isAgg4
 z4 := Tryz.sizeOf4
 v4 := Tryz.zeroValue4
 t9 := Tryz.underlying9
 a9 := Tryz.isAgg9
 z9 := Tryz.sizeOf9
 v9 := Tryz.zeroValue9
 t37 := Tryz.underlying71
 a37 := Tryz.isAgg71
 z37 := Tryz.sizeOf71
 v37 := Tryz.zeroValue71
 t127 := Tryz.underlying114
 a127 := Tryz.isAgg114
 z127 := Tryz.sizeOf114
 v127 := Tryz.zeroValue114
 t5 := Tryz.underlying5
 a5 := Tryz.isAgg5
 z5 := Tryz.sizeOf5
 v5 := Tryz.zeroValue5
 i0 := by kernel_rfl
 i3 := by kernel_rfl
 i4 := by kernel_rfl
 i5 := by kernel_rfl
 i9 := by kernel_rfl
 i37 := by kernel_rfl
 i127 := by kernel_rfl }
open Go.RowKit in
theorem Tryz.stringslite_Clone (s : ByteArray) (w : World) (hlim : s.size ≤ 281474976710656) :
    Calls Tryz.prog 160 #[.string s] w fun e w' => e = .returned (.string s) ∧ Below w.heap.size w w' := Any.stringslite_Clone Tryz.laysM316 s w hlim
def Tryz.lays190_ren : Go.Shelf.Ren := ⟨fun | 190 => 61 | 125 => 100 | 258 => 99 | 128 => 135 | 129 => 136 | 302 => 126 | 303 => 127 | 304 => 128 | 305 => 129 | 306 => 130 | 307 => 131 | 308 => 132 | 309 => 133 | 310 => 134 | 333 => 150 | 329 => 151 | 330 => 152 | 334 => 153 | 335 => 154 | 336 => 155 | 344 => 168 | n => n, fun | 31 => 22 | 9 => 9 | 3 => 3 | 46 => 133 | 0 => 0 | 51 => 69 | 53 => 148 | 4 => 4 | 183 => 152 | 182 => 151 | 131 => 157 | 5 => 5 | 218 => 167 | 222 => 171 | 228 => 179 | 229 => 180 | n => n, fun | n => n⟩
theorem Tryz.lays190 : Go.Proofs.Lays.n190 Tryz.prog Tryz.lays190_ren := {
 mixed := by kernel_rfl
 f125 := Tryz.func100.trans (congrArg some (by kernel_rfl))
 f128 := Tryz.func135.trans (congrArg some (by kernel_rfl))
 f129 := Tryz.func136.trans (congrArg some (by kernel_rfl))
 f190 := Tryz.func61.trans (congrArg some (by kernel_rfl))
 f258 := Tryz.func99.trans (congrArg some (by kernel_rfl))
 f302 := Tryz.func126.trans (congrArg some (by kernel_rfl))
 f303 := Tryz.func127.trans (congrArg some (by kernel_rfl))
 f304 := Tryz.func128.trans (congrArg some (by kernel_rfl))
 f305 := Tryz.func129.trans (congrArg some (by kernel_rfl))
 f306 := Tryz.func130.trans (congrArg some (by kernel_rfl))
 f307 := Tryz.func131.trans (congrArg some (by kernel_rfl))
 f308 := Tryz.func132.trans (congrArg some (by kernel_rfl))
 f309 := Tryz.func133.trans (congrArg some (by kernel_rfl))
 f310 := Tryz.func134.trans (congrArg some (by kernel_rfl))
 f329 := Tryz.func151.trans (congrArg some (by kernel_rfl))
 f330 := Tryz.func152.trans (congrArg some (by kernel_rfl))
 f333 := Tryz.func150.trans (congrArg some (by kernel_rfl))
 f334 := Tryz.func153.trans (congrArg some (by kernel_rfl))
 f335 := Tryz.func154.trans (congrArg some (by kernel_rfl))
 f336 := Tryz.func155.trans (congrArg some (by kernel_rfl))
 f344 := Tryz.func168.trans (congrArg some (by kernel_rfl))
 t0 := Tryz.underlying0
 a0 := Tryz.isAgg0
 z0 := Tryz.sizeOf0
 v0 := Tryz.zeroValue0
 t3 := Tryz.underlying3
 a3 := Tryz.isAgg3
 z3 := Tryz.sizeOf3
 v3 := Tryz.zeroValue3
 t4 := Tryz.underlying4
 a4 := Tryz.isAgg4
 z4 := Tryz.sizeOf4
 v4 := Tryz.zeroValue4
 t5 := Tryz.underlying5
 a5 := Tryz.isAgg5
 z5 := Tryz.sizeOf5
 v5 := Tryz.zeroValue5
 t9 := Tryz.underlying9
 a9 := Tryz.isAgg9
 z9 := Tryz.sizeOf9
 v9 := Tryz.zeroValue9
 t31 := Tryz.underlying22
 a31 := Tryz.isAgg22
 z31 := Tryz.sizeOf22
 v31 := Tryz.zeroValue22
 t46 := Tryz.underlying133
 a46 := Tryz.isAgg133
 z46 := Tryz.sizeOf133
 v46 := Tryz.zeroValue133
 t51 := Tryz.underlying69
 a51 := Tryz.isAgg69
 z51 := Tryz.sizeOf69
 v51 := Tryz.zeroValue69
 t53 := Tryz.underlying148
 a53 := Tryz.isAgg148
 z53 := Tryz.sizeOf148
 v53 := Tryz.zeroValue148
 t131 := Tryz.underlying157
 a131 := Tryz.isAgg157
 z131 := Tryz.sizeOf157
 v131 := Tryz.zeroValue157
 t182 := Tryz.underlying151
 a182 := Tryz.isAgg151
 z182 := Tryz.sizeOf151
 v182 := Tryz.zeroValue151
 t183 := Tryz.underlying152
 a183 := Tryz.isAgg152
 z183 := Tryz.sizeOf152
 v183 := Tryz.zeroValue152
 t218 := Tryz.underlying167
 a218 := Tryz.isAgg167
 z218 := Tryz.sizeOf167
 v218 := Tryz.zeroValue167
 t222 := Tryz.underlying171
 a222 := Tryz.isAgg171
 z222 := Tryz.sizeOf171
 v222 := Tryz.zeroValue171
 t228 := Tryz.underlying179
 a228 := Tryz.isAgg179
 z228 := Tryz.sizeOf179
 v228 := Tryz.zeroValue179
 t229 := Tryz.underlying180
 a229 := Tryz.isAgg180
 z229 := Tryz.sizeOf180
 v229 := Tryz.zeroValue180 }
open Go.Sort Go.RowKit in
theorem Tryz.slices_Sort_string (blk off cap : Nat) (ss : List (List UInt8)) (w : World) (hH : Holds encStr w blk off ss.toArray) (hblk : blk < w.heap.size) (hsz : ss.length < 4611686018427387904) :
    Calls Tryz.prog 61 #[.slice (some ⟨blk, off, none⟩) ss.length cap] w fun e w' =>
     e = .returned (.tuple #[]) ∧ ∃ n os, w' = grow (putRow encStr (Sort.ahead w n) blk off (ss.mergeSort fun x y => decide (x ≤ y)).toArray) os := Any.slices_Sort_string Tryz.lays190 blk off cap ss w hH hblk hsz
def Tryz.lays193_ren : Go.Shelf.Ren := ⟨fun | 193 => 51 | n => n, fun | 31 => 22 | 9 => 9 | 4 => 4 | 3 => 3 | 0 => 0 | n => n, fun | n => n⟩
theorem Tryz.lays193 : Go.Proofs.Lays.n193 Tryz.prog Tryz.lays193_ren := {
 mixed := by kernel_rfl
 f193 := Tryz.func51.trans (congrArg some (by kernel_rfl))
 t0 := Tryz.underlying0
 a0 := Tryz.isAgg0
 z0 := Tryz.sizeOf0
 v0 := Tryz.zeroValue0
 t3 := Tryz.underlying3
 a3 := Tryz.isAgg3
 z3 := Tryz.sizeOf3
 v3 := Tryz.zeroValue3
 t4 := Tryz.underlying4
 a4 := Tryz.isAgg4
 z4 := Tryz.sizeOf4
 v4 := Tryz.zeroValue4
 t9 := Tryz.underlying9
 a9 := Tryz.isAgg9
 z9 := Tryz.sizeOf9
 v9 := Tryz.zeroValue9
 t31 := Tryz.underlying22
 a31 := Tryz.isAgg22
 z31 := Tryz.sizeOf22
 v31 := Tryz.zeroValue22 }
open Go.RowKit Go.Lib in
theorem Tryz.slices_Equal_string (b1 o1 n c b2 o2 m d : Nat) (xs ys : List ByteArray) (w : World) (hx : n ≤ xs.length) (hy : m ≤ ys.length) (hbig : n ≤ 9223372036854775807) (hbig2 : m ≤ 9223372036854775807) (hc1 : ∀ j, j < xs.length → w.cell? ⟨b1, o1 + j, none⟩ = some (.string (xs.getD j ByteArray.empty))) (hc2 : ∀ j, j < ys.length → w.cell? ⟨b2, o2 + j, none⟩ = some (.string (ys.getD j ByteArray.empty))) :
    Calls Tryz.prog 51 #[.slice (some ⟨b1, o1, none⟩) n c, .slice (some ⟨b2, o2, none⟩) m d] w fun e w' => e = .returned (.bool (decide (xs.take n = ys.take m))) ∧ ∃ q, w' = w.drewN q := Any.slices_Equal_string Tryz.lays193 b1 o1 n c b2 o2 m d xs ys w hx hy hbig hbig2 hc1 hc2
open Go.RowKit Go.Lib in
theorem Tryz.slices_Equal_string_empty (a1 a2 : Option Addr) (c m d : Nat) (w : World) (hbig2 : m ≤ 9223372036854775807) :
    Calls Tryz.prog 51 #[.slice a1 0 c, .slice a2 m d] w fun e w' => e = .returned (.bool (decide (m = 0))) ∧ w' = w := Any.slices_Equal_string_empty Tryz.lays193 a1 a2 c m d w hbig2
def Tryz.laysNm216_ren : Go.Shelf.Ren := ⟨fun | 16 => 57 | n => n, fun | 24 => 22 | 9 => 9 | 4 => 4 | n => n, fun | n => n⟩
theorem Tryz.laysNm216 : Go.Proofs.Lays2.n16 Tryz.prog Tryz.laysNm216_ren := {
 mixed := by kernel_rfl
 f16 := Tryz.func57.trans (congrArg some (by kernel_rfl))
 t4 := Tryz.underlying4
 a4 := Tryz.isAgg4
 z4 := Tryz.sizeOf4
 v4 := Tryz.zeroValue4
 t9 := Tryz.underlying9
 a9 := Tryz.isAgg9
 z9 := Tryz.sizeOf9
 v9 := Tryz.zeroValue9
 t24 := Tryz.underlying22
 a24 := Tryz.isAgg22
 z24 := Tryz.sizeOf22
 v24 := Tryz.zeroValue22
 i9 := by kernel_rfl }
open Go.RowKit Go.Lib in
theorem Tryz.slices_Clone_string (b off n c : Nat) (zs : List ByteArray) (w : World) (hz : n ≤ zs.length) (hbig : n * 16 ≤ 140737488355328) (hc : ∀ j, j < zs.length → w.cell? ⟨b, off + j, none⟩ = some (.string (zs.getD j ByteArray.empty))) :
    Calls Tryz.prog 57 #[.slice (some ⟨b, off, none⟩) n c] w fun e w' => ∃ v', e = .returned v' ∧ w'.ownsRow w.heap.size 9 1 v' n ((zs.take n).map (Value.string)) ∧ v' ≠ .slice none 0 0 ∧ Below w.heap.size w w' := Any.slices_Clone_string Tryz.laysNm216 b off n c zs w hz hbig hc
open Go.RowKit Go.Lib in
theorem Tryz.slices_Clone_string_nil (n c : Nat) (w : World) :
    Calls Tryz.prog 57 #[.slice none n c] w fun e w' => e = .returned (.slice none 0 0) ∧ w' = w := Any.slices_Clone_string_nil Tryz.laysNm216 n c w
open Go.RowKit Go.Lib in
theorem Tryz.slices_Clone_string_zero (a : Addr) (c : Nat) (w : World) :
    Calls Tryz.prog 57 #[.slice (some a) 0 c] w fun e w' => ∃ v', e = .returned v' ∧ w'.ownsRow w.heap.size 9 1 v' 0 [] ∧ v' ≠ .slice none 0 0 ∧ Below w.heap.size w w' := Any.slices_Clone_string_zero Tryz.laysNm216 a c w
open Go.RowKit Go.Sort in
theorem Tryz.slices_Sort_string_none (p : Option Addr) (cap : Nat) (w : World) :
    Calls Tryz.prog 61 #[.slice p 0 cap] w fun e w' => e = .returned (.tuple #[]) ∧ w' = w := Any.slices_Sort_string_none Tryz.lays190 p cap w
open Go.RowKit Go.Lib in
theorem Tryz.slices_Equal_string_lens (a1 a2 : Option Addr) (n c m d : Nat) (w : World) (hnm : n ≠ m) :
    Calls Tryz.prog 51 #[.slice a1 n c, .slice a2 m d] w fun e w' => e = .returned (.bool false) ∧ w' = w := Any.slices_Equal_string_lens Tryz.lays193 a1 a2 n c m d w hnm
def Tryz.laysSlE041_f149_ren : Go.Shelf.Ren := ⟨fun | 41 => 149 | n => n, fun | 22 => 23 | 23 => 69 | 4 => 4 | n => n, fun | n => n⟩
theorem Tryz.laysSlE041_f149 : Go.Proofs.SlLaysE0.n41 Tryz.prog Tryz.laysSlE041_f149_ren := {
 mixed := by kernel_rfl
 f41 := ⟨Tryz.f149.name, by decide, Tryz.func149.trans (congrArg some (by kernel_rfl))⟩
 t4 := Tryz.underlying4
 a4 := Tryz.isAgg4
 z4 := Tryz.sizeOf4
 v4 := Tryz.zeroValue4
 t22 := Tryz.underlying23
 a22 := Tryz.isAgg23
 z22 := Tryz.sizeOf23
 v22 := Tryz.zeroValue23 }
open Go.RowKit Go.Lib in
theorem Tryz.slices_Clone_nil_f149 (n c : Nat) (w : World) :
    Calls Tryz.prog 149 #[.slice none n c] w fun e w' => e = .returned (.slice none 0 0) ∧ w' = w := AnyE.slices_Clone_nil Tryz.laysSlE041_f149 n c w
end Go.Proofs
end

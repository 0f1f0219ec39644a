/-
  DERIVED: THE SHELF's CONTRACTS AT THIS DUMP, IN PLAIN WORDS (tools/lay-plain.mjs out of 'YtanbffihggdcaaaGreatDoorShelf.lean', which tools/lay-shelf.mjs wrote): THE SAME DECLARATIONS UNDER THE SAME NAMES: 'import', 'namespace', 'open', 'def', 'theorem' AND NOTHING ELSE: no command of the shelf's: FOR A HAND-IN. Each laying: the table of numbers ('.._ren') and one theorem, a field a fact of the dump's own or the kernel's comparison; each contract: ONE APPLICATION.
-/
import Derived.Shelf.Strings.OnBuilder
import Derived.Shelf.Strings.Split
import Derived.Shelf.SlIterI.Nil
import Derived.Shelf.SlIterI.Sorted
import Derived.Shelf.SlIter.Nil
import Derived.Shelf.SlIter.Sorted
import Derived.Shelf.SlMaps.Clone
import Derived.Shelf.SortM.Plain
import Derived.Shelf.SortM.SortNone
import Derived.Ground.GgzProg
import Derived.Ground.SlgmProg
import Derived.Ground.SlmcProg
import Derived.Test.YtanbffihggdcaaaGreatDoorProg
namespace Go.Proofs
open Go.Shelf
def Tryz.lays156_ren : Go.Shelf.Ren := ⟨fun | 156 => 166 | 165 => 203 | 166 => 204 | 169 => 205 | 240 => 239 | 241 => 240 | 276 => 266 | 277 => 267 | n => n, fun | 31 => 157 | 9 => 9 | 3 => 3 | 4 => 4 | 0 => 0 | 20 => 20 | 72 => 286 | 76 => 289 | 70 => 284 | 37 => 29 | 75 => 288 | 127 => 319 | 164 => 339 | 5 => 5 | 80 => 205 | n => n, fun | n => n⟩
theorem Tryz.lays156 : Go.Proofs.Lays.n156 Tryz.prog Tryz.lays156_ren := {
  mixed := by kernel_rfl
  f156 := Tryz.func166.trans (congrArg some (by kernel_rfl))
  f165 := Tryz.func203.trans (congrArg some (by kernel_rfl))
  f166 := Tryz.func204.trans (congrArg some (by kernel_rfl))
  f169 := Tryz.func205.trans (congrArg some (by kernel_rfl))
  f240 := Tryz.func239.trans (congrArg some (by kernel_rfl))
  f241 := Tryz.func240.trans (congrArg some (by kernel_rfl))
  f276 := Tryz.func266.trans (congrArg some (by kernel_rfl))
  f277 := Tryz.func267.trans (congrArg some (by kernel_rfl))
  t0 := Tryz.underlying0
  a0 := Tryz.isAgg0
  z0 := Tryz.sizeOf0
  v0 := Tryz.zeroValue0
  t3 := Tryz.underlying3
  a3 := Tryz.isAgg3
  z3 := Tryz.sizeOf3
  v3 := Tryz.zeroValue3
  t4 := Tryz.underlying4
  a4 := Tryz.isAgg4
  z4 := Tryz.sizeOf4
  v4 := Tryz.zeroValue4
  t9 := Tryz.underlying9
  a9 := Tryz.isAgg9
  z9 := Tryz.sizeOf9
  v9 := Tryz.zeroValue9
  t20 := Tryz.underlying20
  a20 := Tryz.isAgg20
  z20 := Tryz.sizeOf20
  v20 := Tryz.zeroValue20
  t31 := Tryz.underlying157
  a31 := Tryz.isAgg157
  z31 := Tryz.sizeOf157
  v31 := Tryz.zeroValue157
  t37 := Tryz.underlying29
  a37 := Tryz.isAgg29
  z37 := Tryz.sizeOf29
  v37 := Tryz.zeroValue29
  t70 := Tryz.underlying284
  a70 := Tryz.isAgg284
  z70 := Tryz.sizeOf284
  v70 := Tryz.zeroValue284
  t72 := Tryz.underlying286
  a72 := Tryz.isAgg286
  z72 := Tryz.sizeOf286
  v72 := Tryz.zeroValue286
  t75 := Tryz.underlying288
  a75 := Tryz.isAgg288
  z75 := Tryz.sizeOf288
  v75 := Tryz.zeroValue288
  t76 := Tryz.underlying289
  a76 := Tryz.isAgg289
  z76 := Tryz.sizeOf289
  v76 := Tryz.zeroValue289
  t127 := Tryz.underlying319
  a127 := Tryz.isAgg319
  z127 := Tryz.sizeOf319
  v127 := Tryz.zeroValue319
  t164 := Tryz.underlying339
  a164 := Tryz.isAgg339
  z164 := Tryz.sizeOf339
  v164 := Tryz.zeroValue339 }
theorem Tryz.Builder_Extra_156 : Builder.Extra Tryz.prog Tryz.lays156_ren := {
  sizeBuilder := by kernel_rfl
  liesBuilder := by kernel_rfl
  t5 := Tryz.underlying5
  a5 := Tryz.isAgg5
  z5 := Tryz.sizeOf5
  v5 := Tryz.zeroValue5
  infoByte := by kernel_rfl
  cellsByte := by kernel_rfl
  sizeByte := by kernel_rfl
  neB5 := by decide }
open Go.RowKit in
/-- No element: the empty string; the world is as it was. (Whatever the slice's address and capacity: a nil slice too.) (LAID: no walk: one application.) -/
theorem Tryz.strings_Join_none (a : Option Addr) (c : Nat) (sep : ByteArray) (w : World) :
    Calls Tryz.prog 166 #[.slice a 0 c, .string sep] w fun e w' => e = .returned (.string ⟨#[]⟩) ∧ w' = w := Any.strings_Join_none Tryz.lays156 Tryz.Builder_Extra_156 a c sep w
open Go.RowKit in
/-- strings.Join: "Join concatenates the elements of its first argument to create a single string. The separator string sep is placed between elements in the resulting string.": HOWEVER MANY ELEMENTS. Below the heap's end the world is as it was. (LAID: no walk: one application.) -/
theorem Tryz.strings_Join (bk o c : Nat) (xs : List ByteArray) (sep : ByteArray) (w : World) (hcells : ∀ (j : Nat) x, xs[j]? = some x → w.cell? ⟨bk, o + j, none⟩ = some (.string x)) (hbk : bk < w.heap.size) (hN : xs.length ≤ 140737488355328) (hcap : xs.length ≤ c) (hlen : (Lib.join (xs.map (·.data.toList)) sep.data.toList).length ≤ 140737488355328) :
    Calls Tryz.prog 166 #[.slice (some ⟨bk, o, none⟩) xs.length c, .string sep] w fun e w' => e = .returned (.string ⟨(Lib.join (xs.map (·.data.toList)) sep.data.toList).toArray⟩) ∧ Below w.heap.size w w' := Any.strings_Join Tryz.lays156 Tryz.Builder_Extra_156 bk o c xs sep w hcells hbk hN hcap hlen
def Tryz.lays146_ren : Go.Shelf.Ren := ⟨fun | 146 => 163 | 221 => 201 | 268 => 236 | 138 => 237 | 143 => 238 | 195 => 262 | 197 => 263 | 218 => 264 | 219 => 265 | 260 => 282 | 217 => 283 | 225 => 284 | 224 => 285 | 267 => 286 | 266 => 292 | 314 => 293 | n => n, fun | 9 => 9 | 31 => 157 | 3 => 3 | 4 => 4 | 0 => 0 | 105 => 336 | 21 => 21 | 5 => 5 | 46 => 270 | 119 => 357 | 139 => 360 | 138 => 359 | 146 => 361 | 51 => 307 | n => n, fun | 1 => 1 | 3 => 2 | 4 => 3 | n => n⟩
theorem Tryz.lays146 : Go.Proofs.Lays.n146 Tryz.prog Tryz.lays146_ren := {
  mixed := by kernel_rfl
  f138 := Tryz.func237.trans (congrArg some (by kernel_rfl))
  f143 := Tryz.func238.trans (congrArg some (by kernel_rfl))
  f146 := Tryz.func163.trans (congrArg some (by kernel_rfl))
  f195 := Tryz.func262.trans (congrArg some (by kernel_rfl))
  f197 := Tryz.func263.trans (congrArg some (by kernel_rfl))
  f217 := Tryz.func283.trans (congrArg some (by kernel_rfl))
  f218 := Tryz.func264.trans (congrArg some (by kernel_rfl))
  f219 := Tryz.func265.trans (congrArg some (by kernel_rfl))
  f221 := Tryz.func201.trans (congrArg some (by kernel_rfl))
  f224 := Tryz.func285.trans (congrArg some (by kernel_rfl))
  f225 := Tryz.func284.trans (congrArg some (by kernel_rfl))
  f260 := Tryz.func282.trans (congrArg some (by kernel_rfl))
  f266 := Tryz.func292.trans (congrArg some (by kernel_rfl))
  f267 := Tryz.func286.trans (congrArg some (by kernel_rfl))
  f268 := Tryz.func236.trans (congrArg some (by kernel_rfl))
  f314 := Tryz.func293.trans (congrArg some (by kernel_rfl))
  t0 := Tryz.underlying0
  a0 := Tryz.isAgg0
  z0 := Tryz.sizeOf0
  v0 := Tryz.zeroValue0
  t3 := Tryz.underlying3
  a3 := Tryz.isAgg3
  z3 := Tryz.sizeOf3
  v3 := Tryz.zeroValue3
  t4 := Tryz.underlying4
  a4 := Tryz.isAgg4
  z4 := Tryz.sizeOf4
  v4 := Tryz.zeroValue4
  t5 := Tryz.underlying5
  a5 := Tryz.isAgg5
  z5 := Tryz.sizeOf5
  v5 := Tryz.zeroValue5
  t9 := Tryz.underlying9
  a9 := Tryz.isAgg9
  z9 := Tryz.sizeOf9
  v9 := Tryz.zeroValue9
  t21 := Tryz.underlying21
  a21 := Tryz.isAgg21
  z21 := Tryz.sizeOf21
  v21 := Tryz.zeroValue21
  t31 := Tryz.underlying157
  a31 := Tryz.isAgg157
  z31 := Tryz.sizeOf157
  v31 := Tryz.zeroValue157
  t46 := Tryz.underlying270
  a46 := Tryz.isAgg270
  z46 := Tryz.sizeOf270
  v46 := Tryz.zeroValue270
  t51 := Tryz.underlying307
  a51 := Tryz.isAgg307
  z51 := Tryz.sizeOf307
  v51 := Tryz.zeroValue307
  t105 := Tryz.underlying336
  a105 := Tryz.isAgg336
  z105 := Tryz.sizeOf336
  v105 := Tryz.zeroValue336
  t119 := Tryz.underlying357
  a119 := Tryz.isAgg357
  z119 := Tryz.sizeOf357
  t138 := Tryz.underlying359
  a138 := Tryz.isAgg359
  z138 := Tryz.sizeOf359
  v138 := Tryz.zeroValue359
  t139 := Tryz.underlying360
  a139 := Tryz.isAgg360
  z139 := Tryz.sizeOf360
  v139 := Tryz.zeroValue360
  t146 := Tryz.underlying361
  a146 := Tryz.isAgg361
  z146 := Tryz.sizeOf361
  v146 := Tryz.zeroValue361
  g1 := by kernel_rfl
  g3 := by kernel_rfl
  g4 := by kernel_rfl }
open Go.RowKit Go.Lib in
/-- strings.Split. (LAID: no walk: one application.) -/
theorem Tryz.strings_Split (s sep : ByteArray) (m : Int) (w : World) (hs : s.size < 4294967281) (hm : w.cell? ⟨1, 0, none⟩ = some (.int .i64 m)) (h1 : 1 ≤ sep.size) :
    Calls Tryz.prog 163 #[.string s, .string sep] w fun e w' =>
      e = .returned (.slice (some ⟨w.heap.size, 0, none⟩) (Lib.countB s sep + 1) (Lib.countB s sep + 1)) ∧ w' = w.alloc (.cells ((Lib.splitB sep 0 (Lib.countB s sep) s).map Value.string).toArray 9) := Any.strings_Split Tryz.lays146 (by kernel_rfl) s sep m w hs hm h1
def Tryz.cloneB_ren : Go.Shelf.Ren := ⟨fun | 5 => 79 | 7 => 144 | n => n, fun | 23 => 140 | 25 => 3 | 3 => 47 | 4 => 4 | 20 => 20 | n => n, fun | n => n⟩
theorem Tryz.cloneB : Go.Proofs.SlLaysW.n5 Tryz.prog Tryz.cloneB_ren := {
  mixed := by kernel_rfl
  f5 := ⟨Tryz.f79.name, by decide, Tryz.func79.trans (congrArg some (by kernel_rfl))⟩
  f7 := Tryz.func144.trans (congrArg some (by kernel_rfl))
  t4 := Tryz.underlying4
  a4 := Tryz.isAgg4
  z4 := Tryz.sizeOf4
  v4 := Tryz.zeroValue4
  t20 := Tryz.underlying20
  a20 := Tryz.isAgg20
  z20 := Tryz.sizeOf20
  v20 := Tryz.zeroValue20
  t23 := Tryz.underlying140
  a23 := Tryz.isAgg140
  z23 := Tryz.sizeOf140
  v23 := Tryz.zeroValue140 }
def Tryz.cloneN_ren : Go.Shelf.Ren := ⟨fun | 5 => 143 | 7 => 144 | n => n, fun | 23 => 159 | 25 => 9 | 3 => 51 | 4 => 4 | 20 => 20 | n => n, fun | n => n⟩
theorem Tryz.cloneN : Go.Proofs.SlLaysW.n5 Tryz.prog Tryz.cloneN_ren := {
  mixed := by kernel_rfl
  f5 := ⟨Tryz.f143.name, by decide, Tryz.func143.trans (congrArg some (by kernel_rfl))⟩
  f7 := Tryz.func144.trans (congrArg some (by kernel_rfl))
  t4 := Tryz.underlying4
  a4 := Tryz.isAgg4
  z4 := Tryz.sizeOf4
  v4 := Tryz.zeroValue4
  t20 := Tryz.underlying20
  a20 := Tryz.isAgg20
  z20 := Tryz.sizeOf20
  v20 := Tryz.zeroValue20
  t23 := Tryz.underlying159
  a23 := Tryz.isAgg159
  z23 := Tryz.sizeOf159
  v23 := Tryz.zeroValue159 }
def Tryz.keysA_ren : Go.Shelf.Ren := ⟨fun | 7 => 77 | 10 => 142 | n => n, fun | 23 => 150 | 26 => 3 | 3 => 4 | 28 => 154 | 0 => 0 | 27 => 153 | 33 => 238 | 4 => 4 | n => n, fun | n => n⟩
theorem Tryz.keysA : Go.Proofs.SlLaysZI.n7 Tryz.prog Tryz.keysA_ren := {
  mixed := by kernel_rfl
  f7 := ⟨Tryz.f77.name, by decide, Tryz.func77.trans (congrArg some (by kernel_rfl))⟩
  f10 := ⟨Tryz.f142.name, by decide, Tryz.func142.trans (congrArg some (by kernel_rfl))⟩
  t0 := Tryz.underlying0
  a0 := Tryz.isAgg0
  z0 := Tryz.sizeOf0
  v0 := Tryz.zeroValue0
  t4 := Tryz.underlying4
  a4 := Tryz.isAgg4
  z4 := Tryz.sizeOf4
  v4 := Tryz.zeroValue4
  t23 := Tryz.underlying150
  a23 := Tryz.isAgg150
  z23 := Tryz.sizeOf150
  v23 := Tryz.zeroValue150
  t26 := Tryz.underlying3
  a26 := Tryz.isAgg3
  z26 := Tryz.sizeOf3
  v26 := Tryz.zeroValue3
  t27 := Tryz.underlying153
  a27 := Tryz.isAgg153
  z27 := Tryz.sizeOf153
  v27 := Tryz.zeroValue153
  t28 := Tryz.underlying154
  a28 := Tryz.isAgg154
  z28 := Tryz.sizeOf154
  v28 := Tryz.zeroValue154
  t33 := Tryz.underlying238
  a33 := Tryz.isAgg238
  z33 := Tryz.sizeOf238
  v33 := Tryz.zeroValue238 }
def Tryz.sortedA_ren : Go.Shelf.Ren := ⟨fun | 6 => 76 | 8 => 140 | 9 => 141 | 11 => 191 | 13 => 184 | 12 => 192 | 23 => 222 | 24 => 223 | 14 => 225 | 15 => 226 | 16 => 227 | 17 => 228 | 18 => 229 | 19 => 230 | 20 => 231 | 21 => 232 | 22 => 233 | 25 => 250 | 26 => 246 | 27 => 247 | 28 => 251 | 29 => 252 | 30 => 186 | 31 => 278 | n => n, fun | 26 => 3 | 28 => 154 | 24 => 37 | 0 => 0 | 3 => 3 | 37 => 270 | 48 => 307 | 50 => 293 | 4 => 4 | 40 => 300 | 39 => 299 | 45 => 304 | 5 => 5 | 9 => 9 | 51 => 323 | 55 => 327 | 57 => 347 | 58 => 249 | 33 => 238 | n => n, fun | n => n⟩
theorem Tryz.sortedA : Go.Proofs.SlLaysZI.n6 Tryz.prog Tryz.sortedA_ren := {
  mixed := by kernel_rfl
  f6 := ⟨Tryz.f76.name, by decide, Tryz.func76.trans (congrArg some (by kernel_rfl))⟩
  f8 := ⟨Tryz.f140.name, by decide, Tryz.func140.trans (congrArg some (by kernel_rfl))⟩
  f11 := ⟨Tryz.f191.name, by decide, Tryz.func191.trans (congrArg some (by kernel_rfl))⟩
  t0 := Tryz.underlying0
  a0 := Tryz.isAgg0
  z0 := Tryz.sizeOf0
  v0 := Tryz.zeroValue0
  t24 := Tryz.underlying37
  a24 := Tryz.isAgg37
  z24 := Tryz.sizeOf37
  v24 := Tryz.zeroValue37
  t26 := Tryz.underlying3
  a26 := Tryz.isAgg3
  z26 := Tryz.sizeOf3
  v26 := Tryz.zeroValue3
  t28 := Tryz.underlying154
  a28 := Tryz.isAgg154
  z28 := Tryz.sizeOf154
  v28 := Tryz.zeroValue154
  i26 := by kernel_rfl }
def Tryz.sortA_ren : Go.Shelf.Ren := ⟨fun | 5 => 141 | 8 => 184 | 7 => 192 | 19 => 222 | 20 => 223 | 10 => 225 | 11 => 226 | 12 => 227 | 13 => 228 | 14 => 229 | 15 => 230 | 16 => 231 | 17 => 232 | 18 => 233 | 30 => 250 | 31 => 246 | 32 => 247 | 33 => 251 | 34 => 252 | 35 => 186 | 40 => 278 | n => n, fun | 23 => 37 | 25 => 3 | 3 => 3 | 32 => 270 | 22 => 37 | 0 => 0 | 44 => 307 | 46 => 293 | 4 => 4 | 36 => 300 | 35 => 299 | 41 => 304 | 5 => 5 | 9 => 9 | 53 => 323 | 57 => 327 | 63 => 347 | 64 => 249 | n => n, fun | n => n⟩
theorem Tryz.sortA : Go.Proofs.SlLaysM.n5 Tryz.prog Tryz.sortA_ren := {
  mixed := by kernel_rfl
  f5 := ⟨Tryz.f141.name, by decide, Tryz.func141.trans (congrArg some (by kernel_rfl))⟩
  f7 := ⟨Tryz.f192.name, by decide, Tryz.func192.trans (congrArg some (by kernel_rfl))⟩
  f8 := Tryz.func184.trans (congrArg some (by kernel_rfl))
  f10 := ⟨Tryz.f225.name, by decide, Tryz.func225.trans (congrArg some (by kernel_rfl))⟩
  f11 := ⟨Tryz.f226.name, by decide, Tryz.func226.trans (congrArg some (by kernel_rfl))⟩
  f12 := ⟨Tryz.f227.name, by decide, Tryz.func227.trans (congrArg some (by kernel_rfl))⟩
  f13 := ⟨Tryz.f228.name, by decide, Tryz.func228.trans (congrArg some (by kernel_rfl))⟩
  f14 := ⟨Tryz.f229.name, by decide, Tryz.func229.trans (congrArg some (by kernel_rfl))⟩
  f15 := ⟨Tryz.f230.name, by decide, Tryz.func230.trans (congrArg some (by kernel_rfl))⟩
  f16 := ⟨Tryz.f231.name, by decide, Tryz.func231.trans (congrArg some (by kernel_rfl))⟩
  f17 := ⟨Tryz.f232.name, by decide, Tryz.func232.trans (congrArg some (by kernel_rfl))⟩
  f18 := ⟨Tryz.f233.name, by decide, Tryz.func233.trans (congrArg some (by kernel_rfl))⟩
  f19 := Tryz.func222.trans (congrArg some (by kernel_rfl))
  f20 := Tryz.func223.trans (congrArg some (by kernel_rfl))
  f30 := ⟨Tryz.f250.name, by decide, Tryz.func250.trans (congrArg some (by kernel_rfl))⟩
  f31 := Tryz.func246.trans (congrArg some (by kernel_rfl))
  f32 := Tryz.func247.trans (congrArg some (by kernel_rfl))
  f33 := ⟨Tryz.f251.name, by decide, Tryz.func251.trans (congrArg some (by kernel_rfl))⟩
  f34 := ⟨Tryz.f252.name, by decide, Tryz.func252.trans (congrArg some (by kernel_rfl))⟩
  f35 := ⟨Tryz.f186.name, by decide, Tryz.func186.trans (congrArg some (by kernel_rfl))⟩
  f40 := ⟨Tryz.f278.name, by decide, Tryz.func278.trans (congrArg some (by kernel_rfl))⟩
  t0 := Tryz.underlying0
  a0 := Tryz.isAgg0
  z0 := Tryz.sizeOf0
  v0 := Tryz.zeroValue0
  t3 := Tryz.underlying3
  a3 := Tryz.isAgg3
  z3 := Tryz.sizeOf3
  v3 := Tryz.zeroValue3
  t4 := Tryz.underlying4
  a4 := Tryz.isAgg4
  z4 := Tryz.sizeOf4
  v4 := Tryz.zeroValue4
  t5 := Tryz.underlying5
  a5 := Tryz.isAgg5
  z5 := Tryz.sizeOf5
  v5 := Tryz.zeroValue5
  t9 := Tryz.underlying9
  a9 := Tryz.isAgg9
  z9 := Tryz.sizeOf9
  v9 := Tryz.zeroValue9
  t22 := Tryz.underlying37
  a22 := Tryz.isAgg37
  z22 := Tryz.sizeOf37
  v22 := Tryz.zeroValue37
  t23 := Tryz.underlying37
  a23 := Tryz.isAgg37
  z23 := Tryz.sizeOf37
  v23 := Tryz.zeroValue37
  t25 := Tryz.underlying3
  a25 := Tryz.isAgg3
  z25 := Tryz.sizeOf3
  v25 := Tryz.zeroValue3
  t32 := Tryz.underlying270
  a32 := Tryz.isAgg270
  z32 := Tryz.sizeOf270
  v32 := Tryz.zeroValue270
  t35 := Tryz.underlying299
  a35 := Tryz.isAgg299
  z35 := Tryz.sizeOf299
  v35 := Tryz.zeroValue299
  t36 := Tryz.underlying300
  a36 := Tryz.isAgg300
  z36 := Tryz.sizeOf300
  v36 := Tryz.zeroValue300
  t41 := Tryz.underlying304
  a41 := Tryz.isAgg304
  z41 := Tryz.sizeOf304
  v41 := Tryz.zeroValue304
  t44 := Tryz.underlying307
  a44 := Tryz.isAgg307
  z44 := Tryz.sizeOf307
  v44 := Tryz.zeroValue307
  t46 := Tryz.underlying293
  a46 := Tryz.isAgg293
  z46 := Tryz.sizeOf293
  v46 := Tryz.zeroValue293
  t53 := Tryz.underlying323
  a53 := Tryz.isAgg323
  z53 := Tryz.sizeOf323
  v53 := Tryz.zeroValue323
  t57 := Tryz.underlying327
  a57 := Tryz.isAgg327
  z57 := Tryz.sizeOf327
  v57 := Tryz.zeroValue327
  t63 := Tryz.underlying347
  a63 := Tryz.isAgg347
  z63 := Tryz.sizeOf347
  v63 := Tryz.zeroValue347
  t64 := Tryz.underlying249
  a64 := Tryz.isAgg249
  z64 := Tryz.sizeOf249
  v64 := Tryz.zeroValue249 }
open Go.RowKit Go.Maps Go.Sort in
theorem Tryz.sortsA (m : Nat) : AnyZI.SortsIn Tryz.prog Tryz.sortedA_ren Fence.wide m :=
  ⟨fun blk off cap ss W hH hblk hsz => callsIn_wide.2 (AnyM.slices_Sort_int Tryz.sortA blk off cap ss W hH hblk hsz),
   fun p cap W => callsIn_wide.2 (AnyM.slices_Sort_int_none Tryz.sortA p cap W)⟩
open Go.RowKit Go.Maps Go.Sort in
theorem Tryz.sorted_contractA (Bm m nn : Nat) (D0 : DataW Unit) (w : World) (hBm : Bm < w.heap.size) (hm : w.cell? ⟨Bm, 0, none⟩ = some (.map (some m))) (hown : w.ownsMap Tryz.prog 3 (fun _ => some (.nil, [])) m nn D0)
    (hmax : Maps.size D0 ≤ maxLen) (hbytes : Maps.size D0 * 8 ≤ 140737488355328) :
    Calls Tryz.prog 76 #[.func (.func 142) #[] #[.pointer (some ⟨Bm, 0, none⟩)]] w fun e w' => ∃ (v : Value) (ss : List Int), e = .returned v ∧ ss.Perm (intKeys D0) ∧
      w'.ownsRow w.heap.size 3 1 v ss.length ((ss.mergeSort fun x y => decide (x ≤ y)).map encZ) ∧ (v = .slice none 0 0 ↔ ss = []) ∧ Below w.heap.size w w' := by
  refine (callsIn_wide (n := 5)).1 ?_
  have hseq : SeqGives Fence.wide 2 Tryz.prog 142 #[.pointer (some ⟨Bm, 0, none⟩)] encZ (fun ss => ss.Perm (intKeys D0)) (Maps.size D0) w :=
    AnyZI.keys_gives (ρ := Tryz.keysA_ren) { Tryz.keysA with } Fence.wide _ trivial rfl (by omega) Bm m nn D0 w hBm hm hown
  exact AnyZI.sorted_in Tryz.sortedA Fence.wide 5 trivial trivial trivial trivial rfl (by omega) (Tryz.sortsA _) (enters_of Tryz.func141 (by kernel_rfl) rfl) 142 #[.pointer (some ⟨Bm, 0, none⟩)] trivial (enters_of Tryz.func142 (by kernel_rfl) rfl) _ _ hmax hbytes w hseq
def Tryz.keysS_ren : Go.Shelf.Ren := ⟨fun | 7 => 146 | 10 => 195 | n => n, fun | 23 => 159 | 26 => 9 | 3 => 51 | 28 => 243 | 0 => 0 | 27 => 242 | 33 => 166 | 4 => 4 | n => n, fun | n => n⟩
theorem Tryz.keysS : Go.Proofs.SlLaysZ.n7 Tryz.prog Tryz.keysS_ren := {
  mixed := by kernel_rfl
  f7 := ⟨Tryz.f146.name, by decide, Tryz.func146.trans (congrArg some (by kernel_rfl))⟩
  f10 := ⟨Tryz.f195.name, by decide, Tryz.func195.trans (congrArg some (by kernel_rfl))⟩
  t0 := Tryz.underlying0
  a0 := Tryz.isAgg0
  z0 := Tryz.sizeOf0
  v0 := Tryz.zeroValue0
  t4 := Tryz.underlying4
  a4 := Tryz.isAgg4
  z4 := Tryz.sizeOf4
  v4 := Tryz.zeroValue4
  t23 := Tryz.underlying159
  a23 := Tryz.isAgg159
  z23 := Tryz.sizeOf159
  v23 := Tryz.zeroValue159
  t26 := Tryz.underlying9
  a26 := Tryz.isAgg9
  z26 := Tryz.sizeOf9
  v26 := Tryz.zeroValue9
  t27 := Tryz.underlying242
  a27 := Tryz.isAgg242
  z27 := Tryz.sizeOf242
  v27 := Tryz.zeroValue242
  t28 := Tryz.underlying243
  a28 := Tryz.isAgg243
  z28 := Tryz.sizeOf243
  v28 := Tryz.zeroValue243
  t33 := Tryz.underlying166
  a33 := Tryz.isAgg166
  z33 := Tryz.sizeOf166
  v33 := Tryz.zeroValue166 }
def Tryz.sortedS_ren : Go.Shelf.Ren := ⟨fun | 6 => 145 | 8 => 193 | 9 => 194 | 11 => 234 | 13 => 184 | 12 => 235 | 23 => 222 | 24 => 223 | 14 => 253 | 15 => 254 | 16 => 255 | 17 => 256 | 18 => 257 | 19 => 258 | 20 => 259 | 21 => 260 | 22 => 261 | 25 => 279 | 26 => 246 | 27 => 247 | 28 => 280 | 29 => 281 | 30 => 185 | 31 => 291 | n => n, fun | 26 => 9 | 28 => 243 | 24 => 157 | 0 => 0 | 3 => 3 | 37 => 270 | 48 => 307 | 50 => 293 | 4 => 4 | 40 => 300 | 39 => 299 | 45 => 304 | 5 => 5 | 9 => 9 | 51 => 323 | 55 => 327 | 57 => 347 | 58 => 249 | 33 => 166 | n => n, fun | n => n⟩
theorem Tryz.sortedS : Go.Proofs.SlLaysZ.n6 Tryz.prog Tryz.sortedS_ren := {
  mixed := by kernel_rfl
  f6 := ⟨Tryz.f145.name, by decide, Tryz.func145.trans (congrArg some (by kernel_rfl))⟩
  f8 := ⟨Tryz.f193.name, by decide, Tryz.func193.trans (congrArg some (by kernel_rfl))⟩
  f11 := ⟨Tryz.f234.name, by decide, Tryz.func234.trans (congrArg some (by kernel_rfl))⟩
  t0 := Tryz.underlying0
  a0 := Tryz.isAgg0
  z0 := Tryz.sizeOf0
  v0 := Tryz.zeroValue0
  t24 := Tryz.underlying157
  a24 := Tryz.isAgg157
  z24 := Tryz.sizeOf157
  v24 := Tryz.zeroValue157
  t26 := Tryz.underlying9
  a26 := Tryz.isAgg9
  z26 := Tryz.sizeOf9
  v26 := Tryz.zeroValue9
  t28 := Tryz.underlying243
  a28 := Tryz.isAgg243
  z28 := Tryz.sizeOf243
  v28 := Tryz.zeroValue243
  i26 := by kernel_rfl }
def Tryz.sortS_ren : Go.Shelf.Ren := ⟨fun | 6 => 194 | 8 => 184 | 9 => 235 | 19 => 222 | 20 => 223 | 21 => 253 | 22 => 254 | 23 => 255 | 24 => 256 | 25 => 257 | 26 => 258 | 27 => 259 | 28 => 260 | 29 => 261 | 36 => 279 | 31 => 246 | 32 => 247 | 37 => 280 | 38 => 281 | 39 => 185 | 41 => 291 | n => n, fun | 27 => 157 | 29 => 9 | 3 => 3 | 32 => 270 | 26 => 157 | 0 => 0 | 44 => 307 | 46 => 293 | 4 => 4 | 36 => 300 | 35 => 299 | 41 => 304 | 5 => 5 | 9 => 9 | 53 => 323 | 57 => 327 | 63 => 347 | 64 => 249 | n => n, fun | n => n⟩
theorem Tryz.sortS : Go.Proofs.SlLaysM.n6 Tryz.prog Tryz.sortS_ren := {
  mixed := by kernel_rfl
  f6 := ⟨Tryz.f194.name, by decide, Tryz.func194.trans (congrArg some (by kernel_rfl))⟩
  f8 := Tryz.func184.trans (congrArg some (by kernel_rfl))
  f9 := ⟨Tryz.f235.name, by decide, Tryz.func235.trans (congrArg some (by kernel_rfl))⟩
  f19 := Tryz.func222.trans (congrArg some (by kernel_rfl))
  f20 := Tryz.func223.trans (congrArg some (by kernel_rfl))
  f21 := ⟨Tryz.f253.name, by decide, Tryz.func253.trans (congrArg some (by kernel_rfl))⟩
  f22 := ⟨Tryz.f254.name, by decide, Tryz.func254.trans (congrArg some (by kernel_rfl))⟩
  f23 := ⟨Tryz.f255.name, by decide, Tryz.func255.trans (congrArg some (by kernel_rfl))⟩
  f24 := ⟨Tryz.f256.name, by decide, Tryz.func256.trans (congrArg some (by kernel_rfl))⟩
  f25 := ⟨Tryz.f257.name, by decide, Tryz.func257.trans (congrArg some (by kernel_rfl))⟩
  f26 := ⟨Tryz.f258.name, by decide, Tryz.func258.trans (congrArg some (by kernel_rfl))⟩
  f27 := ⟨Tryz.f259.name, by decide, Tryz.func259.trans (congrArg some (by kernel_rfl))⟩
  f28 := ⟨Tryz.f260.name, by decide, Tryz.func260.trans (congrArg some (by kernel_rfl))⟩
  f29 := ⟨Tryz.f261.name, by decide, Tryz.func261.trans (congrArg some (by kernel_rfl))⟩
  f31 := Tryz.func246.trans (congrArg some (by kernel_rfl))
  f32 := Tryz.func247.trans (congrArg some (by kernel_rfl))
  f36 := ⟨Tryz.f279.name, by decide, Tryz.func279.trans (congrArg some (by kernel_rfl))⟩
  f37 := ⟨Tryz.f280.name, by decide, Tryz.func280.trans (congrArg some (by kernel_rfl))⟩
  f38 := ⟨Tryz.f281.name, by decide, Tryz.func281.trans (congrArg some (by kernel_rfl))⟩
  f39 := ⟨Tryz.f185.name, by decide, Tryz.func185.trans (congrArg some (by kernel_rfl))⟩
  f41 := ⟨Tryz.f291.name, by decide, Tryz.func291.trans (congrArg some (by kernel_rfl))⟩
  t0 := Tryz.underlying0
  a0 := Tryz.isAgg0
  z0 := Tryz.sizeOf0
  v0 := Tryz.zeroValue0
  t3 := Tryz.underlying3
  a3 := Tryz.isAgg3
  z3 := Tryz.sizeOf3
  v3 := Tryz.zeroValue3
  t4 := Tryz.underlying4
  a4 := Tryz.isAgg4
  z4 := Tryz.sizeOf4
  v4 := Tryz.zeroValue4
  t5 := Tryz.underlying5
  a5 := Tryz.isAgg5
  z5 := Tryz.sizeOf5
  v5 := Tryz.zeroValue5
  t9 := Tryz.underlying9
  a9 := Tryz.isAgg9
  z9 := Tryz.sizeOf9
  v9 := Tryz.zeroValue9
  t26 := Tryz.underlying157
  a26 := Tryz.isAgg157
  z26 := Tryz.sizeOf157
  v26 := Tryz.zeroValue157
  t27 := Tryz.underlying157
  a27 := Tryz.isAgg157
  z27 := Tryz.sizeOf157
  v27 := Tryz.zeroValue157
  t29 := Tryz.underlying9
  a29 := Tryz.isAgg9
  z29 := Tryz.sizeOf9
  v29 := Tryz.zeroValue9
  t32 := Tryz.underlying270
  a32 := Tryz.isAgg270
  z32 := Tryz.sizeOf270
  v32 := Tryz.zeroValue270
  t35 := Tryz.underlying299
  a35 := Tryz.isAgg299
  z35 := Tryz.sizeOf299
  v35 := Tryz.zeroValue299
  t36 := Tryz.underlying300
  a36 := Tryz.isAgg300
  z36 := Tryz.sizeOf300
  v36 := Tryz.zeroValue300
  t41 := Tryz.underlying304
  a41 := Tryz.isAgg304
  z41 := Tryz.sizeOf304
  v41 := Tryz.zeroValue304
  t44 := Tryz.underlying307
  a44 := Tryz.isAgg307
  z44 := Tryz.sizeOf307
  v44 := Tryz.zeroValue307
  t46 := Tryz.underlying293
  a46 := Tryz.isAgg293
  z46 := Tryz.sizeOf293
  v46 := Tryz.zeroValue293
  t53 := Tryz.underlying323
  a53 := Tryz.isAgg323
  z53 := Tryz.sizeOf323
  v53 := Tryz.zeroValue323
  t57 := Tryz.underlying327
  a57 := Tryz.isAgg327
  z57 := Tryz.sizeOf327
  v57 := Tryz.zeroValue327
  t63 := Tryz.underlying347
  a63 := Tryz.isAgg347
  z63 := Tryz.sizeOf347
  v63 := Tryz.zeroValue347
  t64 := Tryz.underlying249
  a64 := Tryz.isAgg249
  z64 := Tryz.sizeOf249
  v64 := Tryz.zeroValue249 }
open Go.RowKit Go.Maps Go.Sort in
theorem Tryz.sortsS (m : Nat) : AnyZ.SortsIn Tryz.prog Tryz.sortedS_ren Fence.wide m :=
  ⟨fun blk off cap ss W hH hblk hsz => callsIn_wide.2 (AnyM.slices_Sort_string Tryz.sortS blk off cap ss W hH hblk hsz),
   fun p cap W => callsIn_wide.2 (AnyM.slices_Sort_string_none Tryz.sortS p cap W)⟩
open Go.RowKit Go.Maps Go.Sort in
theorem Tryz.sorted_contractS (Bm m nn : Nat) (D0 : DataW Unit) (w : World) (hBm : Bm < w.heap.size) (hm : w.cell? ⟨Bm, 0, none⟩ = some (.map (some m))) (hown : w.ownsMap Tryz.prog 9 (fun _ => some (.nil, [])) m nn D0)
    (hmax : Maps.size D0 ≤ maxLen) (hbytes : Maps.size D0 * 16 ≤ 140737488355328) :
    Calls Tryz.prog 145 #[.func (.func 195) #[] #[.pointer (some ⟨Bm, 0, none⟩)]] w fun e w' => ∃ (v : Value) (ss : List (List UInt8)), e = .returned v ∧ ss.Perm (strKeys D0) ∧
      w'.ownsRow w.heap.size 9 1 v ss.length ((ss.mergeSort fun x y => decide (x ≤ y)).map encStr) ∧ (v = .slice none 0 0 ↔ ss = []) ∧ Below w.heap.size w w' := by
  refine (callsIn_wide (n := 5)).1 ?_
  have hseq : SeqGives Fence.wide 2 Tryz.prog 195 #[.pointer (some ⟨Bm, 0, none⟩)] encStr (fun ss => ss.Perm (strKeys D0)) (Maps.size D0) w :=
    AnyZ.keys_gives (ρ := Tryz.keysS_ren) { Tryz.keysS with } Fence.wide _ trivial rfl (by omega) Bm m nn D0 w hBm hm hown
  exact AnyZ.sorted_in Tryz.sortedS Fence.wide 5 trivial trivial trivial trivial rfl (by omega) (Tryz.sortsS _) (enters_of Tryz.func194 (by kernel_rfl) rfl) 195 #[.pointer (some ⟨Bm, 0, none⟩)] trivial (enters_of Tryz.func195 (by kernel_rfl) rfl) _ _ hmax hbytes w hseq
end Go.Proofs

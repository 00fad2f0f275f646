/- Parts of the proof of one statement: SyT, Shelf, XE. -/
import Derived.Shelf.Strings.Builder1
import Derived.Shelf.Strings.Builder2
import Derived.Shelf.Strings.OnBuilder
import Derived.Shelf.Small.Bits
import Derived.Shelf.Small.Strs
import Derived.Shelf.Utf8.RuneCount
import Derived.Shelf.Strconv.Itoa0
import Derived.Shelf.Strconv.Itoa1
import Derived.Shelf.LaysM
import Derived.Shelf.Strconv.Itoa2
import Derived.Shelf.Strconv.Itoa3
import Derived.Shelf.Strings.Search1
import Derived.Shelf.Strings.Search2
import Derived.Shelf.Strings.Search3
import Derived.Shelf.Strings.Cut
import Derived.Shelf.Strings.Count
import Derived.Shelf.Strings.Shaped
import Derived.Shelf.Sort.Plain
import Derived.Shelf.Strings.Prefix
import Derived.Shelf.Strings.Split
import Derived.Shelf.Strings.SplitShaped
import Derived.Shelf.Unicode.Decode
import Derived.Shelf.Strings.RuneCount
import Derived.Shelf.Strings.Explode
import Derived.Shelf.Unicode.DecodeSlow
import Derived.Shelf.Unicode.DecodeAny
import Derived.Shelf.Slices.Equal
import Derived.Ground.Names2Prog
import Derived.Shelf.Slices.SearchI
import Derived.Shelf.Slices.Empties2
import Derived.Ground.PaProg
import Derived.Shelf.Path.Small
import Derived.Test.YtgjbehfdjnekdaaGreatDoorProg
import Derived.Test.YtgjbehfdjnekdaaGreatDoorT16
import Derived.Test.YtgjbehfdjnekdaaGreatDoorT26
set_option linter.all false
section
/- The tables of the walks: those of the closed run, and some functions more. -/
namespace Go.Proofs.YtgjbehfdjnekdaaGreatDoor.Sy
open Go.RowKit
open Go.Proofs
open Go.Proofs.YtgjbehfdjnekdaaGreatDoor.Xc (Tab TabOK FnOK)
noncomputable section
noncomputable def fn2 (f : Nat) : Option Func := match f with
  | 4 => some Tryz.f4
  | 19 => some Tryz.f19
  | 20 => some Tryz.f20
  | 22 => some Tryz.f22
  | 52 => some Tryz.f52
  | 55 => some Tryz.f55
  | _ => none
noncomputable def stab : Tab := ⟨Xc.tab.ty, Xc.tab.eo, fun f => match Xc.tab.fn f with
  | some g => some g
  | none => fn2 f⟩
theorem stab_ok : TabOK Tryz.prog stab where
  ty := Xc.tab_ok.ty
  eo := Xc.tab_ok.eo
  fn f g h := by
    unfold stab at h
    simp only at h
    split at h
    · rename_i g' hg; injection h with h; subst h; exact Xc.tab_ok.fn _ _ hg
    · unfold fn2 at h
      split at h
      · injection h with h; subst h; exact ⟨Tryz.func4, Tryz.call4⟩
      · injection h with h; subst h; exact ⟨Tryz.func19, Tryz.call19⟩
      · injection h with h; subst h; exact ⟨Tryz.func20, Tryz.call20⟩
      · injection h with h; subst h; exact ⟨Tryz.func22, Tryz.call22⟩
      · injection h with h; subst h; exact ⟨Tryz.func52, Tryz.call52⟩
      · injection h with h; subst h; exact ⟨Tryz.func55, Tryz.call55⟩
      · cases h
end -- nc
end Go.Proofs.YtgjbehfdjnekdaaGreatDoor.Sy
end
section
/-
  DERIVED: THE SHELF's CONTRACTS AT THIS DUMP, IN PLAIN WORDS (tools/lay-plain.mjs out of 'YtgjbehfdjnekdaaGreatDoorShelf.lean', which tools/lay-shelf.mjs wrote): THE SAME DECLARATIONS UNDER THE SAME NAMES: 'import', 'namespace', 'open', 'def', 'theorem' AND NOTHING ELSE: no command of the shelf's: FOR A HAND-IN. Each laying: the table of numbers ('.._ren') and one theorem, a field a fact of the dump's own or the kernel's comparison; each contract: ONE APPLICATION.
-/
namespace Go.Proofs
open Go.Shelf
def Tryz.lays156_ren : Go.Shelf.Ren := ⟨fun | 156 => 49 | 165 => 105 | 166 => 106 | 169 => 107 | 240 => 166 | 241 => 167 | 276 => 234 | 277 => 235 | n => n, fun | 31 => 45 | 9 => 9 | 3 => 3 | 4 => 4 | 0 => 0 | 20 => 20 | 72 => 146 | 76 => 80 | 70 => 143 | 37 => 144 | 75 => 79 | 127 => 208 | 164 => 268 | 5 => 5 | 80 => 148 | n => n, fun | n => n⟩
theorem Tryz.lays156 : Go.Proofs.Lays.n156 Tryz.prog Tryz.lays156_ren := {
  mixed := by kernel_rfl
  f156 := Tryz.func49.trans (congrArg some (by kernel_rfl))
  f165 := Tryz.func105.trans (congrArg some (by kernel_rfl))
  f166 := Tryz.func106.trans (congrArg some (by kernel_rfl))
  f169 := Tryz.func107.trans (congrArg some (by kernel_rfl))
  f240 := Tryz.func166.trans (congrArg some (by kernel_rfl))
  f241 := Tryz.func167.trans (congrArg some (by kernel_rfl))
  f276 := Tryz.func234.trans (congrArg some (by kernel_rfl))
  f277 := Tryz.func235.trans (congrArg some (by kernel_rfl))
  t0 := Tryz.underlying0
  a0 := Tryz.isAgg0
  z0 := Tryz.sizeOf0
  v0 := Tryz.zeroValue0
  t3 := Tryz.underlying3
  a3 := Tryz.isAgg3
  z3 := Tryz.sizeOf3
  v3 := Tryz.zeroValue3
  t4 := Tryz.underlying4
  a4 := Tryz.isAgg4
  z4 := Tryz.sizeOf4
  v4 := Tryz.zeroValue4
  t9 := Tryz.underlying9
  a9 := Tryz.isAgg9
  z9 := Tryz.sizeOf9
  v9 := Tryz.zeroValue9
  t20 := Tryz.underlying20
  a20 := Tryz.isAgg20
  z20 := Tryz.sizeOf20
  v20 := Tryz.zeroValue20
  t31 := Tryz.underlying45
  a31 := Tryz.isAgg45
  z31 := Tryz.sizeOf45
  v31 := Tryz.zeroValue45
  t37 := Tryz.underlying144
  a37 := Tryz.isAgg144
  z37 := Tryz.sizeOf144
  v37 := Tryz.zeroValue144
  t70 := Tryz.underlying143
  a70 := Tryz.isAgg143
  z70 := Tryz.sizeOf143
  v70 := Tryz.zeroValue143
  t72 := Tryz.underlying146
  a72 := Tryz.isAgg146
  z72 := Tryz.sizeOf146
  v72 := Tryz.zeroValue146
  t75 := Tryz.underlying79
  a75 := Tryz.isAgg79
  z75 := Tryz.sizeOf79
  v75 := Tryz.zeroValue79
  t76 := Tryz.underlying80
  a76 := Tryz.isAgg80
  z76 := Tryz.sizeOf80
  v76 := Tryz.zeroValue80
  t127 := Tryz.underlying208
  a127 := Tryz.isAgg208
  z127 := Tryz.sizeOf208
  v127 := Tryz.zeroValue208
  t164 := Tryz.underlying268
  a164 := Tryz.isAgg268
  z164 := Tryz.sizeOf268
  v164 := Tryz.zeroValue268 }
theorem Tryz.Builder_Extra_156 : Builder.Extra Tryz.prog Tryz.lays156_ren := {
  sizeBuilder := by kernel_rfl
  liesBuilder := by kernel_rfl
  t5 := Tryz.underlying5
  a5 := Tryz.isAgg5
  z5 := Tryz.sizeOf5
  v5 := Tryz.zeroValue5
  infoByte := by kernel_rfl
  cellsByte := by kernel_rfl
  sizeByte := by kernel_rfl
  neB5 := by decide }
open Go.RowKit in
/-- No element: the empty string; the world is as it was. (Whatever the slice's address and capacity: a nil slice too.) (LAID: no walk: one application.) -/
theorem Tryz.strings_Join_none (a : Option Addr) (c : Nat) (sep : ByteArray) (w : World) :
    Calls Tryz.prog 49 #[.slice a 0 c, .string sep] w fun e w' => e = .returned (.string ⟨#[]⟩) ∧ w' = w := Any.strings_Join_none Tryz.lays156 Tryz.Builder_Extra_156 a c sep w
open Go.RowKit in
/-- strings.Join: "Join concatenates the elements of its first argument to create a single string. The separator string sep is placed between elements in the resulting string.": HOWEVER MANY ELEMENTS. Below the heap's end the world is as it was. (LAID: no walk: one application.) -/
theorem Tryz.strings_Join (bk o c : Nat) (xs : List ByteArray) (sep : ByteArray) (w : World) (hcells : ∀ (j : Nat) x, xs[j]? = some x → w.cell? ⟨bk, o + j, none⟩ = some (.string x)) (hbk : bk < w.heap.size) (hN : xs.length ≤ 140737488355328) (hcap : xs.length ≤ c) (hlen : (Lib.join (xs.map (·.data.toList)) sep.data.toList).length ≤ 140737488355328) :
    Calls Tryz.prog 49 #[.slice (some ⟨bk, o, none⟩) xs.length c, .string sep] w fun e w' => e = .returned (.string ⟨(Lib.join (xs.map (·.data.toList)) sep.data.toList).toArray⟩) ∧ Below w.heap.size w w' := Any.strings_Join Tryz.lays156 Tryz.Builder_Extra_156 bk o c xs sep w hcells hbk hN hcap hlen
def Tryz.lays106_ren : Go.Shelf.Ren := ⟨fun | 106 => 71 | 213 => 122 | 265 => 196 | n => n, fun | 9 => 9 | 3 => 3 | n => n, fun | n => n⟩
theorem Tryz.lays106 : Go.Proofs.Lays.n106 Tryz.prog Tryz.lays106_ren := {
  mixed := by kernel_rfl
  f106 := Tryz.func71.trans (congrArg some (by kernel_rfl))
  f213 := Tryz.func122.trans (congrArg some (by kernel_rfl))
  f265 := Tryz.func196.trans (congrArg some (by kernel_rfl))
  t3 := Tryz.underlying3
  a3 := Tryz.isAgg3
  z3 := Tryz.sizeOf3
  v3 := Tryz.zeroValue3
  t9 := Tryz.underlying9
  a9 := Tryz.isAgg9
  z9 := Tryz.sizeOf9
  v9 := Tryz.zeroValue9 }
open Go.RowKit in
/-- strings.Compare: "Compare returns an integer comparing two strings lexicographically. The result will be 0 if a == b, -1 if a < b, and +1 if a > b.": IT RETURNS 'Lib.compareBytes a b'; the world is as it was. (LAID: no walk: one application.) -/
theorem Tryz.strings_Compare (a b : ByteArray) (w : World) :
    Calls Tryz.prog 71 #[.string a, .string b] w fun e w' => e = .returned (.int .i64 (Lib.compareBytes a.data.toList b.data.toList)) ∧ w' = w := Any.strings_Compare Tryz.lays106 a b w
def Tryz.lays144_ren : Go.Shelf.Ren := ⟨fun | 144 => 36 | 143 => 87 | 219 => 153 | 217 => 218 | 225 => 219 | 224 => 220 | 267 => 221 | 266 => 277 | 314 => 278 | n => n, fun | 9 => 9 | 4 => 4 | 3 => 3 | 5 => 5 | 46 => 159 | 146 => 197 | 51 => 196 | n => n, fun | 1 => 0 | n => n⟩
theorem Tryz.lays144 : Go.Proofs.Lays.n144 Tryz.prog Tryz.lays144_ren := {
  mixed := by kernel_rfl
  f143 := Tryz.func87.trans (congrArg some (by kernel_rfl))
  f144 := Tryz.func36.trans (congrArg some (by kernel_rfl))
  f217 := Tryz.func218.trans (congrArg some (by kernel_rfl))
  f219 := Tryz.func153.trans (congrArg some (by kernel_rfl))
  f224 := Tryz.func220.trans (congrArg some (by kernel_rfl))
  f225 := Tryz.func219.trans (congrArg some (by kernel_rfl))
  f266 := Tryz.func277.trans (congrArg some (by kernel_rfl))
  f267 := Tryz.func221.trans (congrArg some (by kernel_rfl))
  f314 := Tryz.func278.trans (congrArg some (by kernel_rfl))
  t3 := Tryz.underlying3
  a3 := Tryz.isAgg3
  z3 := Tryz.sizeOf3
  v3 := Tryz.zeroValue3
  t4 := Tryz.underlying4
  a4 := Tryz.isAgg4
  z4 := Tryz.sizeOf4
  v4 := Tryz.zeroValue4
  t5 := Tryz.underlying5
  a5 := Tryz.isAgg5
  z5 := Tryz.sizeOf5
  v5 := Tryz.zeroValue5
  t9 := Tryz.underlying9
  a9 := Tryz.isAgg9
  z9 := Tryz.sizeOf9
  v9 := Tryz.zeroValue9
  t46 := Tryz.underlying159
  a46 := Tryz.isAgg159
  z46 := Tryz.sizeOf159
  v46 := Tryz.zeroValue159
  t51 := Tryz.underlying196
  a51 := Tryz.isAgg196
  z51 := Tryz.sizeOf196
  v51 := Tryz.zeroValue196
  t146 := Tryz.underlying197
  a146 := Tryz.isAgg197
  z146 := Tryz.sizeOf197
  v146 := Tryz.zeroValue197
  g1 := by kernel_rfl }
open Go.RowKit Go.Lib in
/-- strings.Contains: "Contains reports whether substr is within s.": IT RETURNS 'Lib.contains s substr'; the world is as it was. (LAID: no walk: one application.) -/
theorem Tryz.strings_Contains (s sub : ByteArray) (m : Int) (w : World) (hs : s.size < 4294967281) (hm : w.cell? ⟨0, 0, none⟩ = some (.int .i64 m)) :
    Calls Tryz.prog 36 #[.string s, .string sub] w fun e w' => e = .returned (.bool (Lib.contains s.data.toList sub.data.toList)) ∧ w' = w := Any.strings_Contains Tryz.lays144 s sub m w hs hm
def Tryz.lays189_ren : Go.Shelf.Ren := ⟨fun | 189 => 162 | 125 => 121 | 257 => 229 | 128 => 194 | 129 => 195 | 294 => 285 | 295 => 286 | 296 => 287 | 297 => 288 | 298 => 289 | 299 => 290 | 216 => 291 | 300 => 292 | 301 => 293 | 328 => 326 | 329 => 259 | 330 => 260 | 331 => 327 | 332 => 328 | 215 => 329 | 343 => 344 | n => n, fun | 28 => 34 | 3 => 3 | 46 => 159 | 0 => 0 | 51 => 196 | 53 => 239 | 4 => 4 | 183 => 232 | 182 => 231 | 131 => 161 | 5 => 5 | 9 => 9 | 218 => 281 | 222 => 285 | 228 => 315 | 229 => 316 | n => n, fun | n => n⟩
theorem Tryz.lays189 : Go.Proofs.Lays.n189 Tryz.prog Tryz.lays189_ren := {
  mixed := by kernel_rfl
  f125 := Tryz.func121.trans (congrArg some (by kernel_rfl))
  f128 := Tryz.func194.trans (congrArg some (by kernel_rfl))
  f129 := Tryz.func195.trans (congrArg some (by kernel_rfl))
  f189 := Tryz.func162.trans (congrArg some (by kernel_rfl))
  f215 := Tryz.func329.trans (congrArg some (by kernel_rfl))
  f216 := Tryz.func291.trans (congrArg some (by kernel_rfl))
  f257 := Tryz.func229.trans (congrArg some (by kernel_rfl))
  f294 := Tryz.func285.trans (congrArg some (by kernel_rfl))
  f295 := Tryz.func286.trans (congrArg some (by kernel_rfl))
  f296 := Tryz.func287.trans (congrArg some (by kernel_rfl))
  f297 := Tryz.func288.trans (congrArg some (by kernel_rfl))
  f298 := Tryz.func289.trans (congrArg some (by kernel_rfl))
  f299 := Tryz.func290.trans (congrArg some (by kernel_rfl))
  f300 := Tryz.func292.trans (congrArg some (by kernel_rfl))
  f301 := Tryz.func293.trans (congrArg some (by kernel_rfl))
  f328 := Tryz.func326.trans (congrArg some (by kernel_rfl))
  f329 := Tryz.func259.trans (congrArg some (by kernel_rfl))
  f330 := Tryz.func260.trans (congrArg some (by kernel_rfl))
  f331 := Tryz.func327.trans (congrArg some (by kernel_rfl))
  f332 := Tryz.func328.trans (congrArg some (by kernel_rfl))
  f343 := Tryz.func344.trans (congrArg some (by kernel_rfl))
  t0 := Tryz.underlying0
  a0 := Tryz.isAgg0
  z0 := Tryz.sizeOf0
  v0 := Tryz.zeroValue0
  t3 := Tryz.underlying3
  a3 := Tryz.isAgg3
  z3 := Tryz.sizeOf3
  v3 := Tryz.zeroValue3
  t4 := Tryz.underlying4
  a4 := Tryz.isAgg4
  z4 := Tryz.sizeOf4
  v4 := Tryz.zeroValue4
  t5 := Tryz.underlying5
  a5 := Tryz.isAgg5
  z5 := Tryz.sizeOf5
  v5 := Tryz.zeroValue5
  t9 := Tryz.underlying9
  a9 := Tryz.isAgg9
  z9 := Tryz.sizeOf9
  v9 := Tryz.zeroValue9
  t28 := Tryz.underlying34
  a28 := Tryz.isAgg34
  z28 := Tryz.sizeOf34
  v28 := Tryz.zeroValue34
  t46 := Tryz.underlying159
  a46 := Tryz.isAgg159
  z46 := Tryz.sizeOf159
  v46 := Tryz.zeroValue159
  t51 := Tryz.underlying196
  a51 := Tryz.isAgg196
  z51 := Tryz.sizeOf196
  v51 := Tryz.zeroValue196
  t53 := Tryz.underlying239
  a53 := Tryz.isAgg239
  z53 := Tryz.sizeOf239
  v53 := Tryz.zeroValue239
  t131 := Tryz.underlying161
  a131 := Tryz.isAgg161
  z131 := Tryz.sizeOf161
  v131 := Tryz.zeroValue161
  t182 := Tryz.underlying231
  a182 := Tryz.isAgg231
  z182 := Tryz.sizeOf231
  v182 := Tryz.zeroValue231
  t183 := Tryz.underlying232
  a183 := Tryz.isAgg232
  z183 := Tryz.sizeOf232
  v183 := Tryz.zeroValue232
  t218 := Tryz.underlying281
  a218 := Tryz.isAgg281
  z218 := Tryz.sizeOf281
  v218 := Tryz.zeroValue281
  t222 := Tryz.underlying285
  a222 := Tryz.isAgg285
  z222 := Tryz.sizeOf285
  v222 := Tryz.zeroValue285
  t228 := Tryz.underlying315
  a228 := Tryz.isAgg315
  z228 := Tryz.sizeOf315
  v228 := Tryz.zeroValue315
  t229 := Tryz.underlying316
  a229 := Tryz.isAgg316
  z229 := Tryz.sizeOf316
  v229 := Tryz.zeroValue316 }
open Go.Sort Go.RowKit in
theorem Tryz.slices_Sort_int (blk off cap : Nat) (zs : List Int) (w : World) (hH : Holds (Value.int .i64) w blk off zs.toArray) (hblk : blk < w.heap.size) (hsz : zs.length < 4611686018427387904) :
    Calls Tryz.prog 162 #[.slice (some ⟨blk, off, none⟩) zs.length cap] w fun e w' =>
      e = .returned (.tuple #[]) ∧ ∃ n os, w' = grow (putRow (Value.int .i64) (Sort.ahead w n) blk off (zs.mergeSort fun x y => decide (x ≤ y)).toArray) os := Any.slices_Sort_int Tryz.lays189 blk off cap zs w hH hblk hsz
def Tryz.lays146_ren : Go.Shelf.Ren := ⟨fun | 146 => 123 | 221 => 197 | 268 => 263 | 138 => 264 | 143 => 87 | 195 => 318 | 197 => 319 | 218 => 320 | 219 => 153 | 260 => 342 | 217 => 218 | 225 => 219 | 224 => 220 | 267 => 221 | 266 => 277 | 314 => 278 | n => n, fun | 9 => 9 | 31 => 45 | 3 => 3 | 4 => 4 | 0 => 0 | 105 => 318 | 21 => 21 | 5 => 5 | 46 => 159 | 119 => 335 | 139 => 338 | 138 => 337 | 146 => 197 | 51 => 196 | n => n, fun | 1 => 0 | 3 => 6 | 4 => 7 | n => n⟩
theorem Tryz.lays146 : Go.Proofs.Lays.n146 Tryz.prog Tryz.lays146_ren := {
  mixed := by kernel_rfl
  f138 := Tryz.func264.trans (congrArg some (by kernel_rfl))
  f143 := Tryz.func87.trans (congrArg some (by kernel_rfl))
  f146 := Tryz.func123.trans (congrArg some (by kernel_rfl))
  f195 := Tryz.func318.trans (congrArg some (by kernel_rfl))
  f197 := Tryz.func319.trans (congrArg some (by kernel_rfl))
  f217 := Tryz.func218.trans (congrArg some (by kernel_rfl))
  f218 := Tryz.func320.trans (congrArg some (by kernel_rfl))
  f219 := Tryz.func153.trans (congrArg some (by kernel_rfl))
  f221 := Tryz.func197.trans (congrArg some (by kernel_rfl))
  f224 := Tryz.func220.trans (congrArg some (by kernel_rfl))
  f225 := Tryz.func219.trans (congrArg some (by kernel_rfl))
  f260 := Tryz.func342.trans (congrArg some (by kernel_rfl))
  f266 := Tryz.func277.trans (congrArg some (by kernel_rfl))
  f267 := Tryz.func221.trans (congrArg some (by kernel_rfl))
  f268 := Tryz.func263.trans (congrArg some (by kernel_rfl))
  f314 := Tryz.func278.trans (congrArg some (by kernel_rfl))
  t0 := Tryz.underlying0
  a0 := Tryz.isAgg0
  z0 := Tryz.sizeOf0
  v0 := Tryz.zeroValue0
  t3 := Tryz.underlying3
  a3 := Tryz.isAgg3
  z3 := Tryz.sizeOf3
  v3 := Tryz.zeroValue3
  t4 := Tryz.underlying4
  a4 := Tryz.isAgg4
  z4 := Tryz.sizeOf4
  v4 := Tryz.zeroValue4
  t5 := Tryz.underlying5
  a5 := Tryz.isAgg5
  z5 := Tryz.sizeOf5
  v5 := Tryz.zeroValue5
  t9 := Tryz.underlying9
  a9 := Tryz.isAgg9
  z9 := Tryz.sizeOf9
  v9 := Tryz.zeroValue9
  t21 := Tryz.underlying21
  a21 := Tryz.isAgg21
  z21 := Tryz.sizeOf21
  v21 := Tryz.zeroValue21
  t31 := Tryz.underlying45
  a31 := Tryz.isAgg45
  z31 := Tryz.sizeOf45
  v31 := Tryz.zeroValue45
  t46 := Tryz.underlying159
  a46 := Tryz.isAgg159
  z46 := Tryz.sizeOf159
  v46 := Tryz.zeroValue159
  t51 := Tryz.underlying196
  a51 := Tryz.isAgg196
  z51 := Tryz.sizeOf196
  v51 := Tryz.zeroValue196
  t105 := Tryz.underlying318
  a105 := Tryz.isAgg318
  z105 := Tryz.sizeOf318
  v105 := Tryz.zeroValue318
  t119 := Tryz.underlying335
  a119 := Tryz.isAgg335
  z119 := Tryz.sizeOf335
  t138 := Tryz.underlying337
  a138 := Tryz.isAgg337
  z138 := Tryz.sizeOf337
  v138 := Tryz.zeroValue337
  t139 := Tryz.underlying338
  a139 := Tryz.isAgg338
  z139 := Tryz.sizeOf338
  v139 := Tryz.zeroValue338
  t146 := Tryz.underlying197
  a146 := Tryz.isAgg197
  z146 := Tryz.sizeOf197
  v146 := Tryz.zeroValue197
  g1 := by kernel_rfl
  g3 := by kernel_rfl
  g4 := by kernel_rfl }
open Go.RowKit Go.Lib in
/-- strings.Split. (LAID: no walk: one application.) -/
theorem Tryz.strings_Split (s sep : ByteArray) (m : Int) (w : World) (hs : s.size < 4294967281) (hm : w.cell? ⟨0, 0, none⟩ = some (.int .i64 m)) (h1 : 1 ≤ sep.size) :
    Calls Tryz.prog 123 #[.string s, .string sep] w fun e w' =>
      e = .returned (.slice (some ⟨w.heap.size, 0, none⟩) (Lib.countB s sep + 1) (Lib.countB s sep + 1)) ∧ w' = w.alloc (.cells ((Lib.splitB sep 0 (Lib.countB s sep) s).map Value.string).toArray 9) := Any.strings_Split Tryz.lays146 (by kernel_rfl) s sep m w hs hm h1
end Go.Proofs
end
section
/- Calls of a closed run that are not run but known: of Go's library, by the shelf's contracts. -/
set_option linter.unusedVariables false
set_option linter.unusedSimpArgs false
namespace Go.Proofs.YtgjbehfdjnekdaaGreatDoor.Xc
noncomputable section
open Go.RowKit
open Go.Proofs
open Go.Proofs.YtgjbehfdjnekdaaGreatDoor.Aw (Kept retv)

section
variable {P : Program} {f : FuncId} {args : List Xp} {k : Nat} {ob : List (Nat × Xo)}

/-- A call that gives one value and leaves the world. -/
theorem xc_value {v : Xv} (h : ∀ (w : World) (E : Env) (vs : List Value), HeapRel E (fun n => n < k) ob w → partsRel E (fun n => n < k) args vs → ∃ u, v.rel E (fun n => n < k) u ∧ Calls P f vs.toArray w fun e w' => e = .returned u ∧ w' = w) :
    XC P (.fn f) args k ob [⟨[.one v], ob, k⟩] := by
  intro w E vs hh hp
  obtain ⟨u, hu, hc⟩ := h w E vs hh hp
  refine hc.mono fun e w' ⟨he, hw⟩ => ?_
  subst hw
  refine ⟨_, List.mem_singleton.2 rfl, E, [u], he, Nat.le_refl _, .refl _ _, ⟨rfl, fun i p v hp hv => ?_⟩, hh, .refl _ _, fun n x b hx hb => .inl ⟨n, x, hx, hb⟩⟩
  cases i with
  | zero => simp only [List.getElem?_cons_zero, Option.some.injEq] at hp hv; subst hp; subst hv; exact hu
  | succ i => simp at hp

/-- .. and one that lays blocks of its own beside. -/
theorem xc_below {v : Xv} (h : ∀ (w : World) (E : Env) (vs : List Value), HeapRel E (fun n => n < k) ob w → partsRel E (fun n => n < k) args vs → ∃ u, v.rel E (fun n => n < k) u ∧ Calls P f vs.toArray w fun e w' => e = .returned u ∧ Below w.heap.size w w') :
    XC P (.fn f) args k ob [⟨[.one v], ob, k⟩] := by
  intro w E vs hh hp
  obtain ⟨u, hu, hc⟩ := h w E vs hh hp
  refine hc.mono fun e w' ⟨he, hb⟩ => ?_
  have hk := Kept.of_below hb (fun _ _ => False)
  refine ⟨_, List.mem_singleton.2 rfl, E, [u], he, Nat.le_refl _, .refl _ _, ⟨rfl, fun i p v hp hv => ?_⟩, ⟨fun n x hx => ⟨(hh.rel n x hx).1, Xo.mono (hh.rel n x hx).1 (hh.rel n x hx).2 (.refl _ _) (fun _ hn => hn) fun b hb' => hk.blk b (Xo.lt (hh.rel n x hx).2 hb') fun _ => id⟩, hh.inj, hh.lo, ?_⟩, hk.mono fun _ _ h => h.elim, fun n x b hx hb => .inl ⟨n, x, hx, hb⟩⟩
  · cases i with
    | zero => simp only [List.getElem?_cons_zero, Option.some.injEq] at hp hv; subst hp; subst hv; exact hu
    | succ i => simp at hp
  · exact hh.glob.kept (S := fun _ => False) hk fun b h => h.elim

theorem parts2 {E : Env} {U : Us} {p q : Xp} {vs : List Value} (h : partsRel E U [p, q] vs) : ∃ u v, vs = [u, v] ∧ p.rel E U u ∧ q.rel E U v := by
  obtain ⟨hl, hh⟩ := h
  match vs, hl with
  | [u, v], _ => exact ⟨u, v, rfl, hh 0 p u rfl rfl, hh 1 q v rfl rfl⟩
  | [], hl => simp at hl
  | [u], hl => simp at hl
  | u :: v :: z :: vs, hl => simp at hl
end

/-! ### strings.Contains -/
def hasSub : List UInt8 → List UInt8 → Bool
  | [], t => t.isEmpty
  | b :: l, t => t.isPrefixOf (b :: l) || hasSub l t
theorem hasSub_iff (t : List UInt8) : ∀ s : List UInt8, hasSub s t = true ↔ 0 ≤ Lib.index s t
  | [] => by unfold hasSub Lib.index; cases t <;> simp
  | b :: l => by
    have ih := hasSub_iff t l
    have hge := Lib.index_ge l t
    unfold hasSub Lib.index
    rw [Bool.or_eq_true, ih]
    by_cases h : t.isPrefixOf (b :: l) = true
    · simp [h]
    · rw [if_neg h]
      by_cases h1 : Lib.index l t = -1
      · simp [h1, h]
      · have h2 : ¬ ((Lib.index l t == -1) = true) := by simpa using h1
        rw [if_neg h2]
        constructor
        · rintro (h3 | h3)
          · exact absurd h3 h
          · omega
        · intro h3; right; omega
theorem hasSub_eq (t s : List UInt8) : hasSub s t = Lib.contains s t := by
  rw [Bool.eq_iff_iff, hasSub_iff, Lib.contains, decide_eq_true_eq]

def strsOf : List Xv → Option (List (List UInt8))
  | [] => some []
  | .str s :: l => match strsOf l with | some r => some (s :: r) | none => none
  | _ => none
theorem strsOf_get : ∀ {cs : List Xv} {ss : List (List UInt8)}, strsOf cs = some ss → cs = ss.map .str
  | [], ss, h => by simp only [strsOf, Option.some.injEq] at h; subst h; rfl
  | c :: cs, ss, h => by
    cases c with
    | str s =>
      simp only [strsOf] at h
      split at h
      · rename_i r hr; injection h with h; subst h; rw [strsOf_get hr]; rfl
      · cases h
    | _ => simp [strsOf] at h

def lit (s : List UInt8) : ByteArray := ⟨s.toArray⟩

/-- What is known. -/
def extF : Ext := fun c args k ob => match c with
  | .rd _ => none
  | .fn f =>
    bif f.beq 36 then match args with
      | [.one (.str s), .one (.str t)] => bif s.length.blt 10000 then some [⟨[.one (.bool (hasSub s t))], ob, k⟩] else none
      | _ => none
    else bif f.beq 71 then match args with
      | [.one (.str s), .one (.str t)] => some [⟨[.one (.int .i64 (Lib.compareBytes s t))], ob, k⟩]
      | _ => none
    else bif f.beq 123 then match args with
      | [.one (.str s), .one (.str t)] => bif s.length.blt 10000 && !t.isEmpty then
          bif (Lib.splitB (lit t) 0 (Lib.countB (lit s) (lit t)) (lit s)).length.beq (Lib.countB (lit s) (lit t) + 1) then
            some [⟨[.one (.sl k 0 (Lib.countB (lit s) (lit t) + 1) 1 .full)], (k, .cells 9 ((Lib.splitB (lit t) 0 (Lib.countB (lit s) (lit t)) (lit s)).map fun b => .str b.data.toList)) :: ob, k + 1⟩]
          else none
        else none
      | _ => none
    else bif f.beq 49 then match args with
      | [.one .nils, .one (.str _)] => some [⟨[.one (.str [])], ob, k⟩]
      | [.one (.sl n off len kk full), .one (.str t)] => match kk with
        | 1 => match Aw.look n ob with
          | some (.cells _ cs) => match strsOf ((cs.drop off).take len) with
            | some ss => bif ss.length.beq len && len.blt 100000 && (Lib.join ss t).length.blt 100000 && (!len.beq 0) then some [⟨[.one (.str (Lib.join ss t))], ob, k⟩] else none
            | none => none
          | _ => none
        | _ => none
      | _ => none
    else none

theorem extF_ok : CallOK Tryz.prog extF := by
  intro c args k ob outs h
  unfold extF at h
  split at h
  · cases h
  rename_i f
  cases h1 : f.beq 36 with
  | true =>
    have := Nat.eq_of_beq_eq_true h1; subst this
    simp only [Nat.beq_eq_true_eq, cond_true, show (Nat.beq 36 36) = true from rfl] at h
    split at h
    rotate_left; · cases h
    rename_i s t
    cases hl : s.length.blt 10000 with
    | false => rw [hl, cond_false] at h; cases h
    | true =>
      rw [hl, cond_true] at h; injection h with h; subst h
      have hl' : s.length < 10000 := by simpa [Nat.blt_eq] using hl
      refine xc_value fun w E vs hh hp => ?_
      obtain ⟨u, v, rfl, hu, hv⟩ := parts2 hp
      obtain ⟨m, hm⟩ := hh.glob.ints 0 (by decide)
      refine ⟨.bool (hasSub s t), rfl, ?_⟩
      cases hu; cases hv
      refine (Tryz.strings_Contains (lit s) (lit t) m w (by simp [lit, ByteArray.size]; omega) hm).mono fun e w' ⟨he, hw⟩ => ⟨?_, hw⟩
      rw [he, hasSub_eq]; rfl
  | false =>
    rw [h1, cond_false] at h
    cases h2 : f.beq 71 with
    | true =>
      have := Nat.eq_of_beq_eq_true h2; subst this
      simp only [cond_true, show (Nat.beq 71 71) = true from rfl] at h
      split at h
      rotate_left; · cases h
      rename_i s t
      injection h with h; subst h
      refine xc_value fun w E vs hh hp => ?_
      obtain ⟨u, v, rfl, hu, hv⟩ := parts2 hp
      refine ⟨.int .i64 (Lib.compareBytes s t), rfl, ?_⟩
      cases hu; cases hv
      exact Tryz.strings_Compare (lit s) (lit t) w
    | false =>
      rw [h2, cond_false] at h
      cases h3 : f.beq 123 with
      | true =>
        have := Nat.eq_of_beq_eq_true h3; subst this
        simp only [cond_true, show (Nat.beq 123 123) = true from rfl] at h
        split at h
        rotate_left; · cases h
        rename_i s t
        cases hl : s.length.blt 10000 && !t.isEmpty with
        | false => rw [hl, cond_false] at h; cases h
        | true =>
          rw [hl, cond_true] at h
          rw [Bool.and_eq_true] at hl
          cases hn : (Lib.splitB (lit t) 0 (Lib.countB (lit s) (lit t)) (lit s)).length.beq (Lib.countB (lit s) (lit t) + 1) with
          | false => rw [hn, cond_false] at h; cases h
          | true =>
            rw [hn, cond_true] at h; injection h with h; subst h
            have hn := Nat.eq_of_beq_eq_true hn
            have hl' : s.length < 10000 := by simpa [Nat.blt_eq] using hl.1
            have ht : 1 ≤ (lit t).size := by
              have := hl.2
              cases t with
              | nil => simp at this
              | cons a t => simp [lit, ByteArray.size]
            intro w E vs hh hp
            obtain ⟨u, v, rfl, hu, hv⟩ := parts2 hp
            obtain ⟨m, hm⟩ := hh.glob.ints 0 (by decide)
            cases hu; cases hv
            refine (Tryz.strings_Split (lit s) (lit t) m w (by simp [lit, ByteArray.size]; omega) hm ht).mono fun e w' ⟨he, hw⟩ => ?_
            subst hw
            have hcb : Lib.countB (lit s) (lit t) + 1 ≤ 10000 := by
              have h1 := Lib.countB_le (lit t) ht (lit s).size (lit s) (Nat.le_refl _)
              have h2 : (lit s).size = s.length := by simp [lit, ByteArray.size]
              omega
            generalize hN : Lib.countB (lit s) (lit t) + 1 = N at *
            generalize hS : Lib.splitB (lit t) 0 (Lib.countB (lit s) (lit t)) (lit s) = S at *
            have hk := Aw.kept_alloc w (.cells (S.map Value.string).toArray 9)
            have hnew := World.alloc_heap_new w (.cells (S.map Value.string).toArray 9)
            let E' := E.set k (.pointer (some ⟨w.heap.size, 0, none⟩)) N
            have hle : Env.le (fun n => n < k) E E' := Env.set_le (Nat.lt_irrefl k)
            have hNm : N ≤ maxLen := by unfold maxLen; omega
            have hblk : ∀ n, n < k → E'.blk n = E.blk n := fun n hn => by unfold Env.blk; rw [hle.ι n hn]
            have hblk' : E'.blk k = some w.heap.size := by unfold Env.blk; rw [show E'.ι k = _ from Env.set_ι]
            have hx : ∀ n x, Aw.look n ((k, Xo.cells 9 (S.map fun b => .str b.data.toList)) :: ob) = some x → (n = k ∧ x = .cells 9 (S.map fun b => .str b.data.toList)) ∨ (n ≠ k ∧ Aw.look n ob = some x) := fun n x hx => by
              simp only [Aw.look_nil, Aw.look_cons] at hx
              by_cases e : n = k
              · rw [if_pos e] at hx; injection hx with hx; exact .inl ⟨e, hx.symm⟩
              · rw [if_neg e] at hx; exact .inr ⟨e, hx⟩
            have holdlt : ∀ n x, Aw.look n ob = some x → ∀ b, E.blk n = some b → b < w.heap.size := fun n x hx b hb => Xo.lt (hh.rel n x hx).2 hb
            refine ⟨_, List.mem_singleton.2 rfl, E', [_], he, by simp, hle, ⟨rfl, fun i p v hp hv => ?_⟩, ⟨fun n x hx' => ?_, fun n n' x x' b hx1 hx2 hb1 hb2 => ?_, fun n x b hx' hb => ?_, hh.glob.kept (S := fun _ => False) hk fun b h => h.elim⟩, hk.mono fun _ _ h => h.elim, fun n x b hx' hb => ?_⟩
            · cases i with
              | zero =>
                simp only [List.getElem?_cons_zero, Option.some.injEq] at hp hv; subst hp; subst hv
                exact ⟨Nat.lt_succ_self k, w.heap.size, 0, 0, N, Env.set_ι, rfl, .inr rfl, Nat.le_refl _, hNm, Nat.le_refl _, by rw [show E'.hi k = N from Env.set_hi]; omega, rfl⟩
              | succ i => simp at hp
            · rcases hx n x hx' with ⟨rfl, rfl⟩ | ⟨e, hx'⟩
              · refine ⟨Nat.lt_succ_self n, w.heap.size, 0, _, Env.set_ι, hnew, ?_, ?_, fun i c hc => ?_⟩
                · rw [show E'.hi n = N from Env.set_hi]; simpa using hn
                · rw [show E'.hi n = N from Env.set_hi]; simp; omega
                · rw [List.getElem?_map] at hc
                  obtain ⟨b, hb, rfl⟩ := Option.map_eq_some_iff.1 hc
                  exact ⟨.string b, by simpa using hb, by cases b; rfl⟩
              · have h0 := hh.rel n x hx'
                exact ⟨Nat.lt_succ_of_lt h0.1, Xo.mono h0.1 h0.2 hle (fun m hm => Nat.lt_succ_of_lt hm) fun b hb => hk.blk b (holdlt n x hx' b hb) fun _ => id⟩
            · rcases hx n x hx1 with ⟨rfl, rfl⟩ | ⟨e, hy1⟩ <;> rcases hx n' x' hx2 with ⟨rfl, rfl⟩ | ⟨e', hy2⟩
              · rfl
              · exfalso
                rw [hblk'] at hb1; injection hb1 with hb1
                rw [hblk n' (hh.rel n' x' hy2).1] at hb2
                have := holdlt n' x' hy2 b hb2; omega
              · exfalso
                rw [hblk'] at hb2; injection hb2 with hb2
                rw [hblk n (hh.rel n x hy1).1] at hb1
                have := holdlt n x hy1 b hb1; omega
              · rw [hblk n (hh.rel n x hy1).1] at hb1
                rw [hblk n' (hh.rel n' x' hy2).1] at hb2
                exact hh.inj n n' x x' b hy1 hy2 hb1 hb2
            · rcases hx n x hx' with ⟨rfl, rfl⟩ | ⟨e, hx'⟩
              · rw [hblk'] at hb; injection hb with hb; subst hb; exact hh.glob.low
              · rw [hblk n (hh.rel n x hx').1] at hb; exact hh.lo n x b hx' hb
            · rcases hx n x hx' with ⟨rfl, rfl⟩ | ⟨e, hx'⟩
              · rw [hblk'] at hb; injection hb with hb; exact .inr (by omega)
              · rw [hblk n (hh.rel n x hx').1] at hb; exact .inl ⟨n, x, hx', hb⟩
      | false =>
        rw [h3, cond_false] at h
        cases h4 : f.beq 49 with
        | false => rw [h4, cond_false] at h; cases h
        | true =>
          have := Nat.eq_of_beq_eq_true h4; subst this
          simp only [cond_true, show (Nat.beq 49 49) = true from rfl] at h
          split at h
          · rename_i t
            injection h with h; subst h
            refine xc_value fun w E vs hh hp => ?_
            obtain ⟨u, v, rfl, hu, hv⟩ := parts2 hp
            refine ⟨.string ⟨#[]⟩, rfl, ?_⟩
            cases hu; cases hv
            exact Tryz.strings_Join_none none 0 (lit t) w
          · rename_i n off len kk full t
            split at h
            rotate_left; · cases h
            split at h
            rotate_left; · cases h
            rename_i T cs hlk
            split at h
            rotate_left; · cases h
            rename_i ss hss
            cases hb : ss.length.beq len && len.blt 100000 && (Lib.join ss t).length.blt 100000 && (!len.beq 0) with
            | false => rw [hb, cond_false] at h; cases h
            | true =>
              rw [hb, cond_true] at h; injection h with h; subst h
              simp only [Bool.and_eq_true] at hb
              obtain ⟨⟨⟨b1, b2⟩, b3⟩, b4⟩ := hb
              have b1 := Nat.eq_of_beq_eq_true b1
              have b2 : len < 100000 := by simpa [Nat.blt_eq] using b2
              have b3 : (Lib.join ss t).length < 100000 := by simpa [Nat.blt_eq] using b3
              have b4 : len ≠ 0 := fun e => by subst e; simp at b4
              refine xc_below fun w E vs hh hp => ?_
              obtain ⟨u, v, rfl, hu, hv⟩ := parts2 hp
              refine ⟨.string ⟨(Lib.join ss t).toArray⟩, rfl, ?_⟩
              obtain ⟨hn, bk, o, o2, cap, g1, rfl, g3, g4, g5, g6, g7, g8⟩ := hu
              cases hv
              obtain ⟨_, bk', o', vs', e1, e2, e3, e4, e5⟩ := hh.rel n _ hlk
              rw [g1] at e1
              simp only [Value.pointer.injEq, Option.some.injEq, Addr.mk.injEq, and_true] at e1
              obtain ⟨rfl, rfl⟩ := e1
              have hc0 : cap ≠ 0 := by omega
              have g3 : o2 = o + off := g3.resolve_left hc0
              subst g3
              have hcells : ∀ (j : Nat) (x : ByteArray), (ss.map lit)[j]? = some x → w.cell? ⟨bk, (o + off) + j, none⟩ = some (.string x) := fun j x hj => by
                rw [List.getElem?_map] at hj
                obtain ⟨y, hy, rfl⟩ := Option.map_eq_some_iff.1 hj
                have hjl : j < len := by
                  rw [← b1]; rcases Nat.lt_or_ge j ss.length with h | h
                  · exact h
                  · rw [List.getElem?_eq_none h] at hy; cases hy
                have hc : cs[off + j]? = some (.str y) := by
                  have := congrArg (fun l => l[j]?) (strsOf_get hss)
                  simp only [List.getElem?_map, hy, Option.map_some] at this
                  rw [List.getElem?_take_of_lt hjl, List.getElem?_drop] at this
                  exact this
                obtain ⟨v, hv, hr⟩ := e5 _ _ hc
                have : w.cell? ⟨bk, o + off + j, none⟩ = vs'[o + off + j]? := by simp [World.cell?, e2]
                rw [this, Nat.add_assoc, hv]
                cases hr; rfl
              have hmap : (ss.map lit).map (·.data.toList) = ss := by
                rw [List.map_map]
                have : ((fun x : ByteArray => x.data.toList) ∘ lit) = id := by funext x; simp [lit]
                rw [this, List.map_id]
              have := Tryz.strings_Join bk (o + off) cap (ss.map lit) (lit t) w hcells (Aw.lt_of_heap e2) (by simp; omega) (by simp; omega) (by rw [hmap]; show (Lib.join ss t).length ≤ _; omega)
              rw [hmap, List.length_map, b1] at this
              exact this
          · cases h
end -- nc
end Go.Proofs.YtgjbehfdjnekdaaGreatDoor.Xc
end

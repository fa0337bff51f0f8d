/-
  DERIVED: THE SHELF's CONTRACTS AT THIS DUMP, IN PLAIN WORDS (tools/lay-plain.mjs out of 'TryzShelf.lean', which tools/lay-shelf.mjs wrote): THE SAME DECLARATIONS UNDER THE SAME NAMES: 'import', 'namespace', 'open', 'def', 'theorem' AND NOTHING ELSE: no command of the shelf's: FOR A HAND-IN. Each laying: the table of numbers ('.._ren') and one theorem, a field a fact of the dump's own or the kernel's comparison; each contract: ONE APPLICATION.
-/
import Derived.Shelf.Small.Bits
import Derived.Shelf.Small.Strs
import Derived.Shelf.Small.Wraps
import Derived.Shelf.Strconv.Itoa0
import Derived.Shelf.Sort.Plain
import Derived.Shelf.Bits.Mul64
import Derived.Shelf.Slices.Turned
import Derived.Shelf.Slices.Equal
import Derived.Ground.Names2Prog
import Derived.Shelf.Slices.Clone
import Derived.Shelf.Slices.SearchI
import Derived.Shelf.Slices.In.SortNone
import Derived.Shelf.Slices.Empties2
import Derived.Ground.SlgnProg
import Derived.Shelf.SlicesG.SearchI
import Derived.Shelf.SlicesE.Equal
import Derived.Shelf.SlicesE.Clone
import Derived.Ground.SlgfProg
import Derived.Shelf.SlicesE.IndexFunc
import Derived.Shelf.SlicesE.DeleteFunc
import Derived.Ground.SlsfProg
import Derived.Shelf.SlSortCmp.Insertion
import Derived.Shelf.SlSortCmp.SiftDown1
import Derived.Shelf.SlSortCmp.HeapSort1
import Derived.Shelf.SlSortCmp.Insertion1
import Derived.Shelf.SlSortCmp.Median1
import Derived.Shelf.SlSortCmp.Pivot1
import Derived.Shelf.SlSortCmp.ReverseRange1
import Derived.Shelf.SlSortCmp.PartialInsertion1
import Derived.Shelf.SlSortCmp.PartitionEqual1
import Derived.Shelf.SlSortCmp.Partition1
import Derived.Shelf.SlSortCmp.Pdq1
import Derived.Shelf.SlSortCmp.Whole1
import Derived.Shelf.SlSortCmp.NoneTotal
import Derived.Test.YtbejmdlncnkaaaaGreatProg
namespace Go.Proofs
open Go.Shelf
def Tryz.lays106_ren : Go.Shelf.Ren := ⟨fun | 106 => 185 | 213 => 213 | 265 => 253 | n => n, fun | 9 => 9 | 3 => 3 | n => n, fun | n => n⟩
theorem Tryz.lays106 : Go.Proofs.Lays.n106 Tryz.prog Tryz.lays106_ren := {
 mixed := by kernel_rfl
 f106 := Tryz.func185.trans (congrArg some (by kernel_rfl))
 f213 := Tryz.func213.trans (congrArg some (by kernel_rfl))
 f265 := Tryz.func253.trans (congrArg some (by kernel_rfl))
 t3 := Tryz.underlying3
 a3 := Tryz.isAgg3
 z3 := Tryz.sizeOf3
 v3 := Tryz.zeroValue3
 t9 := Tryz.underlying9
 a9 := Tryz.isAgg9
 z9 := Tryz.sizeOf9
 v9 := Tryz.zeroValue9 }
open Go.RowKit in
theorem Tryz.strings_Compare (a b : ByteArray) (w : World) :
  Calls Tryz.prog 185 #[.string a, .string b] w fun e w' => e = .returned (.int .i64 (Lib.compareBytes a.data.toList b.data.toList)) /\ w' = w := Any.strings_Compare Tryz.lays106 a b w
def Tryz.lays122_ren : Go.Shelf.Ren := ⟨fun | 122 => 96 | 215 => 156 | n => n, fun | 3 => 3 | 4 => 4 | n => n, fun | n => n⟩
theorem Tryz.lays122 : Go.Proofs.Lays.n122 Tryz.prog Tryz.lays122_ren := {
 mixed := by kernel_rfl
 f122 := Tryz.func96.trans (congrArg some (by kernel_rfl))
 f215 := Tryz.func156.trans (congrArg some (by kernel_rfl))
 t3 := Tryz.underlying3
 a3 := Tryz.isAgg3
 z3 := Tryz.sizeOf3
 v3 := Tryz.zeroValue3
 t4 := Tryz.underlying4
 a4 := Tryz.isAgg4
 z4 := Tryz.sizeOf4
 v4 := Tryz.zeroValue4 }
open Go.RowKit in
theorem Tryz.cmp_Compare_int (x y : Int) (w : World) :
  Calls Tryz.prog 96 #[.int .i64 x, .int .i64 y] w fun e w' => e = .returned (.int .i64 (Lib.compareInt x y)) /\ w' = w := Any.cmp_Compare_int Tryz.lays122 x y w
def Tryz.lays190_ren : Go.Shelf.Ren := ⟨fun | 190 => 152 | 125 => 155 | 258 => 189 | 128 => 198 | 129 => 199 | 302 => 214 | 303 => 215 | 304 => 216 | 305 => 217 | 306 => 218 | 307 => 219 | 308 => 220 | 309 => 221 | 310 => 222 | 333 => 254 | 329 => 224 | 330 => 225 | 334 => 255 | 335 => 256 | 336 => 157 | 344 => 270 | n => n, fun | 31 => 24 | 9 => 9 | 3 => 3 | 46 => 190 | 0 => 0 | 51 => 221 | 53 => 223 | 4 => 4 | 183 => 215 | 182 => 214 | 131 => 140 | 5 => 5 | 218 => 244 | 222 => 248 | 228 => 270 | 229 => 271 | n => n, fun | n => n⟩
theorem Tryz.lays190 : Go.Proofs.Lays.n190 Tryz.prog Tryz.lays190_ren := {
 mixed := by kernel_rfl
 f125 := Tryz.func155.trans (congrArg some (by kernel_rfl))
 f128 := Tryz.func198.trans (congrArg some (by kernel_rfl))
 f129 := Tryz.func199.trans (congrArg some (by kernel_rfl))
 f190 := Tryz.func152.trans (congrArg some (by kernel_rfl))
 f258 := Tryz.func189.trans (congrArg some (by kernel_rfl))
 f302 := Tryz.func214.trans (congrArg some (by kernel_rfl))
 f303 := Tryz.func215.trans (congrArg some (by kernel_rfl))
 f304 := Tryz.func216.trans (congrArg some (by kernel_rfl))
 f305 := Tryz.func217.trans (congrArg some (by kernel_rfl))
 f306 := Tryz.func218.trans (congrArg some (by kernel_rfl))
 f307 := Tryz.func219.trans (congrArg some (by kernel_rfl))
 f308 := Tryz.func220.trans (congrArg some (by kernel_rfl))
 f309 := Tryz.func221.trans (congrArg some (by kernel_rfl))
 f310 := Tryz.func222.trans (congrArg some (by kernel_rfl))
 f329 := Tryz.func224.trans (congrArg some (by kernel_rfl))
 f330 := Tryz.func225.trans (congrArg some (by kernel_rfl))
 f333 := Tryz.func254.trans (congrArg some (by kernel_rfl))
 f334 := Tryz.func255.trans (congrArg some (by kernel_rfl))
 f335 := Tryz.func256.trans (congrArg some (by kernel_rfl))
 f336 := Tryz.func157.trans (congrArg some (by kernel_rfl))
 f344 := Tryz.func270.trans (congrArg some (by kernel_rfl))
 t0 := Tryz.underlying0
 a0 := Tryz.isAgg0
 z0 := Tryz.sizeOf0
 v0 := Tryz.zeroValue0
 t3 := Tryz.underlying3
 a3 := Tryz.isAgg3
 z3 := Tryz.sizeOf3
 v3 := Tryz.zeroValue3
 t4 := Tryz.underlying4
 a4 := Tryz.isAgg4
 z4 := Tryz.sizeOf4
 v4 := Tryz.zeroValue4
 t5 := Tryz.underlying5
 a5 := Tryz.isAgg5
 z5 := Tryz.sizeOf5
 v5 := Tryz.zeroValue5
 t9 := Tryz.underlying9
 a9 := Tryz.isAgg9
 z9 := Tryz.sizeOf9
 v9 := Tryz.zeroValue9
 t31 := Tryz.underlying24
 a31 := Tryz.isAgg24
 z31 := Tryz.sizeOf24
 v31 := Tryz.zeroValue24
 t46 := Tryz.underlying190
 a46 := Tryz.isAgg190
 z46 := Tryz.sizeOf190
 v46 := Tryz.zeroValue190
 t51 := Tryz.underlying221
 a51 := Tryz.isAgg221
 z51 := Tryz.sizeOf221
 v51 := Tryz.zeroValue221
 t53 := Tryz.underlying223
 a53 := Tryz.isAgg223
 z53 := Tryz.sizeOf223
 v53 := Tryz.zeroValue223
 t131 := Tryz.underlying140
 a131 := Tryz.isAgg140
 z131 := Tryz.sizeOf140
 v131 := Tryz.zeroValue140
 t182 := Tryz.underlying214
 a182 := Tryz.isAgg214
 z182 := Tryz.sizeOf214
 v182 := Tryz.zeroValue214
 t183 := Tryz.underlying215
 a183 := Tryz.isAgg215
 z183 := Tryz.sizeOf215
 v183 := Tryz.zeroValue215
 t218 := Tryz.underlying244
 a218 := Tryz.isAgg244
 z218 := Tryz.sizeOf244
 v218 := Tryz.zeroValue244
 t222 := Tryz.underlying248
 a222 := Tryz.isAgg248
 z222 := Tryz.sizeOf248
 v222 := Tryz.zeroValue248
 t228 := Tryz.underlying270
 a228 := Tryz.isAgg270
 z228 := Tryz.sizeOf270
 v228 := Tryz.zeroValue270
 t229 := Tryz.underlying271
 a229 := Tryz.isAgg271
 z229 := Tryz.sizeOf271
 v229 := Tryz.zeroValue271 }
open Go.Sort Go.RowKit in
theorem Tryz.slices_Sort_string (blk off cap : Nat) (ss : List (List UInt8)) (w : World) (hH : Holds encStr w blk off ss.toArray) (hblk : blk < w.heap.size) (hsz : ss.length < 4611686018427387904) :
  Calls Tryz.prog 152 #[.slice (some ⟨blk, off, none⟩) ss.length cap] w fun e w' =>
   e = .returned (.tuple #[]) /\ ∃ n os, w' = grow (putRow encStr (Sort.ahead w n) blk off (ss.mergeSort fun x y => decide (x <= y)).toArray) os := Any.slices_Sort_string Tryz.lays190 blk off cap ss w hH hblk hsz
def Tryz.lays264_ren : Go.Shelf.Ren := ⟨fun | 264 => 250 | n => n, fun | 53 => 223 | 46 => 190 | n => n, fun | n => n⟩
theorem Tryz.lays264 : Go.Proofs.Lays.n264 Tryz.prog Tryz.lays264_ren := {
 mixed := by kernel_rfl
 f264 := Tryz.func250.trans (congrArg some (by kernel_rfl))
 t46 := Tryz.underlying190
 a46 := Tryz.isAgg190
 z46 := Tryz.sizeOf190
 v46 := Tryz.zeroValue190
 t53 := Tryz.underlying223
 a53 := Tryz.isAgg223
 z53 := Tryz.sizeOf223
 v53 := Tryz.zeroValue223 }
open Go.RowKit Go.Lib in
theorem Tryz.bits_Mul64 (x y : Nat) (hx : x < 18446744073709551616) (hy : y < 18446744073709551616) (w : World) :
  Calls Tryz.prog 250 #[.int .u64 x, .int .u64 y] w fun e w' => e = .returned (.tuple #[.int .u64 ((x * y / 18446744073709551616 : Nat) : Int), .int .u64 ((x * y % 18446744073709551616 : Nat) : Int)]) /\ w' = w := Any.bits_Mul64 Tryz.lays264 x y hx hy w
def Tryz.lays193_ren : Go.Shelf.Ren := ⟨fun | 193 => 106 | n => n, fun | 31 => 24 | 9 => 9 | 4 => 4 | 3 => 3 | 0 => 0 | n => n, fun | n => n⟩
theorem Tryz.lays193 : Go.Proofs.Lays.n193 Tryz.prog Tryz.lays193_ren := {
 mixed := by kernel_rfl
 f193 := Tryz.func106.trans (congrArg some (by kernel_rfl))
 t0 := Tryz.underlying0
 a0 := Tryz.isAgg0
 z0 := Tryz.sizeOf0
 v0 := Tryz.zeroValue0
 t3 := Tryz.underlying3
 a3 := Tryz.isAgg3
 z3 := Tryz.sizeOf3
 v3 := Tryz.zeroValue3
 t4 := Tryz.underlying4
 a4 := Tryz.isAgg4
 z4 := Tryz.sizeOf4
 v4 := Tryz.zeroValue4
 t9 := Tryz.underlying9
 a9 := Tryz.isAgg9
 z9 := Tryz.sizeOf9
 v9 := Tryz.zeroValue9
 t31 := Tryz.underlying24
 a31 := Tryz.isAgg24
 z31 := Tryz.sizeOf24
 v31 := Tryz.zeroValue24 }
open Go.RowKit Go.Lib in
theorem Tryz.slices_Equal_string (b1 o1 n c b2 o2 m d : Nat) (xs ys : List ByteArray) (w : World) (hx : n <= xs.length) (hy : m <= ys.length) (hbig : n <= 9223372036854775807) (hbig2 : m <= 9223372036854775807) (hc1 : ∀ j, j < xs.length -> w.cell? ⟨b1, o1 + j, none⟩ = some (.string (xs.getD j ByteArray.empty))) (hc2 : ∀ j, j < ys.length -> w.cell? ⟨b2, o2 + j, none⟩ = some (.string (ys.getD j ByteArray.empty))) :
  Calls Tryz.prog 106 #[.slice (some ⟨b1, o1, none⟩) n c, .slice (some ⟨b2, o2, none⟩) m d] w fun e w' => e = .returned (.bool (decide (xs.take n = ys.take m))) /\ ∃ q, w' = w.drewN q := Any.slices_Equal_string Tryz.lays193 b1 o1 n c b2 o2 m d xs ys w hx hy hbig hbig2 hc1 hc2
open Go.RowKit Go.Lib in
theorem Tryz.slices_Equal_string_empty (a1 a2 : Option Addr) (c m d : Nat) (w : World) (hbig2 : m <= 9223372036854775807) :
  Calls Tryz.prog 106 #[.slice a1 0 c, .slice a2 m d] w fun e w' => e = .returned (.bool (decide (m = 0))) /\ w' = w := Any.slices_Equal_string_empty Tryz.lays193 a1 a2 c m d w hbig2
open Go.RowKit Go.Sort in
theorem Tryz.slices_Sort_string_none (p : Option Addr) (cap : Nat) (w : World) :
  Calls Tryz.prog 152 #[.slice p 0 cap] w fun e w' => e = .returned (.tuple #[]) /\ w' = w := Any.slices_Sort_string_none Tryz.lays190 p cap w
open Go.RowKit Go.Lib in
theorem Tryz.slices_Equal_string_lens (a1 a2 : Option Addr) (n c m d : Nat) (w : World) (hnm : n ≠ m) :
  Calls Tryz.prog 106 #[.slice a1 n c, .slice a2 m d] w fun e w' => e = .returned (.bool false) /\ w' = w := Any.slices_Equal_string_lens Tryz.lays193 a1 a2 n c m d w hnm
def Tryz.laysSlH6_f96_ren : Go.Shelf.Ren := ⟨fun | 6 => 169 | n => n, fun | 22 => 24 | 23 => 9 | 25 => 153 | 3 => 3 | 0 => 0 | 4 => 4 | n => n, fun | n => n⟩
theorem Tryz.laysSlH6_f96 : Go.Proofs.SlLaysH.n6 Tryz.prog Tryz.laysSlH6_f96_ren := {
 mixed := by kernel_rfl
 f6 := ⟨Tryz.f169.name, by decide, Tryz.func169.trans (congrArg some (by kernel_rfl))⟩
 t0 := Tryz.underlying0
 a0 := Tryz.isAgg0
 z0 := Tryz.sizeOf0
 v0 := Tryz.zeroValue0
 t3 := Tryz.underlying3
 a3 := Tryz.isAgg3
 z3 := Tryz.sizeOf3
 v3 := Tryz.zeroValue3
 t4 := Tryz.underlying4
 a4 := Tryz.isAgg4
 z4 := Tryz.sizeOf4
 v4 := Tryz.zeroValue4
 t22 := Tryz.underlying24
 a22 := Tryz.isAgg24
 z22 := Tryz.sizeOf24
 v22 := Tryz.zeroValue24
 a23 := Tryz.isAgg9
 z23 := Tryz.sizeOf9
 t25 := Tryz.underlying153
 a25 := Tryz.isAgg153
 z25 := Tryz.sizeOf153
 v25 := Tryz.zeroValue153 }
open Go.RowKit Go.Lib in
theorem Tryz.slices_IndexFunc_empty {α : Type} [Inhabited α] (a : Option Addr) (c : Nat) (fv : Value) (w : World) :
  Calls Tryz.prog 169 #[.slice a 0 c, fv] w fun e w' => e = .returned (.int .i64 (-1)) /\ w' = w := AnyE.slices_IndexFunc_empty Tryz.laysSlH6_f96 a c fv w
def Tryz.laysSlH10_f64_ren : Go.Shelf.Ren := ⟨fun | 10 => 113 | 6 => 169 | n => n, fun | 22 => 24 | 23 => 9 | 25 => 153 | 3 => 3 | 4 => 4 | 0 => 0 | n => n, fun | n => n⟩
theorem Tryz.laysSlH10_f64 : Go.Proofs.SlLaysH.n10 Tryz.prog Tryz.laysSlH10_f64_ren := {
 mixed := by kernel_rfl
 f6 := ⟨Tryz.f169.name, by decide, Tryz.func169.trans (congrArg some (by kernel_rfl))⟩
 f10 := ⟨Tryz.f113.name, by decide, Tryz.func113.trans (congrArg some (by kernel_rfl))⟩
 t0 := Tryz.underlying0
 a0 := Tryz.isAgg0
 z0 := Tryz.sizeOf0
 v0 := Tryz.zeroValue0
 t3 := Tryz.underlying3
 a3 := Tryz.isAgg3
 z3 := Tryz.sizeOf3
 v3 := Tryz.zeroValue3
 t4 := Tryz.underlying4
 a4 := Tryz.isAgg4
 z4 := Tryz.sizeOf4
 v4 := Tryz.zeroValue4
 t22 := Tryz.underlying24
 a22 := Tryz.isAgg24
 z22 := Tryz.sizeOf24
 v22 := Tryz.zeroValue24
 a23 := Tryz.isAgg9
 z23 := Tryz.sizeOf9
 t25 := Tryz.underlying153
 a25 := Tryz.isAgg153
 z25 := Tryz.sizeOf153
 v25 := Tryz.zeroValue153 }
open Go.RowKit Go.Lib Go.Sort in
theorem Tryz.slices_DeleteFunc {α : Type} [Inhabited α] (enc : α -> Value) (hO : OneCell enc) (p : α -> Bool) (g : Nat) (lb : Array Value) (eg : ∀ args w, (callFunc g args).run Tryz.prog w = .ok (.enter g args) w) (zr : α) (v23 : ∀ w, (zeroValue 9).run Tryz.prog w = .ok (enc zr) w) (blk off cap : Nat) (d : Array α) (w : World) (hp : PredAt Tryz.prog g lb enc p w) (hpo : PredOver Tryz.prog g lb enc p blk off d.size w) (hH : Holds enc w blk off d) (hsz : d.size <= 9223372036854775807) (hcap : d.size <= cap) :
  Calls Tryz.prog 113 #[.slice (some ⟨blk, off, none⟩) d.size cap, .func (.func g) #[] lb] w fun e w' => e = .returned (.slice (some ⟨blk, off, none⟩) (d.toList.filter fun x => !p x).length cap) /\ ∃ q, w' = putRow enc (Sort.ahead w q) blk off ((d.toList.filter fun x => !p x) ++ List.replicate (d.size - (d.toList.filter fun x => !p x).length) zr).toArray := AnyE.slices_DeleteFunc Tryz.laysSlH10_f64 enc hO p g lb eg zr v23 blk off cap d w hp hpo hH hsz hcap
def Tryz.laysSlF6_f99_ren : Go.Shelf.Ren := ⟨fun | 6 => 161 | 15 => 155 | 14 => 200 | 28 => 198 | 29 => 199 | 20 => 228 | 21 => 229 | 22 => 230 | 23 => 231 | 24 => 232 | 25 => 233 | 26 => 234 | 27 => 235 | 46 => 258 | 47 => 224 | 48 => 225 | 49 => 259 | 50 => 260 | 57 => 271 | n => n, fun | 22 => 157 | 24 => 3 | 25 => 143 | 3 => 3 | 39 => 190 | 0 => 0 | 53 => 221 | 55 => 223 | 4 => 4 | 46 => 215 | 45 => 214 | 50 => 140 | 5 => 5 | 9 => 9 | 66 => 244 | 70 => 248 | 76 => 270 | 77 => 271 | n => n, fun | n => n⟩
theorem Tryz.laysSlF6_f99 : Go.Proofs.SlLaysF.n6 Tryz.prog Tryz.laysSlF6_f99_ren := {
 mixed := by kernel_rfl
 f6 := ⟨Tryz.f161.name, by decide, Tryz.func161.trans (congrArg some (by kernel_rfl))⟩
 f14 := ⟨Tryz.f200.name, by decide, Tryz.func200.trans (congrArg some (by kernel_rfl))⟩
 f15 := Tryz.func155.trans (congrArg some (by kernel_rfl))
 f20 := ⟨Tryz.f228.name, by decide, Tryz.func228.trans (congrArg some (by kernel_rfl))⟩
 f21 := ⟨Tryz.f229.name, by decide, Tryz.func229.trans (congrArg some (by kernel_rfl))⟩
 f22 := ⟨Tryz.f230.name, by decide, Tryz.func230.trans (congrArg some (by kernel_rfl))⟩
 f23 := ⟨Tryz.f231.name, by decide, Tryz.func231.trans (congrArg some (by kernel_rfl))⟩
 f24 := ⟨Tryz.f232.name, by decide, Tryz.func232.trans (congrArg some (by kernel_rfl))⟩
 f25 := ⟨Tryz.f233.name, by decide, Tryz.func233.trans (congrArg some (by kernel_rfl))⟩
 f26 := ⟨Tryz.f234.name, by decide, Tryz.func234.trans (congrArg some (by kernel_rfl))⟩
 f27 := ⟨Tryz.f235.name, by decide, Tryz.func235.trans (congrArg some (by kernel_rfl))⟩
 f28 := Tryz.func198.trans (congrArg some (by kernel_rfl))
 f29 := Tryz.func199.trans (congrArg some (by kernel_rfl))
 f46 := ⟨Tryz.f258.name, by decide, Tryz.func258.trans (congrArg some (by kernel_rfl))⟩
 f47 := Tryz.func224.trans (congrArg some (by kernel_rfl))
 f48 := Tryz.func225.trans (congrArg some (by kernel_rfl))
 f49 := ⟨Tryz.f259.name, by decide, Tryz.func259.trans (congrArg some (by kernel_rfl))⟩
 f50 := ⟨Tryz.f260.name, by decide, Tryz.func260.trans (congrArg some (by kernel_rfl))⟩
 f57 := ⟨Tryz.f271.name, by decide, Tryz.func271.trans (congrArg some (by kernel_rfl))⟩
 t0 := Tryz.underlying0
 a0 := Tryz.isAgg0
 z0 := Tryz.sizeOf0
 v0 := Tryz.zeroValue0
 t3 := Tryz.underlying3
 a3 := Tryz.isAgg3
 z3 := Tryz.sizeOf3
 v3 := Tryz.zeroValue3
 t4 := Tryz.underlying4
 a4 := Tryz.isAgg4
 z4 := Tryz.sizeOf4
 v4 := Tryz.zeroValue4
 t5 := Tryz.underlying5
 a5 := Tryz.isAgg5
 z5 := Tryz.sizeOf5
 v5 := Tryz.zeroValue5
 t9 := Tryz.underlying9
 a9 := Tryz.isAgg9
 z9 := Tryz.sizeOf9
 v9 := Tryz.zeroValue9
 t22 := Tryz.underlying157
 a22 := Tryz.isAgg157
 z22 := Tryz.sizeOf157
 v22 := Tryz.zeroValue157
 a24 := Tryz.isAgg3
 z24 := Tryz.sizeOf3
 t25 := Tryz.underlying143
 a25 := Tryz.isAgg143
 z25 := Tryz.sizeOf143
 v25 := Tryz.zeroValue143
 t39 := Tryz.underlying190
 a39 := Tryz.isAgg190
 z39 := Tryz.sizeOf190
 v39 := Tryz.zeroValue190
 t45 := Tryz.underlying214
 a45 := Tryz.isAgg214
 z45 := Tryz.sizeOf214
 v45 := Tryz.zeroValue214
 t46 := Tryz.underlying215
 a46 := Tryz.isAgg215
 z46 := Tryz.sizeOf215
 v46 := Tryz.zeroValue215
 t50 := Tryz.underlying140
 a50 := Tryz.isAgg140
 z50 := Tryz.sizeOf140
 v50 := Tryz.zeroValue140
 t53 := Tryz.underlying221
 a53 := Tryz.isAgg221
 z53 := Tryz.sizeOf221
 v53 := Tryz.zeroValue221
 t55 := Tryz.underlying223
 a55 := Tryz.isAgg223
 z55 := Tryz.sizeOf223
 v55 := Tryz.zeroValue223
 t66 := Tryz.underlying244
 a66 := Tryz.isAgg244
 z66 := Tryz.sizeOf244
 v66 := Tryz.zeroValue244
 t70 := Tryz.underlying248
 a70 := Tryz.isAgg248
 z70 := Tryz.sizeOf248
 v70 := Tryz.zeroValue248
 t76 := Tryz.underlying270
 a76 := Tryz.isAgg270
 z76 := Tryz.sizeOf270
 v76 := Tryz.zeroValue270
 t77 := Tryz.underlying271
 a77 := Tryz.isAgg271
 z77 := Tryz.sizeOf271
 v77 := Tryz.zeroValue271 }
open Go.RowKit Go.Lib Go.Sort in
theorem Tryz.slices_SortFunc {α : Type} [Inhabited α] (enc : α -> Value) (h1 : OneCell enc) (cf : α -> α -> Int) (hO : SWO (ltOf cf)) (g : Nat) (cb : Array Value) (blk off cap : Nat) (d : Array α) (w : World) (eg : ∀ args w, (callFunc g args).run Tryz.prog w = .ok (.enter g args) w) (hcmp : CmpLays1 Tryz.prog g cb enc cf blk off d.size w) (hH : Holds enc w blk off d) (hblk : blk < w.heap.size) (hsz : d.size < 4611686018427387904) :
  Calls Tryz.prog 161 #[.slice (some ⟨blk, off, none⟩) d.size cap, .func (.func g) #[] cb] w fun e w' =>
   e = .returned (.tuple #[]) /\ ∃ d' n os, PermIn 0 d.size d d' /\ SortedIn (ltOf cf) 0 d.size d' /\ w' = sortWorld enc w blk off n d' os := Any.slices_SortFunc Tryz.laysSlF6_f99 enc h1 cf hO g cb blk off cap d w eg hcmp hH hblk hsz
def Tryz.laysSlF06_f99_ren : Go.Shelf.Ren := ⟨fun | 6 => 161 | 15 => 155 | 14 => 200 | 28 => 198 | 29 => 199 | 20 => 228 | 21 => 229 | 22 => 230 | 23 => 231 | 24 => 232 | 25 => 233 | 26 => 234 | 27 => 235 | 46 => 258 | 47 => 224 | 48 => 225 | 49 => 259 | 50 => 260 | 57 => 271 | n => n, fun | 22 => 157 | 24 => 3 | 25 => 143 | 3 => 3 | 39 => 190 | 0 => 0 | 53 => 221 | 55 => 223 | 4 => 4 | 46 => 215 | 45 => 214 | 50 => 140 | 5 => 5 | 9 => 9 | 66 => 244 | 70 => 248 | 76 => 270 | 77 => 271 | n => n, fun | n => n⟩
theorem Tryz.laysSlF06_f99 : Go.Proofs.SlLaysF0.n6 Tryz.prog Tryz.laysSlF06_f99_ren := {
 mixed := by kernel_rfl
 f6 := ⟨Tryz.f161.name, by decide, Tryz.func161.trans (congrArg some (by kernel_rfl))⟩
 f14 := ⟨Tryz.f200.name, by decide, Tryz.func200.trans (congrArg some (by kernel_rfl))⟩
 f15 := Tryz.func155.trans (congrArg some (by kernel_rfl))
 f20 := ⟨Tryz.f228.name, by decide, Tryz.func228.trans (congrArg some (by kernel_rfl))⟩
 f21 := ⟨Tryz.f229.name, by decide, Tryz.func229.trans (congrArg some (by kernel_rfl))⟩
 f22 := ⟨Tryz.f230.name, by decide, Tryz.func230.trans (congrArg some (by kernel_rfl))⟩
 f23 := ⟨Tryz.f231.name, by decide, Tryz.func231.trans (congrArg some (by kernel_rfl))⟩
 f24 := ⟨Tryz.f232.name, by decide, Tryz.func232.trans (congrArg some (by kernel_rfl))⟩
 f25 := ⟨Tryz.f233.name, by decide, Tryz.func233.trans (congrArg some (by kernel_rfl))⟩
 f26 := ⟨Tryz.f234.name, by decide, Tryz.func234.trans (congrArg some (by kernel_rfl))⟩
 f27 := ⟨Tryz.f235.name, by decide, Tryz.func235.trans (congrArg some (by kernel_rfl))⟩
 f28 := Tryz.func198.trans (congrArg some (by kernel_rfl))
 f29 := Tryz.func199.trans (congrArg some (by kernel_rfl))
 f46 := ⟨Tryz.f258.name, by decide, Tryz.func258.trans (congrArg some (by kernel_rfl))⟩
 f47 := Tryz.func224.trans (congrArg some (by kernel_rfl))
 f48 := Tryz.func225.trans (congrArg some (by kernel_rfl))
 f49 := ⟨Tryz.f259.name, by decide, Tryz.func259.trans (congrArg some (by kernel_rfl))⟩
 f50 := ⟨Tryz.f260.name, by decide, Tryz.func260.trans (congrArg some (by kernel_rfl))⟩
 f57 := ⟨Tryz.f271.name, by decide, Tryz.func271.trans (congrArg some (by kernel_rfl))⟩
 t0 := Tryz.underlying0
 a0 := Tryz.isAgg0
 z0 := Tryz.sizeOf0
 v0 := Tryz.zeroValue0
 t3 := Tryz.underlying3
 a3 := Tryz.isAgg3
 z3 := Tryz.sizeOf3
 v3 := Tryz.zeroValue3
 t4 := Tryz.underlying4
 a4 := Tryz.isAgg4
 z4 := Tryz.sizeOf4
 v4 := Tryz.zeroValue4
 t5 := Tryz.underlying5
 a5 := Tryz.isAgg5
 z5 := Tryz.sizeOf5
 v5 := Tryz.zeroValue5
 t9 := Tryz.underlying9
 a9 := Tryz.isAgg9
 z9 := Tryz.sizeOf9
 v9 := Tryz.zeroValue9
 t22 := Tryz.underlying157
 a22 := Tryz.isAgg157
 z22 := Tryz.sizeOf157
 v22 := Tryz.zeroValue157
 t25 := Tryz.underlying143
 a25 := Tryz.isAgg143
 z25 := Tryz.sizeOf143
 v25 := Tryz.zeroValue143
 t39 := Tryz.underlying190
 a39 := Tryz.isAgg190
 z39 := Tryz.sizeOf190
 v39 := Tryz.zeroValue190
 t45 := Tryz.underlying214
 a45 := Tryz.isAgg214
 z45 := Tryz.sizeOf214
 v45 := Tryz.zeroValue214
 t46 := Tryz.underlying215
 a46 := Tryz.isAgg215
 z46 := Tryz.sizeOf215
 v46 := Tryz.zeroValue215
 t50 := Tryz.underlying140
 a50 := Tryz.isAgg140
 z50 := Tryz.sizeOf140
 v50 := Tryz.zeroValue140
 t53 := Tryz.underlying221
 a53 := Tryz.isAgg221
 z53 := Tryz.sizeOf221
 v53 := Tryz.zeroValue221
 t55 := Tryz.underlying223
 a55 := Tryz.isAgg223
 z55 := Tryz.sizeOf223
 v55 := Tryz.zeroValue223
 t66 := Tryz.underlying244
 a66 := Tryz.isAgg244
 z66 := Tryz.sizeOf244
 v66 := Tryz.zeroValue244
 t70 := Tryz.underlying248
 a70 := Tryz.isAgg248
 z70 := Tryz.sizeOf248
 v70 := Tryz.zeroValue248
 t76 := Tryz.underlying270
 a76 := Tryz.isAgg270
 z76 := Tryz.sizeOf270
 v76 := Tryz.zeroValue270
 t77 := Tryz.underlying271
 a77 := Tryz.isAgg271
 z77 := Tryz.sizeOf271
 v77 := Tryz.zeroValue271 }
open Go.RowKit Go.Lib Go.Sort in
theorem Tryz.slices_SortFunc_none {α : Type} [Inhabited α] (p : Option Addr) (cap : Nat) (fv : Value) (w : World) :
  Calls Tryz.prog 161 #[.slice p 0 cap, fv] w fun e w' => e = .returned (.tuple #[]) /\ w' = w := AnyF.slices_SortFunc_none Tryz.laysSlF06_f99 p cap fv w
def Tryz.laysSlF6_f101_ren : Go.Shelf.Ren := ⟨fun | 6 => 163 | 15 => 155 | 14 => 201 | 28 => 198 | 29 => 199 | 20 => 236 | 21 => 237 | 22 => 238 | 23 => 239 | 24 => 240 | 25 => 241 | 26 => 242 | 27 => 243 | 46 => 261 | 47 => 224 | 48 => 225 | 49 => 262 | 50 => 263 | 57 => 272 | n => n, fun | 22 => 32 | 24 => 81 | 25 => 180 | 3 => 3 | 39 => 190 | 0 => 0 | 53 => 221 | 55 => 223 | 4 => 4 | 46 => 215 | 45 => 214 | 50 => 140 | 5 => 5 | 9 => 9 | 66 => 244 | 70 => 248 | 76 => 270 | 77 => 271 | n => n, fun | n => n⟩
theorem Tryz.laysSlF6_f101 : Go.Proofs.SlLaysF.n6 Tryz.prog Tryz.laysSlF6_f101_ren := {
 mixed := by kernel_rfl
 f6 := ⟨Tryz.f163.name, by decide, Tryz.func163.trans (congrArg some (by kernel_rfl))⟩
 f14 := ⟨Tryz.f201.name, by decide, Tryz.func201.trans (congrArg some (by kernel_rfl))⟩
 f15 := Tryz.func155.trans (congrArg some (by kernel_rfl))
 f20 := ⟨Tryz.f236.name, by decide, Tryz.func236.trans (congrArg some (by kernel_rfl))⟩
 f21 := ⟨Tryz.f237.name, by decide, Tryz.func237.trans (congrArg some (by kernel_rfl))⟩
 f22 := ⟨Tryz.f238.name, by decide, Tryz.func238.trans (congrArg some (by kernel_rfl))⟩
 f23 := ⟨Tryz.f239.name, by decide, Tryz.func239.trans (congrArg some (by kernel_rfl))⟩
 f24 := ⟨Tryz.f240.name, by decide, Tryz.func240.trans (congrArg some (by kernel_rfl))⟩
 f25 := ⟨Tryz.f241.name, by decide, Tryz.func241.trans (congrArg some (by kernel_rfl))⟩
 f26 := ⟨Tryz.f242.name, by decide, Tryz.func242.trans (congrArg some (by kernel_rfl))⟩
 f27 := ⟨Tryz.f243.name, by decide, Tryz.func243.trans (congrArg some (by kernel_rfl))⟩
 f28 := Tryz.func198.trans (congrArg some (by kernel_rfl))
 f29 := Tryz.func199.trans (congrArg some (by kernel_rfl))
 f46 := ⟨Tryz.f261.name, by decide, Tryz.func261.trans (congrArg some (by kernel_rfl))⟩
 f47 := Tryz.func224.trans (congrArg some (by kernel_rfl))
 f48 := Tryz.func225.trans (congrArg some (by kernel_rfl))
 f49 := ⟨Tryz.f262.name, by decide, Tryz.func262.trans (congrArg some (by kernel_rfl))⟩
 f50 := ⟨Tryz.f263.name, by decide, Tryz.func263.trans (congrArg some (by kernel_rfl))⟩
 f57 := ⟨Tryz.f272.name, by decide, Tryz.func272.trans (congrArg some (by kernel_rfl))⟩
 t0 := Tryz.underlying0
 a0 := Tryz.isAgg0
 z0 := Tryz.sizeOf0
 v0 := Tryz.zeroValue0
 t3 := Tryz.underlying3
 a3 := Tryz.isAgg3
 z3 := Tryz.sizeOf3
 v3 := Tryz.zeroValue3
 t4 := Tryz.underlying4
 a4 := Tryz.isAgg4
 z4 := Tryz.sizeOf4
 v4 := Tryz.zeroValue4
 t5 := Tryz.underlying5
 a5 := Tryz.isAgg5
 z5 := Tryz.sizeOf5
 v5 := Tryz.zeroValue5
 t9 := Tryz.underlying9
 a9 := Tryz.isAgg9
 z9 := Tryz.sizeOf9
 v9 := Tryz.zeroValue9
 t22 := Tryz.underlying32
 a22 := Tryz.isAgg32
 z22 := Tryz.sizeOf32
 v22 := Tryz.zeroValue32
 a24 := Tryz.isAgg81
 z24 := Tryz.sizeOf81
 t25 := Tryz.underlying180
 a25 := Tryz.isAgg180
 z25 := Tryz.sizeOf180
 v25 := Tryz.zeroValue180
 t39 := Tryz.underlying190
 a39 := Tryz.isAgg190
 z39 := Tryz.sizeOf190
 v39 := Tryz.zeroValue190
 t45 := Tryz.underlying214
 a45 := Tryz.isAgg214
 z45 := Tryz.sizeOf214
 v45 := Tryz.zeroValue214
 t46 := Tryz.underlying215
 a46 := Tryz.isAgg215
 z46 := Tryz.sizeOf215
 v46 := Tryz.zeroValue215
 t50 := Tryz.underlying140
 a50 := Tryz.isAgg140
 z50 := Tryz.sizeOf140
 v50 := Tryz.zeroValue140
 t53 := Tryz.underlying221
 a53 := Tryz.isAgg221
 z53 := Tryz.sizeOf221
 v53 := Tryz.zeroValue221
 t55 := Tryz.underlying223
 a55 := Tryz.isAgg223
 z55 := Tryz.sizeOf223
 v55 := Tryz.zeroValue223
 t66 := Tryz.underlying244
 a66 := Tryz.isAgg244
 z66 := Tryz.sizeOf244
 v66 := Tryz.zeroValue244
 t70 := Tryz.underlying248
 a70 := Tryz.isAgg248
 z70 := Tryz.sizeOf248
 v70 := Tryz.zeroValue248
 t76 := Tryz.underlying270
 a76 := Tryz.isAgg270
 z76 := Tryz.sizeOf270
 v76 := Tryz.zeroValue270
 t77 := Tryz.underlying271
 a77 := Tryz.isAgg271
 z77 := Tryz.sizeOf271
 v77 := Tryz.zeroValue271 }
def Tryz.laysSlF06_f101_ren : Go.Shelf.Ren := ⟨fun | 6 => 163 | 15 => 155 | 14 => 201 | 28 => 198 | 29 => 199 | 20 => 236 | 21 => 237 | 22 => 238 | 23 => 239 | 24 => 240 | 25 => 241 | 26 => 242 | 27 => 243 | 46 => 261 | 47 => 224 | 48 => 225 | 49 => 262 | 50 => 263 | 57 => 272 | n => n, fun | 22 => 32 | 24 => 81 | 25 => 180 | 3 => 3 | 39 => 190 | 0 => 0 | 53 => 221 | 55 => 223 | 4 => 4 | 46 => 215 | 45 => 214 | 50 => 140 | 5 => 5 | 9 => 9 | 66 => 244 | 70 => 248 | 76 => 270 | 77 => 271 | n => n, fun | n => n⟩
theorem Tryz.laysSlF06_f101 : Go.Proofs.SlLaysF0.n6 Tryz.prog Tryz.laysSlF06_f101_ren := {
 mixed := by kernel_rfl
 f6 := ⟨Tryz.f163.name, by decide, Tryz.func163.trans (congrArg some (by kernel_rfl))⟩
 f14 := ⟨Tryz.f201.name, by decide, Tryz.func201.trans (congrArg some (by kernel_rfl))⟩
 f15 := Tryz.func155.trans (congrArg some (by kernel_rfl))
 f20 := ⟨Tryz.f236.name, by decide, Tryz.func236.trans (congrArg some (by kernel_rfl))⟩
 f21 := ⟨Tryz.f237.name, by decide, Tryz.func237.trans (congrArg some (by kernel_rfl))⟩
 f22 := ⟨Tryz.f238.name, by decide, Tryz.func238.trans (congrArg some (by kernel_rfl))⟩
 f23 := ⟨Tryz.f239.name, by decide, Tryz.func239.trans (congrArg some (by kernel_rfl))⟩
 f24 := ⟨Tryz.f240.name, by decide, Tryz.func240.trans (congrArg some (by kernel_rfl))⟩
 f25 := ⟨Tryz.f241.name, by decide, Tryz.func241.trans (congrArg some (by kernel_rfl))⟩
 f26 := ⟨Tryz.f242.name, by decide, Tryz.func242.trans (congrArg some (by kernel_rfl))⟩
 f27 := ⟨Tryz.f243.name, by decide, Tryz.func243.trans (congrArg some (by kernel_rfl))⟩
 f28 := Tryz.func198.trans (congrArg some (by kernel_rfl))
 f29 := Tryz.func199.trans (congrArg some (by kernel_rfl))
 f46 := ⟨Tryz.f261.name, by decide, Tryz.func261.trans (congrArg some (by kernel_rfl))⟩
 f47 := Tryz.func224.trans (congrArg some (by kernel_rfl))
 f48 := Tryz.func225.trans (congrArg some (by kernel_rfl))
 f49 := ⟨Tryz.f262.name, by decide, Tryz.func262.trans (congrArg some (by kernel_rfl))⟩
 f50 := ⟨Tryz.f263.name, by decide, Tryz.func263.trans (congrArg some (by kernel_rfl))⟩
 f57 := ⟨Tryz.f272.name, by decide, Tryz.func272.trans (congrArg some (by kernel_rfl))⟩
 t0 := Tryz.underlying0
 a0 := Tryz.isAgg0
 z0 := Tryz.sizeOf0
 v0 := Tryz.zeroValue0
 t3 := Tryz.underlying3
 a3 := Tryz.isAgg3
 z3 := Tryz.sizeOf3
 v3 := Tryz.zeroValue3
 t4 := Tryz.underlying4
 a4 := Tryz.isAgg4
 z4 := Tryz.sizeOf4
 v4 := Tryz.zeroValue4
 t5 := Tryz.underlying5
 a5 := Tryz.isAgg5
 z5 := Tryz.sizeOf5
 v5 := Tryz.zeroValue5
 t9 := Tryz.underlying9
 a9 := Tryz.isAgg9
 z9 := Tryz.sizeOf9
 v9 := Tryz.zeroValue9
 t22 := Tryz.underlying32
 a22 := Tryz.isAgg32
 z22 := Tryz.sizeOf32
 v22 := Tryz.zeroValue32
 t25 := Tryz.underlying180
 a25 := Tryz.isAgg180
 z25 := Tryz.sizeOf180
 v25 := Tryz.zeroValue180
 t39 := Tryz.underlying190
 a39 := Tryz.isAgg190
 z39 := Tryz.sizeOf190
 v39 := Tryz.zeroValue190
 t45 := Tryz.underlying214
 a45 := Tryz.isAgg214
 z45 := Tryz.sizeOf214
 v45 := Tryz.zeroValue214
 t46 := Tryz.underlying215
 a46 := Tryz.isAgg215
 z46 := Tryz.sizeOf215
 v46 := Tryz.zeroValue215
 t50 := Tryz.underlying140
 a50 := Tryz.isAgg140
 z50 := Tryz.sizeOf140
 v50 := Tryz.zeroValue140
 t53 := Tryz.underlying221
 a53 := Tryz.isAgg221
 z53 := Tryz.sizeOf221
 v53 := Tryz.zeroValue221
 t55 := Tryz.underlying223
 a55 := Tryz.isAgg223
 z55 := Tryz.sizeOf223
 v55 := Tryz.zeroValue223
 t66 := Tryz.underlying244
 a66 := Tryz.isAgg244
 z66 := Tryz.sizeOf244
 v66 := Tryz.zeroValue244
 t70 := Tryz.underlying248
 a70 := Tryz.isAgg248
 z70 := Tryz.sizeOf248
 v70 := Tryz.zeroValue248
 t76 := Tryz.underlying270
 a76 := Tryz.isAgg270
 z76 := Tryz.sizeOf270
 v76 := Tryz.zeroValue270
 t77 := Tryz.underlying271
 a77 := Tryz.isAgg271
 z77 := Tryz.sizeOf271
 v77 := Tryz.zeroValue271 }
open Go.RowKit Go.Lib Go.Sort in
theorem Tryz.slices_SortFunc_f101 {α : Type} [Inhabited α] (enc : α -> Value) (h1 : OneCell enc) (cf : α -> α -> Int) (hO : SWO (ltOf cf)) (g : Nat) (cb : Array Value) (blk off cap : Nat) (d : Array α) (w : World) (eg : ∀ args w, (callFunc g args).run Tryz.prog w = .ok (.enter g args) w) (hcmp : CmpLays1 Tryz.prog g cb enc cf blk off d.size w) (hH : Holds enc w blk off d) (hblk : blk < w.heap.size) (hsz : d.size < 4611686018427387904) :
  Calls Tryz.prog 163 #[.slice (some ⟨blk, off, none⟩) d.size cap, .func (.func g) #[] cb] w fun e w' =>
   e = .returned (.tuple #[]) /\ ∃ d' n os, PermIn 0 d.size d d' /\ SortedIn (ltOf cf) 0 d.size d' /\ w' = sortWorld enc w blk off n d' os := Any.slices_SortFunc Tryz.laysSlF6_f101 enc h1 cf hO g cb blk off cap d w eg hcmp hH hblk hsz
open Go.RowKit Go.Lib Go.Sort in
theorem Tryz.slices_SortFunc_none_f101 {α : Type} [Inhabited α] (p : Option Addr) (cap : Nat) (fv : Value) (w : World) :
  Calls Tryz.prog 163 #[.slice p 0 cap, fv] w fun e w' => e = .returned (.tuple #[]) /\ w' = w := AnyF.slices_SortFunc_none Tryz.laysSlF06_f101 p cap fv w
end Go.Proofs

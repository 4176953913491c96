/- The library's contracts at this program (strings.Fields, strings.Split, strings.HasPrefix, strings.IndexByte, slices.Contains): the kit's tool lay-plain.mjs has written the layings; no walk is here. -/
import Derived.Test.YtjeggkfgdhepaaaGreatDoorG01
import Derived.Shelf.Small.Strs
import Derived.Shelf.Strings.Search1
import Derived.Shelf.Strings.Search2
import Derived.Shelf.Strings.Search3
import Derived.Shelf.Strings.Count
import Derived.Shelf.LaysM
import Derived.Shelf.Strings.Shaped
import Derived.Shelf.Strings.Prefix
import Derived.Shelf.Strings.Split
import Derived.Shelf.Strings.Fields
import Derived.Shelf.Strings.SplitShaped
import Derived.Shelf.Slices.Turned
import Derived.Test.YtjeggkfgdhepaaaGreatDoorProg
import Derived.WalkLawsBesides
import Derived.Laws.BytesArg
import Derived.Laws.IdiomStrings
import Derived.Deep.RegionHeld3
import Derived.Deep.AppendLies
import Derived.Deep.CutBlock
set_option linter.unusedVariables false
set_option linter.unusedSimpArgs false
namespace Go.Proofs
open Go.Shelf
def Tryz.lays137_ren : Go.Shelf.Ren:=⟨fun | 137 => 178 | 217 => 171 | 266 => 184 | n => n,fun | 9 => 9 | 5 => 5 | 3 => 3 | n => n,fun | n => n⟩
theorem Tryz.lays137 : Go.Proofs.Lays.n137 Tryz.prog Tryz.lays137_ren:={
 mixed:=by kernel_rfl
 f137:=Tryz.func178.trans (congrArg some (by kernel_rfl))
 f217:=Tryz.func171.trans (congrArg some (by kernel_rfl))
 f266:=Tryz.func184.trans (congrArg some (by kernel_rfl))
 t3:=Tryz.underlying3
 a3:=Tryz.isAgg3
 z3:=Tryz.sizeOf3
 v3:=Tryz.zeroValue3
 t5:=Tryz.underlying5
 a5:=Tryz.isAgg5
 z5:=Tryz.sizeOf5
 v5:=Tryz.zeroValue5
 t9:=Tryz.underlying9
 a9:=Tryz.isAgg9
 z9:=Tryz.sizeOf9
 v9:=Tryz.zeroValue9 }
open Go.RowKit in
theorem Tryz.strings_IndexByte (s : ByteArray) (c : Int) (w : World) :
  Calls Tryz.prog 178 #[.string s,.int .u8 c] w fun e w' => e = .returned (.int .i64 (Lib.indexByte s.data.toList c.toNat.toUInt8)) ∧ w' = w:=Any.strings_IndexByte Tryz.lays137 s c w
def Tryz.lays99_ren : Go.Shelf.Ren:=⟨fun | 99 => 144 | 206 => 157 | n => n,fun | 9 => 9 | 4 => 4 | 3 => 3 | n => n,fun | n => n⟩
theorem Tryz.lays99 : Go.Proofs.Lays.n99 Tryz.prog Tryz.lays99_ren:={
 mixed:=by kernel_rfl
 f99:=Tryz.func144.trans (congrArg some (by kernel_rfl))
 f206:=Tryz.func157.trans (congrArg some (by kernel_rfl))
 t3:=Tryz.underlying3
 a3:=Tryz.isAgg3
 z3:=Tryz.sizeOf3
 v3:=Tryz.zeroValue3
 t4:=Tryz.underlying4
 a4:=Tryz.isAgg4
 z4:=Tryz.sizeOf4
 v4:=Tryz.zeroValue4
 t9:=Tryz.underlying9
 a9:=Tryz.isAgg9
 z9:=Tryz.sizeOf9
 v9:=Tryz.zeroValue9 }
open Go.RowKit Go.Lib in
theorem Tryz.strings_HasPrefix (s p : ByteArray) (w : World) :
  Calls Tryz.prog 144 #[.string s,.string p] w fun e w' => e = .returned (.bool (Lib.hasPrefix s.data.toList p.data.toList)) ∧ w' = w:=Any.strings_HasPrefix Tryz.lays99 s p w
def Tryz.lays146_ren : Go.Shelf.Ren:=⟨fun | 146 => 187 | 221 => 195 | 268 => 201 | 138 => 202 | 143 => 142 | 195 => 204 | 197 => 205 | 218 => 206 | 219 => 156 | 260 => 208 | 217 => 171 | 225 => 172 | 224 => 173 | 267 => 174 | 266 => 184 | 314 => 185 | n => n,fun | 9 => 9 | 31 => 53 | 3 => 3 | 4 => 4 | 0 => 0 | 105 => 243 | 21 => 21 | 5 => 5 | 46 => 200 | 119 => 195 | 139 => 253 | 138 => 252 | 146 => 208 | 51 => 205 | n => n,fun | 1 => 1 | 3 => 5 | 4 => 6 | n => n⟩
theorem Tryz.lays146 : Go.Proofs.Lays.n146 Tryz.prog Tryz.lays146_ren:={
 mixed:=by kernel_rfl
 f138:=Tryz.func202.trans (congrArg some (by kernel_rfl))
 f143:=Tryz.func142.trans (congrArg some (by kernel_rfl))
 f146:=Tryz.func187.trans (congrArg some (by kernel_rfl))
 f195:=Tryz.func204.trans (congrArg some (by kernel_rfl))
 f197:=Tryz.func205.trans (congrArg some (by kernel_rfl))
 f217:=Tryz.func171.trans (congrArg some (by kernel_rfl))
 f218:=Tryz.func206.trans (congrArg some (by kernel_rfl))
 f219:=Tryz.func156.trans (congrArg some (by kernel_rfl))
 f221:=Tryz.func195.trans (congrArg some (by kernel_rfl))
 f224:=Tryz.func173.trans (congrArg some (by kernel_rfl))
 f225:=Tryz.func172.trans (congrArg some (by kernel_rfl))
 f260:=Tryz.func208.trans (congrArg some (by kernel_rfl))
 f266:=Tryz.func184.trans (congrArg some (by kernel_rfl))
 f267:=Tryz.func174.trans (congrArg some (by kernel_rfl))
 f268:=Tryz.func201.trans (congrArg some (by kernel_rfl))
 f314:=Tryz.func185.trans (congrArg some (by kernel_rfl))
 t0:=Tryz.underlying0
 a0:=Tryz.isAgg0
 z0:=Tryz.sizeOf0
 v0:=Tryz.zeroValue0
 t3:=Tryz.underlying3
 a3:=Tryz.isAgg3
 z3:=Tryz.sizeOf3
 v3:=Tryz.zeroValue3
 t4:=Tryz.underlying4
 a4:=Tryz.isAgg4
 z4:=Tryz.sizeOf4
 v4:=Tryz.zeroValue4
 t5:=Tryz.underlying5
 a5:=Tryz.isAgg5
 z5:=Tryz.sizeOf5
 v5:=Tryz.zeroValue5
 t9:=Tryz.underlying9
 a9:=Tryz.isAgg9
 z9:=Tryz.sizeOf9
 v9:=Tryz.zeroValue9
 t21:=Tryz.underlying21
 a21:=Tryz.isAgg21
 z21:=Tryz.sizeOf21
 v21:=Tryz.zeroValue21
 t31:=Tryz.underlying53
 a31:=Tryz.isAgg53
 z31:=Tryz.sizeOf53
 v31:=Tryz.zeroValue53
 t46:=Tryz.underlying200
 a46:=Tryz.isAgg200
 z46:=Tryz.sizeOf200
 v46:=Tryz.zeroValue200
 t51:=Tryz.underlying205
 a51:=Tryz.isAgg205
 z51:=Tryz.sizeOf205
 v51:=Tryz.zeroValue205
 t105:=Tryz.underlying243
 a105:=Tryz.isAgg243
 z105:=Tryz.sizeOf243
 v105:=Tryz.zeroValue243
 t119:=Tryz.underlying195
 a119:=Tryz.isAgg195
 z119:=Tryz.sizeOf195
 t138:=Tryz.underlying252
 a138:=Tryz.isAgg252
 z138:=Tryz.sizeOf252
 v138:=Tryz.zeroValue252
 t139:=Tryz.underlying253
 a139:=Tryz.isAgg253
 z139:=Tryz.sizeOf253
 v139:=Tryz.zeroValue253
 t146:=Tryz.underlying208
 a146:=Tryz.isAgg208
 z146:=Tryz.sizeOf208
 v146:=Tryz.zeroValue208
 g1:=by kernel_rfl
 g3:=by kernel_rfl
 g4:=by kernel_rfl }
open Go.RowKit Go.Lib in
theorem Tryz.strings_Split (s sep : ByteArray) (m : Int) (w : World) (hs : s.size < 4294967281) (hm : w.cell? ⟨1,0,none⟩ = some (.int .i64 m)) (h1 : 1 ≤ sep.size) :
  Calls Tryz.prog 187 #[.string s,.string sep] w fun e w' =>
   e = .returned (.slice (some ⟨w.heap.size,0,none⟩) (Lib.countB s sep + 1) (Lib.countB s sep + 1)) ∧ w' = w.alloc (.cells ((Lib.splitB sep 0 (Lib.countB s sep) s).map Value.string).toArray 9):=Any.strings_Split Tryz.lays146 (by kernel_rfl) s sep m w hs hm h1
def Tryz.laysM157_ren : Go.Shelf.Ren:=⟨fun | 157 => 150 | 229 => 169 | 199 => 170 | 261 => 183 | 311 => 193 | 312 => 194 | n => n,fun | 9 => 9 | 31 => 53 | 3 => 3 | 5 => 5 | 4 => 4 | 119 => 195 | 0 => 0 | 40 => 197 | 152 => 202 | 21 => 21 | 154 => 204 | 51 => 205 | 141 => 207 | 196 => 221 | 193 => 218 | 198 => 224 | 49 => 222 | 194 => 219 | 201 => 227 | 226 => 236 | 46 => 200 | 227 => 237 | n => n,fun | 0 => 0 | 6 => 2 | n => n⟩
theorem Tryz.laysM157 : Go.Proofs.LaysM.n157 Tryz.prog Tryz.laysM157_ren:={
 mixed:=by kernel_rfl
 f157:=Tryz.func150.trans (congrArg some (by kernel_rfl))
 f199:=Tryz.func170.trans (congrArg some (by kernel_rfl))
 f229:=Tryz.func169.trans (congrArg some (by kernel_rfl))
 f261:=Tryz.func183.trans (congrArg some (by kernel_rfl))
 f311:=Tryz.func193.trans (congrArg some (by kernel_rfl))
 f312:=Tryz.func194.trans (congrArg some (by kernel_rfl))
 t0:=Tryz.underlying0
 a0:=Tryz.isAgg0
 z0:=Tryz.sizeOf0
 v0:=Tryz.zeroValue0
 t3:=Tryz.underlying3
 a3:=Tryz.isAgg3
 z3:=Tryz.sizeOf3
 v3:=Tryz.zeroValue3
 t4:=Tryz.underlying4
 a4:=Tryz.isAgg4
 z4:=Tryz.sizeOf4
 v4:=Tryz.zeroValue4
 t5:=Tryz.underlying5
 a5:=Tryz.isAgg5
 z5:=Tryz.sizeOf5
 v5:=Tryz.zeroValue5
 t9:=Tryz.underlying9
 a9:=Tryz.isAgg9
 z9:=Tryz.sizeOf9
 v9:=Tryz.zeroValue9
 t21:=Tryz.underlying21
 a21:=Tryz.isAgg21
 z21:=Tryz.sizeOf21
 v21:=Tryz.zeroValue21
 t31:=Tryz.underlying53
 a31:=Tryz.isAgg53
 z31:=Tryz.sizeOf53
 v31:=Tryz.zeroValue53
 t40:=Tryz.underlying197
 a40:=Tryz.isAgg197
 z40:=Tryz.sizeOf197
 v40:=Tryz.zeroValue197
 t46:=Tryz.underlying200
 a46:=Tryz.isAgg200
 z46:=Tryz.sizeOf200
 v46:=Tryz.zeroValue200
 t49:=Tryz.underlying222
 a49:=Tryz.isAgg222
 z49:=Tryz.sizeOf222
 v49:=Tryz.zeroValue222
 t51:=Tryz.underlying205
 a51:=Tryz.isAgg205
 z51:=Tryz.sizeOf205
 v51:=Tryz.zeroValue205
 t119:=Tryz.underlying195
 a119:=Tryz.isAgg195
 z119:=Tryz.sizeOf195
 t141:=Tryz.underlying207
 a141:=Tryz.isAgg207
 z141:=Tryz.sizeOf207
 v141:=Tryz.zeroValue207
 t152:=Tryz.underlying202
 a152:=Tryz.isAgg202
 z152:=Tryz.sizeOf202
 v152:=Tryz.zeroValue202
 t154:=Tryz.underlying204
 a154:=Tryz.isAgg204
 z154:=Tryz.sizeOf204
 v154:=Tryz.zeroValue204
 t193:=Tryz.underlying218
 a193:=Tryz.isAgg218
 z193:=Tryz.sizeOf218
 v193:=Tryz.zeroValue218
 t194:=Tryz.underlying219
 a194:=Tryz.isAgg219
 z194:=Tryz.sizeOf219
 v194:=Tryz.zeroValue219
 t196:=Tryz.underlying221
 a196:=Tryz.isAgg221
 z196:=Tryz.sizeOf221
 v196:=Tryz.zeroValue221
 t198:=Tryz.underlying224
 a198:=Tryz.isAgg224
 z198:=Tryz.sizeOf224
 v198:=Tryz.zeroValue224
 t201:=Tryz.underlying227
 a201:=Tryz.isAgg227
 z201:=Tryz.sizeOf227
 v201:=Tryz.zeroValue227
 t226:=Tryz.underlying236
 a226:=Tryz.isAgg236
 z226:=Tryz.sizeOf236
 v226:=Tryz.zeroValue236
 t227:=Tryz.underlying237
 a227:=Tryz.isAgg237
 z227:=Tryz.sizeOf237
 v227:=Tryz.zeroValue237
 g0:=by kernel_rfl
 g6:=by kernel_rfl
 i0:=by kernel_rfl
 i3:=by kernel_rfl
 i4:=by kernel_rfl
 i5:=by kernel_rfl
 i9:=by kernel_rfl
 i21:=by kernel_rfl
 i31:=by kernel_rfl
 i40:=by kernel_rfl
 i46:=by kernel_rfl
 i49:=by kernel_rfl
 i51:=by kernel_rfl
 i141:=by kernel_rfl
 i152:=by kernel_rfl
 i154:=by kernel_rfl
 i193:=by kernel_rfl
 i194:=by kernel_rfl
 i196:=by kernel_rfl
 i198:=by kernel_rfl
 i201:=by kernel_rfl
 i226:=by kernel_rfl
 i227:=by kernel_rfl
 m0:=by kernel_rfl
 m6:=by kernel_rfl }
open Go.RowKit Go.Lib in
theorem Tryz.strings_Fields_laid (s : ByteArray) (w : World) (hs : s.size < 4294967281) (hascii : ∀ (j : Nat) b,s.data.toList[j]? = some b → b.toNat < 128) (htab : Lib.TabIs Tryz.prog w "strings.asciiSpace" .u8 Lib.asciiSpaceTab) :
  Calls Tryz.prog 150 #[.string s] w fun e w' =>
   e = .returned (.slice (some ⟨w.heap.size,0,none⟩) (Lib.fields s.data.toList).length (Lib.fields s.data.toList).length) ∧ w' = w.alloc (.cells ((Lib.fields s.data.toList).map fun l => Value.string ⟨l.toArray⟩).toArray 9):=Any.strings_Fields_laid Tryz.laysM157 s w hs hascii htab
def Tryz.lays110_ren : Go.Shelf.Ren:=⟨fun | 110 => 135 | 109 => 153 | n => n,fun | 31 => 53 | 9 => 9 | 4 => 4 | 3 => 3 | 0 => 0 | n => n,fun | n => n⟩
theorem Tryz.lays110 : Go.Proofs.Lays.n110 Tryz.prog Tryz.lays110_ren:={
 mixed:=by kernel_rfl
 f109:=Tryz.func153.trans (congrArg some (by kernel_rfl))
 f110:=Tryz.func135.trans (congrArg some (by kernel_rfl))
 t0:=Tryz.underlying0
 a0:=Tryz.isAgg0
 z0:=Tryz.sizeOf0
 v0:=Tryz.zeroValue0
 t3:=Tryz.underlying3
 a3:=Tryz.isAgg3
 z3:=Tryz.sizeOf3
 v3:=Tryz.zeroValue3
 t4:=Tryz.underlying4
 a4:=Tryz.isAgg4
 z4:=Tryz.sizeOf4
 v4:=Tryz.zeroValue4
 t9:=Tryz.underlying9
 a9:=Tryz.isAgg9
 z9:=Tryz.sizeOf9
 v9:=Tryz.zeroValue9
 t31:=Tryz.underlying53
 a31:=Tryz.isAgg53
 z31:=Tryz.sizeOf53
 v31:=Tryz.zeroValue53 }
open Go.Lib in
theorem Tryz.slices_Contains_string (b off n c : Nat) (zs : List ByteArray) (x : ByteArray) (w : World) (hz : n ≤ zs.length) (hbig : n ≤ 9223372036854775807) (hc : ∀ j,j < zs.length → w.cell? ⟨b,off + j,none⟩ = some (.string (zs.getD j ByteArray.empty))) :
  Calls Tryz.prog 135 #[.slice (some ⟨b,off,none⟩) n c,.string x] w fun e w' => e = .returned (.bool (Lib.containsS (zs.take n) x)) ∧ w' = w:=Any.slices_Contains_string Tryz.lays110 b off n c zs x w hz hbig hc
open Go.Lib in
theorem Tryz.slices_Contains_string_empty (a : Option Addr) (c : Nat) (x : ByteArray) (w : World) :
  Calls Tryz.prog 135 #[.slice a 0 c,.string x] w fun e w' => e = .returned (.bool false) ∧ w' = w:=Any.slices_Contains_string_empty Tryz.lays110 a c x w
end Go.Proofs

namespace Go.Proofs.YtjeggkfgdhepaaaGreatDoor
open Go.RowKit
open Go.Proofs
def keysB : ByteArray:=⟨#[102,110,32,108,101,116,32,105,110,32,102,117,110,32,105,102,32,116,104,101,110,32,101,108,115,101,32,99,97,115,101,32,111,102,32,114,97,105,115,101,32,104,97,110,100,108,101,32,100,97,116,97,116,121,112,101,32,101,120,99,101,112,116,105,111,110,32,118,97,108,32,115,116,114,117,99,116,117,114,101,32,115,116,114,117,99,116,32,101,110,100,32,115,105,103,110,97,116,117,114,101,32,115,105,103,32,116,121,112,101,32,102,117,110,99,116,111,114,32,100,111,32,116,114,117,101,32,102,97,108,115,101,32,105,110,116,32,98,111,111,108,32,117,110,105,116,32,116,101,120,116,32,108,105,115,116,32,97,114,114,97,121,32,115,105,122,101,32,98,121,116,101,32,99,104,97,114,32,115,104,111,119,32,115,97,109,101,32,103,101,116,32,115,101,116,32,108,101,110,103,116,104,32,112,114,105,110,116]⟩
def keyList : List (List UInt8):=[[102,110],[108,101,116],[105,110],[102,117,110],[105,102],[116,104,101,110],[101,108,115,101],[99,97,115,101],[111,102],[114,97,105,115,101],[104,97,110,100,108,101],[100,97,116,97,116,121,112,101],[101,120,99,101,112,116,105,111,110],[118,97,108],[115,116,114,117,99,116,117,114,101],[115,116,114,117,99,116],[101,110,100],[115,105,103,110,97,116,117,114,101],[115,105,103],[116,121,112,101],[102,117,110,99,116,111,114],[100,111],[116,114,117,101],[102,97,108,115,101],[105,110,116],[98,111,111,108],[117,110,105,116],[116,101,120,116],[108,105,115,116],[97,114,114,97,121],[115,105,122,101],[98,121,116,101],[99,104,97,114],[115,104,111,119],[115,97,109,101],[103,101,116],[115,101,116],[108,101,110,103,116,104],[112,114,105,110,116]]
def isKeyL (l : List UInt8) : Bool:=keyList.contains l
def keyRow : List ByteArray:=keyList.map fun l => ⟨l.toArray⟩
theorem keyRow_len : keyRow.length = 39:=by decide
def keyArr : Array Value:=(keyRow.map Value.string).toArray
structure Env (w : World) : Prop where
 tab : Lib.TabIs Tryz.prog w "strings.asciiSpace" .u8 Lib.asciiSpaceTab
 mx : ∃ m,w.cell? ⟨1,0,none⟩ = some (.int .i64 m)
 big : 3 ≤ w.heap.size
theorem space_var : Tryz.prog.globalNamed "strings.asciiSpace" = some 0:=by kernel_rfl
theorem Env.keep {B : Nat} {w w' : World} (h : Env w) (hb : Below B w w') (hB : 3 ≤ B) : Env w':=by
 refine ⟨?_, ?_,Nat.le_trans h.big hb.size⟩
 ·have ht:=h.tab
  unfold Lib.TabIs World.var? at *
  cases hg : Tryz.prog.globalNamed "strings.asciiSpace" with
  | none => rw [hg] at ht; cases ht
  | some g =>
   rw [hg] at ht
   have e:=space_var
   rw [hg] at e
   simp only [Option.some.injEq] at e
   simp only [Option.bind_some] at ht ⊢
   rw [hb.block g (by omega)]
   exact ht
 ·obtain ⟨m,hm⟩:=h.mx
  exact ⟨m,(hb.cell (p:=⟨1,0,none⟩) (by simp; omega)).trans hm⟩
theorem Env.next {w w' : World} (h : Env w) (hb : Below w.heap.size w w') : Env w':=h.keep hb h.big
set_option maxRecDepth 100000 in
theorem fields_keys : Lib.fields keysB.data.toList = keyList:=by decide +kernel
set_option maxRecDepth 100000 in
theorem fields_ascii : ∀ (j : Nat) b,keysB.data.toList[j]? = some b → b.toNat < 128:=by
 intro j b h
 have hm:=List.mem_of_getElem? h
 have hall : keysB.data.toList.all (fun b => decide (b.toNat < 128)) = true:=by decide +kernel
 simpa using List.all_eq_true.1 hall b hm
set_option maxRecDepth 100000 in
theorem split_list : Lib.splitK [32] 0 38 keysB.data.toList = keyList:=by decide +kernel
set_option maxRecDepth 100000 in
theorem count_list : Lib.count keysB.data.toList [32] = 38:=by decide +kernel
theorem count_keys : Lib.countB keysB ⟨#[32]⟩ = 38:=count_list
theorem bytes_inj : ∀ {l r : List ByteArray},l.map (fun b => b.data.toList) = r.map (fun b => b.data.toList) → l = r
 | [],[],_ => rfl
 | [],_ :: _,h => by simp at h
 | _ :: _,[],h => by simp at h
 | a :: l,b :: r,h => by
  simp only [List.map_cons,List.cons.injEq] at h
  have e : a = b:=by
   cases a; cases b
   simp only [ByteArray.mk.injEq]
   exact Array.toList_inj.1 h.1
  rw [e,bytes_inj h.2]
theorem split_keys : Lib.splitB ⟨#[32]⟩ 0 38 keysB = keyRow:=by
 apply bytes_inj
 rw [Lib.splitB_data]
 have e : keyRow.map (fun b => b.data.toList) = keyList:=by
  unfold keyRow
  rw [List.map_map]
  simp [Function.comp_def]
 rw [e]
 exact split_list
theorem keysB_size : keysB.size < 4294967281:=of_decide_eq_true (by decide +kernel)
theorem keys_fields (w : World) (h : Env w) : Calls Tryz.prog 150 #[.string keysB] w fun e w' => e = .returned (.slice (some ⟨w.heap.size,0,none⟩) 39 39) ∧ w' = w.alloc (.cells keyArr 9):=by
 refine (Tryz.strings_Fields_laid keysB w keysB_size fields_ascii h.tab).mono ?_
 rintro e w' ⟨rfl,rfl⟩
 rw [fields_keys]
 refine ⟨rfl, ?_⟩
 unfold keyArr keyRow
 rw [List.map_map]
 rfl
theorem keys_split (w : World) (h : Env w) : Calls Tryz.prog 187 #[.string keysB,.string ⟨#[32]⟩] w fun e w' => e = .returned (.slice (some ⟨w.heap.size,0,none⟩) 39 39) ∧ w' = w.alloc (.cells keyArr 9):=by
 obtain ⟨m,hm⟩:=h.mx
 refine (Tryz.strings_Split keysB ⟨#[32]⟩ m w keysB_size hm (by decide)).mono ?_
 rintro e w' ⟨rfl,rfl⟩
 rw [count_keys,split_keys]
 exact ⟨rfl,rfl⟩
theorem key_cell (w : World) (j : Nat) (hj : j < keyRow.length) : (w.alloc (.cells keyArr 9)).cell? ⟨w.heap.size,j,none⟩ = some (.string (keyRow.getD j ByteArray.empty)):=by
 rw [(Blk.new w keyArr 9).cell j]
 unfold keyArr
 simp [hj]
theorem contains_key (s : ByteArray) : Lib.containsS (keyRow.take 39) s = isKeyL s.data.toList:=by
 rw [Bool.eq_iff_iff,Lib.containsS_iff]
 unfold isKeyL
 rw [← keyRow_len,List.take_length,List.contains_iff_mem]
 unfold keyRow
 simp only [List.mem_map]
 constructor
 ·rintro ⟨l,hl,rfl⟩
  simpa using hl
 ·intro h
  exact ⟨_,h,by simp⟩
theorem isKey_any (s : ByteArray) (w : World) (h : Env w) :
  Calls Tryz.prog 166 #[.string s] w fun e w' => e = .returned (.bool (isKeyL s.data.toList)) ∧ Below w.heap.size w w':=by
 have HK:=Lib.hid (keys_fields w h)
 have HC:=Lib.hid (Tryz.slices_Contains_string w.heap.size 0 39 39 keyRow s (w.alloc (.cells keyArr 9)) (by rw [keyRow_len]; omega) (by omega) (fun j hj => by rw [Nat.zero_add]; exact key_cell w j hj))
 clear h
 go_enter Tryz.func166,Tryz.ntmps166
 go_wp2_with fail
 refine Calls.mono HK.out ?_
 rintro e w1 ⟨rfl,rfl⟩
 go_wp2_with fail
 refine Calls.mono HC.out ?_
 rintro e w1 ⟨rfl,rfl⟩
 go_wp2_with fail
 go_ret
 exact ⟨by rw [contains_key]; rfl,(Below.refl _ _).alloc (Nat.le_refl _) _⟩
end Go.Proofs.YtjeggkfgdhepaaaGreatDoor

namespace Go.Proofs.YtjeggkfgdhepaaaGreatDoor
open Go.RowKit
open Go.Proofs
def Kd.txt : Kd → ByteArray
 | .name => ⟨#[110,97,109,101]⟩
 | .con => ⟨#[99,111,110]⟩
 | .key => ⟨#[107,101,121]⟩
def kindN : Option (Nat × Kd) → Nat
 | none => 0
 | some (n,_) => n
def kindT : Option (Nat × Kd) → ByteArray
 | none => ⟨#[]⟩
 | some (_,k) => k.txt
theorem from_extract (s : ByteArray) (k : Nat) : from_ (s.extract k s.size) 0 = from_ s k:=by
 unfold from_
 rw [List.drop_zero,Lib.extract_to_end]
theorem extract_size (s : ByteArray) (k : Nat) : (s.extract k s.size).size = s.size - k:=by simp
theorem take_extract (s : ByteArray) (a n : Nat) : (s.extract a (a + n)).data.toList = (from_ s a).take n:=by
 unfold from_
 rw [Lib.extract_data]
 congr 1
 omega
theorem wordL_from_le (s : ByteArray) (k : Nat) : k ≤ s.size → k + wordL (from_ s k) ≤ s.size:=by
 intro h
 have:=wordL_le (from_ s k)
 have e : (from_ s k).length = s.size - k:=by unfold from_; simp
 omega
theorem from_add (s : ByteArray) (k n : Nat) : (from_ s k).drop n = from_ s (k + n):=by
 unfold from_
 rw [List.drop_drop]
def longAt (s : ByteArray) (k : Nat) : Option (Nat × Kd):=(kindOf isKeyL (k == 0) (from_ s k)).map fun x => (k + x.1,x.2)
theorem longAt_end (s : ByteArray) (k : Nat) (h : s.size ≤ k) : longAt s k = none:=by
 unfold longAt
 rw [from_end s h]
 rfl
theorem longAt_small0 {s : ByteArray} (h0 : 0 < s.size) (hc : smallB s[0] = true) : longAt s 0 = if isKeyL ((from_ s 0).take (wordL (from_ s 0))) then some (wordL (from_ s 0),.key) else some (wordL (from_ s 0),.name):=by
 unfold longAt
 rw [from_lt h0,kindOf_cons,if_pos hc]
 simp only [beq_self_eq_true,Bool.true_and]
 split <;> simp
theorem longAt_small {s : ByteArray} {k : Nat} (hk : k < s.size) (h0 : 0 < k) (hc : smallB s[k] = true) : longAt s k = some (k + wordL (from_ s k),.name):=by
 unfold longAt
 rw [from_lt hk,kindOf_cons,if_pos hc]
 have e : (k == 0) = false:=by simp; omega
 rw [e]
 simp
theorem longAt_none {s : ByteArray} {k : Nat} (hk : k < s.size) (hc : smallB s[k] = false) (hg : greatB s[k] = false) : longAt s k = none:=by
 unfold longAt
 rw [from_lt hk,kindOf_cons,if_neg (by simp [hc]),if_neg (by simp [hg])]
 rfl
theorem longAt_last {s : ByteArray} {k : Nat} (hk : k < s.size) (hc : smallB s[k] = false) (hg : greatB s[k] = true) (he : k + wordL (from_ s k) = s.size) : longAt s k = some (k + wordL (from_ s k),.con):=by
 unfold longAt
 have hd:=from_add s k (wordL (from_ s k))
 rw [he,from_end s (Nat.le_refl _)] at hd
 rw [from_lt hk] at hd ⊢
 rw [kindOf_cons,if_neg (by simp [hc]),if_pos hg,hd]
 rfl
theorem longAt_con {s : ByteArray} {k n : Nat} (hn : wordL (from_ s k) = n) (hk : k < s.size) (hc : smallB s[k] = false) (hg : greatB s[k] = true) (he : k + n < s.size) (hp : s[k + n].toNat ≠ 46) : longAt s k = some (k + n,.con):=by
 subst hn
 unfold longAt
 have hd:=from_add s k (wordL (from_ s k))
 rw [from_lt he] at hd
 generalize s[k + wordL (from_ s k)] = d at hp hd
 rw [from_lt hk] at hd ⊢
 rw [kindOf_cons,if_neg (by simp [hc]),if_pos hg,hd]
 simp only [if_neg hp]
 rfl
theorem longAt_next {s : ByteArray} {k n : Nat} (hn : wordL (from_ s k) = n) (hk : k < s.size) (hc : smallB s[k] = false) (hg : greatB s[k] = true) (he : k + n < s.size) (hp : s[k + n].toNat = 46) : longAt s k = longAt s (k + (n + 1)):=by
 subst hn
 unfold longAt
 have hd:=from_add s k (wordL (from_ s k))
 rw [from_lt he] at hd
 generalize hdd : s[k + wordL (from_ s k)] = d at hp hd
 have e : (k + (wordL (from_ s k) + 1) == 0) = false:=by simp
 have e2 : k + (wordL (from_ s k) + 1) = k + wordL (from_ s k) + 1:=by omega
 rw [e,e2]
 generalize from_ s (k + wordL (from_ s k) + 1) = r at hd ⊢
 have hw : wordL (from_ s k) = wordL (from_ s k):=rfl
 generalize hwn : wordL (from_ s k) = n at hd ⊢
 rw [from_lt hk] at hd hwn ⊢
 rw [kindOf_cons,if_neg (by simp [hc]),if_pos hg,hwn,hd]
 simp only [if_pos hp,Option.map_map]
 congr 1
 funext x
 simp
 omega
def LongPost (w : World) (s : ByteArray) (e : Ending) (w' : World) : Prop:=e = .returned (.tuple #[.int .i64 (kindN (longAt s 0) : Nat),.string (kindT (longAt s 0))]) ∧ Below w.heap.size w w'
set_option maxRecDepth 100000 in
set_option maxHeartbeats 2000000 in
theorem long_any (s : ByteArray) (hs : s.size ≤ 140737488355328) (w : World) (h : Env w) :
  Calls Tryz.prog 146 #[.string s] w (LongPost w s):=by
 have HE:=Lib.hid h
 clear h
 go_enter Tryz.func146,Tryz.ntmps146
 go_wp2_with fail
 go_loopw [4] (fun iv wr => ∃ k : Nat,iv = .int .i64 k ∧ k ≤ s.size ∧ Hid (longAt s 0 = longAt s k) ∧ Hid (Below w.heap.size w wr)) (fun iv _ => s.size - (intOf iv).toNat)
 case atStart => exact ⟨0,rfl,Nat.zero_le _,Lib.hid rfl,Below.refl _ _⟩
 case round =>
  obtain ⟨k,rfl,hk,HL,HB⟩:=hrel
  by_cases hlt : k < s.size
  ·have h0 : (0 : Int) ≤ k ∧ (k : Int) < s.size:=by omega
   have h1 : (k : Int) ≤ s.size:=by omega
   have hword:=word_any (s.extract k s.size) (by rw [extract_size]; omega)
   rw [from_extract] at hword
   have hwle:=wordL_from_le s k hk
   obtain ⟨n,hn⟩ : ∃ n,wordL (from_ s k) = n:=⟨_,rfl⟩
   rw [hn] at hword hwle
   have HW:=Lib.hid hword
   have HN:=Lib.hid hn
   clear hword hn
   obtain ⟨a,ha⟩ : ∃ a,smallB s[k] = a:=⟨_,rfl⟩
   obtain ⟨g,hg⟩ : ∃ g,greatB s[k] = g:=⟨_,rfl⟩
   have ca:=Lib.hid (between_is 97 s[k].toNat 122 a ((small_test s[k]).trans ha))
   have cg:=Lib.hid (between_is 65 s[k].toNat 90 g ((great_test s[k]).trans hg))
   have HA:=Lib.hid ha
   have HG:=Lib.hid hg
   clear ha hg
   go_wp2_with fail
   refine Calls.mono (HW.out _) ?_
   rintro e w1 ⟨rfl,rfl⟩
   go_wp2_with fail
   refine Calls.mono (ca.out _) ?_
   rintro e w1 ⟨rfl,rfl⟩
   cases a
   ·go_wp2_with fail
    refine Calls.mono (cg.out _) ?_
    rintro e w1 ⟨rfl,rfl⟩
    cases g
    ·go_wp2_with fail
     go_ret2
     exact ⟨by rw [HL.out,longAt_none hlt HA.out HG.out]; rfl,HB.out⟩
    ·by_cases he : k + n = s.size
     ·have hb : ((k : Int) + n == (s.size : Int)) = true:=by simp; omega
      go_wp2_with fail
      go_ret2
      refine ⟨?_,HB.out⟩
      rw [HL.out,longAt_last hlt HA.out HG.out (by rw [HN.out]; exact he),HN.out]
      simp only [kindN,kindT,Kd.txt]
      rw [Int.natCast_add]
      rfl
     ·have hlt2 : k + n < s.size:=by omega
      have hb : ((k : Int) + n == (s.size : Int)) = false:=by simp; omega
      have i1 : (0 : Int) ≤ (k : Int) + n ∧ (k : Int) + n < s.size:=by omega
      have i2 : ((k : Int) + n).toNat = k + n:=by omega
      obtain ⟨p,hp⟩ : ∃ p,((s[k + n].toNat : Int) == 46) = p:=⟨_,rfl⟩
      have hp2 : ((s[k + n].toNat : Int) != 46) = !p:=by rw [bne,hp]
      have HP:=Lib.hid hp
      cases p
      ·simp only [Bool.not_false] at hp2
       go_wp2_with fail
       go_ret2
       refine ⟨?_,HB.out⟩
       have hne : s[k + n].toNat ≠ 46:=by
        have e:=HP.out
        intro h
        rw [h] at e
        simp at e
       rw [HL.out,longAt_con HN.out hlt HA.out HG.out hlt2 hne]
       simp only [kindN,kindT,Kd.txt]
       rw [Int.natCast_add]
       rfl
      ·simp only [Bool.not_true] at hp2
       go_wp2_with fail
       refine ⟨⟨k + (n + 1),by go_num,by omega, ?_,HB.out⟩,by simp [intOf]; omega⟩
       have heq : s[k + n].toNat = 46:=by
        have e:=HP.out
        simp only [beq_iff_eq] at e
        omega
       unfold Hid
       rw [HL.out,longAt_next HN.out hlt HA.out HG.out hlt2 heq]
   ·rcases Nat.eq_zero_or_pos k with rfl | hk0
    ·have i1 : (n : Int) ≤ s.size:=by omega
     have hkey:=isKey_any (s.extract 0 n)
     have ht:=take_extract s 0 n
     rw [Nat.zero_add] at ht
     rw [ht] at hkey
     obtain ⟨kb,hkb⟩ : ∃ kb,isKeyL ((from_ s 0).take n) = kb:=⟨_,rfl⟩
     rw [hkb] at hkey
     have HK:=Lib.hid hkey
     have HKB:=Lib.hid hkb
     clear hkey hkb ht
     go_wp2_with fail
     refine Calls.mono (HK.out _ (HE.out.keep HB.out HE.out.big)) ?_
     rintro e w1 ⟨rfl,hb1⟩
     have HB1:=Lib.hid (HB.out.trans (hb1.mono HB.out.size))
     clear hb1
     have hres:=longAt_small0 hlt HA.out
     rw [HN.out,HKB.out] at hres
     have HRes:=Lib.hid hres
     clear hres
     cases kb
     ·go_wp2_with fail
      go_ret2
      refine ⟨?_,HB1.out⟩
      rw [HRes.out]
      simp [kindN,kindT,Kd.txt]
     ·go_wp2_with fail
      go_ret2
      refine ⟨?_,HB1.out⟩
      rw [HRes.out]
      simp [kindN,kindT,Kd.txt]
    ·have hb : ((k : Int) == 0) = false:=by simp; omega
     go_wp2_with fail
     go_ret2
     refine ⟨?_,HB.out⟩
     rw [HL.out,longAt_small hlt hk0 HA.out,HN.out]
     simp only [kindN,kindT,Kd.txt]
     rw [Int.natCast_add]
     rfl
  ·have hk2 : s.size ≤ k:=by omega
   go_wp2_with fail
   go_ret2
   exact ⟨by rw [HL.out,longAt_end s k hk2]; rfl,HB.out⟩
end Go.Proofs.YtjeggkfgdhepaaaGreatDoor

namespace Go.Proofs.YtjeggkfgdhepaaaGreatDoor
open Go.RowKit
open Go.Proofs
theorem toList_loop (s : ByteArray) : ∀ (n i : Nat) (r : List UInt8),s.size - i = n → ByteArray.toList.loop s i r = r.reverse ++ s.data.toList.drop i:=by
 intro n
 induction n with
 | zero =>
  intro i r h
  unfold ByteArray.toList.loop
  rw [if_neg (by omega)]
  have : s.data.toList.drop i = []:=List.drop_eq_nil_of_le (by simp; change s.size ≤ i; omega)
  rw [this]; simp
 | succ n ih =>
  intro i r h
  unfold ByteArray.toList.loop
  have hlt : i < s.size:=by omega
  rw [if_pos hlt,ih (i + 1) _ (by omega)]
  have hl : i < s.data.toList.length:=by simp; exact hlt
  rw [List.drop_eq_getElem_cons hl]
  simp
  have e : s.get! i = s.data[i]'(by simpa using hl):=by
   obtain ⟨a⟩:=s
   show a[i]! = _
   exact getElem!_pos a i (by simpa using hl)
  rw [e]
theorem toList_data (s : ByteArray) : s.toList = s.data.toList:=by
 unfold ByteArray.toList
 rw [toList_loop s _ 0 [] rfl]
 simp
def nameB (s : ByteArray) : Bool:=decide (longAt s 0 = some (s.size,.name))
def conB (s : ByteArray) : Bool:=decide (longAt s 0 = some (s.size,.con))
def kindB (k : Kd) (s : ByteArray) : Bool:=decide (longAt s 0 = some (s.size,k))
def kindT' (r : Option (Nat × Kd)) (k : Kd) : Bool:=match r with | none => false | some (_,k') => decide (k' = k)
theorem kindT_is (r : Option (Nat × Kd)) (k : Kd) : ((kindT r).toList == k.txt.toList) = kindT' r k:=by
 rcases r with _ | ⟨n,k'⟩
 ·cases k <;> simp only [kindT,kindT',Kd.txt] <;> decide +kernel
 ·cases k <;> cases k' <;> simp only [kindT,kindT',Kd.txt] <;> decide +kernel
theorem kindB_is (k : Kd) (s : ByteArray) : ((((kindN (longAt s 0) : Nat) : Int) == (s.size : Int)) && kindT' (longAt s 0) k) = kindB k s:=by
 unfold kindB
 generalize longAt s 0 = r
 rcases r with _ | ⟨n,k'⟩
 ·simp [kindT']
 ·rw [Bool.eq_iff_iff]
  simp [kindN,kindT']
  omega
theorem kindT_name (r : Option (Nat × Kd)) : ((kindT r).toList == [110,97,109,101]) = kindT' r .name:=by
 rw [← kindT_is,show (Kd.txt .name).toList = [110,97,109,101] by decide +kernel]
theorem kindT_con (r : Option (Nat × Kd)) : ((kindT r).toList == [99,111,110]) = kindT' r .con:=by
 rw [← kindT_is,show (Kd.txt .con).toList = [99,111,110] by decide +kernel]
set_option maxRecDepth 100000 in
set_option maxHeartbeats 1000000 in
theorem valid_name (s : ByteArray) (hs : s.size ≤ 140737488355328) (w : World) (h : Env w) :
  Calls Tryz.prog 127 #[.agg #[.string ⟨#[110,97,109,101]⟩,.string s,.int .i64 0]] w fun e w' => e = .returned (.bool (kindB .name s)) ∧ Below w.heap.size w w':=by
 have HE:=Lib.hid h
 clear h
 have HL:=Lib.hid fun w1 (hh : Env w1) => long_any s hs w1 hh
 rw [← kindB_is]
 unfold LongPost at HL
 have ht:=kindT_name (longAt s 0)
 generalize longAt s 0 = r at HL ht ⊢
 obtain ⟨b,hb⟩ : ∃ b,(((kindN r : Nat) : Int) == (s.size : Int)) = b:=⟨_,rfl⟩
 obtain ⟨c,hc⟩ : ∃ c,kindT' r .name = c:=⟨_,rfl⟩
 rw [hc] at ht
 rw [hb,hc]
 clear hc
 cases b <;> cases c
 all_goals
  go_enter Tryz.func127,Tryz.ntmps127
  go_wp2_with fail
  refine Calls.mono (HL.out _ (HE.out.next ((Below.refl _ _).alloc (Nat.le_refl _) _))) ?_
  rintro e w1 ⟨rfl,hb1⟩
  obtain ⟨e0,e1,e2⟩:=Blk.three ((Blk.new w _ _).below hb1 (by simp))
  have hs1 : w.heap.size + 1 ≤ w1.heap.size:=by have:=hb1.size; simpa using this
  have HB1:=Lib.hid (((Below.refl _ _).alloc (Nat.le_refl _) _).trans (hb1.mono (by simp)))
  clear hb1
  go_wp2_with fail
  go_ret
  exact ⟨rfl,HB1.out⟩
theorem is_name (s : ByteArray) (hs : s.size ≤ 140737488355328) (w : World) (h : Env w) :
  Calls Tryz.prog 152 #[.string s] w fun e w' => e = .returned (.bool (kindB .name s)) ∧ Below w.heap.size w w':=by
 have HE:=Lib.hid h
 clear h
 go_enter Tryz.func152,Tryz.ntmps152
 go_wp2_with fail
 refine Calls.mono (valid_name s hs _ HE.out) ?_
 rintro e w1 ⟨rfl,hb1⟩
 have HB1:=Lib.hid hb1
 clear hb1
 go_wp2_with fail
 go_ret
 exact ⟨rfl,HB1.out⟩
set_option maxRecDepth 100000 in
set_option maxHeartbeats 1000000 in
theorem valid_con (s : ByteArray) (hs : s.size ≤ 140737488355328) (w : World) (h : Env w) :
  Calls Tryz.prog 127 #[.agg #[.string ⟨#[99,111,110]⟩,.string s,.int .i64 0]] w fun e w' => e = .returned (.bool (kindB .con s)) ∧ Below w.heap.size w w':=by
 have HE:=Lib.hid h
 clear h
 have HL:=Lib.hid fun w1 (hh : Env w1) => long_any s hs w1 hh
 rw [← kindB_is]
 unfold LongPost at HL
 have ht:=kindT_con (longAt s 0)
 generalize longAt s 0 = r at HL ht ⊢
 obtain ⟨b,hb⟩ : ∃ b,(((kindN r : Nat) : Int) == (s.size : Int)) = b:=⟨_,rfl⟩
 obtain ⟨c,hc⟩ : ∃ c,kindT' r .con = c:=⟨_,rfl⟩
 rw [hc] at ht
 rw [hb,hc]
 clear hc
 cases b <;> cases c
 all_goals
  go_enter Tryz.func127,Tryz.ntmps127
  go_wp2_with fail
  refine Calls.mono (HL.out _ (HE.out.next ((Below.refl _ _).alloc (Nat.le_refl _) _))) ?_
  rintro e w1 ⟨rfl,hb1⟩
  obtain ⟨e0,e1,e2⟩:=Blk.three ((Blk.new w _ _).below hb1 (by simp))
  have hs1 : w.heap.size + 1 ≤ w1.heap.size:=by have:=hb1.size; simpa using this
  have HB1:=Lib.hid (((Below.refl _ _).alloc (Nat.le_refl _) _).trans (hb1.mono (by simp)))
  clear hb1
  go_wp2_with fail
  go_ret
  exact ⟨rfl,HB1.out⟩
theorem is_con (s : ByteArray) (hs : s.size ≤ 140737488355328) (w : World) (h : Env w) :
  Calls Tryz.prog 103 #[.string s] w fun e w' => e = .returned (.bool (kindB .con s)) ∧ Below w.heap.size w w':=by
 have HE:=Lib.hid h
 clear h
 go_enter Tryz.func103,Tryz.ntmps103
 go_wp2_with fail
 refine Calls.mono (valid_con s hs _ HE.out) ?_
 rintro e w1 ⟨rfl,hb1⟩
 have HB1:=Lib.hid hb1
 clear hb1
 go_wp2_with fail
 go_ret
 exact ⟨rfl,HB1.out⟩
set_option maxRecDepth 100000 in
set_option maxHeartbeats 1000000 in
theorem valid_var (s : ByteArray) (hs : s.size ≤ 140737488355328) (w : World) :
  Calls Tryz.prog 127 #[.agg #[.string ⟨#[118,97,114]⟩,.string s,.int .i64 0]] w fun e w' => e = .returned (.bool (isTyVar s)) ∧ Below w.heap.size w w':=by
 by_cases h2 : s.size = 2
 ·have hb : ((s.size : Int) == 2) = true:=by simp; omega
  have i0 : (0 : Int) < s.size:=by omega
  have i1 : (1 : Int) < s.size:=by omega
  obtain ⟨b,h39⟩ : ∃ b,((s[0].toNat : Int) == 39) = b:=⟨_,rfl⟩
  obtain ⟨c,hc⟩ : ∃ c,smallB s[1] = c:=⟨_,rfl⟩
  have ca:=Lib.hid (between_is 97 s[1].toNat 122 c ((small_test s[1]).trans hc))
  have hres : isTyVar s = (b && c):=by
   unfold isTyVar
   have e : s.toList = [s[0],s[1]]:=by
    rw [toList_data]
    have e1:=from_lt (s:=s) (i:=0) (by omega)
    have e2:=from_lt (s:=s) (i:=1) (by omega)
    have e3:=from_end s (i:=2) (by omega)
    rw [e2,e3] at e1
    exact e1
   rw [e]
   simp only [hc]
   congr 1
   rw [← h39,Bool.eq_iff_iff]
   simp
   omega
  rw [hres]
  clear hres hc
  cases b
  ·go_enter Tryz.func127,Tryz.ntmps127
   go_wp2_with fail
   go_ret
   exact ⟨rfl,(Below.refl _ _).alloc (Nat.le_refl _) _⟩
  ·go_enter Tryz.func127,Tryz.ntmps127
   go_wp2_with fail
   refine Calls.mono (ca.out _) ?_
   rintro e w1 ⟨rfl,rfl⟩
   go_wp2_with fail
   go_ret
   exact ⟨rfl,(Below.refl _ _).alloc (Nat.le_refl _) _⟩
 ·have hb : ((s.size : Int) == 2) = false:=by simp; omega
  have hres : isTyVar s = false:=by
   unfold isTyVar
   rw [toList_data]
   have hl : s.data.toList.length = s.size:=by simp
   split
   ·rename_i a b e
    rw [e] at hl
    simp at hl
    omega
   ·rfl
  rw [hres]
  go_enter Tryz.func127,Tryz.ntmps127
  go_wp2_with fail
  go_ret
  exact ⟨rfl,(Below.refl _ _).alloc (Nat.le_refl _) _⟩
theorem isVar_any (s : ByteArray) (hs : s.size ≤ 140737488355328) (w : World) :
  Calls Tryz.prog 130 #[.string s] w fun e w' => e = .returned (.bool (isTyVar s)) ∧ Below w.heap.size w w':=by
 go_enter Tryz.func130,Tryz.ntmps130
 go_wp2_with fail
 refine Calls.mono (valid_var s hs _) ?_
 rintro e w1 ⟨rfl,hb1⟩
 have HB1:=Lib.hid hb1
 clear hb1
 go_wp2_with fail
 go_ret
 exact ⟨rfl,HB1.out⟩
end Go.Proofs.YtjeggkfgdhepaaaGreatDoor

namespace Go.Proofs.YtjeggkfgdhepaaaGreatDoor
open Go.RowKit
open Go.Proofs
set_option maxRecDepth 100000 in
set_option maxHeartbeats 1000000 in
theorem rIsKey_any (s : ByteArray) (w : World) (h : Env w) :
  Calls Tryz.prog 176 #[.string s] w fun e w' => e = .returned (.bool (isKeyL s.data.toList)) ∧ Below w.heap.size w w':=by
 have HK:=Lib.hid (keys_split w h)
 have HC : Hid (∀ j,j < keyRow.length → (w.alloc (.cells keyArr 9)).cell? ⟨w.heap.size,j,none⟩ = some (.string (keyRow.getD j ByteArray.empty))):=Lib.hid fun j hj => key_cell w j hj
 have HB:=Lib.hid ((Below.refl w.heap.size w).alloc (Nat.le_refl _) (.cells keyArr 9))
 clear h
 go_enter Tryz.func176,Tryz.ntmps176
 go_wp2_with fail
 refine Calls.mono HK.out ?_
 rintro e w1 ⟨rfl,rfl⟩
 generalize w.alloc (.cells keyArr 9) = w1 at HC HB ⊢
 go_wp2_with fail
 go_loopw [4] (fun iv wr => ∃ k : Nat,iv = .int .i64 k ∧ k ≤ 39 ∧ Hid (isKeyL s.data.toList = (keyRow.drop k).any fun x => x.toList == s.toList) ∧ wr = w1) (fun iv _ => 39 - (intOf iv).toNat)
 case atStart =>
  refine ⟨0,rfl,by omega, ?_,rfl⟩
  unfold Hid isKeyL keyRow
  rw [Bool.eq_iff_iff,List.contains_iff_mem,List.drop_zero,List.any_map,List.any_eq_true]
  constructor
  ·intro h
   exact ⟨_,h,by simp [toList_data]⟩
  ·rintro ⟨l,hl,he⟩
   simp [toList_data] at he
   rw [← he]
   exact hl
 case round =>
  obtain ⟨k,rfl,hk,HL,rfl⟩:=hrel
  by_cases hlt : k < 39
  ·have hk' : k < keyRow.length:=by rw [keyRow_len]; exact hlt
   have hx:=HC.out k hk'
   have hd : keyRow.drop k = keyRow.getD k ByteArray.empty :: keyRow.drop (k + 1):=by
    rw [List.drop_eq_getElem_cons hk']
    simp [List.getD,hk']
   have hl:=HL.out
   rw [hd] at hl
   generalize keyRow.getD k ByteArray.empty = x at hx hl
   simp only [List.any_cons] at hl
   obtain ⟨b,hb⟩ : ∃ b,(x.toList == s.toList) = b:=⟨_,rfl⟩
   rw [hb] at hl
   have HL2:=Lib.hid hl
   have HD:=Lib.hid hd
   clear hl hd
   cases b
   ·go_wp2_with fail
    exact ⟨⟨k + 1,by go_num,by omega,by have:=HL2.out; rw [Bool.false_or] at this; exact this,trivial⟩,by simp [intOf]; omega⟩
   ·go_wp2_with fail
    go_ret
    exact ⟨by rw [HL2.out]; rfl,HB.out⟩
  ·have hk2 : k = 39:=by omega
   have hl:=HL.out
   rw [hk2,List.drop_eq_nil_of_le (by rw [keyRow_len]; omega)] at hl
   have HL2:=Lib.hid hl
   clear hl hk2
   go_wp2_with fail
   go_ret
   exact ⟨by rw [HL2.out]; rfl,HB.out⟩
theorem word_at {s : ByteArray} {p : Nat} (h : letterAt s p = true) : p < s.size ∧ 1 ≤ wordL (from_ s p):=by
 unfold letterAt at h
 by_cases hlt : p < s.size
 ·refine ⟨hlt, ?_⟩
  rw [from_lt hlt] at h ⊢
  refine wordL_pos ?_
  simp only [Bool.or_eq_true] at h
  rcases h with h | h
  ·exact part_of_small h
  ·exact part_of_great h
 ·rw [from_end s (by omega)] at h
  cases h
theorem letter_not {s : ByteArray} {p : Nat} (h : letterAt s p = false) : longAt s p = none:=by
 by_cases hlt : p < s.size
 ·unfold letterAt at h
  rw [from_lt hlt] at h
  simp only [Bool.or_eq_false_iff] at h
  exact longAt_none hlt h.1 h.2
 ·exact longAt_end s p (by omega)
def NamedI (s : ByteArray) (n : Nat) (last : ByteArray) : Prop:=
 n ≤ s.size ∧ ((last = Kd.txt .con ∧ ∃ k,longAt s 0 = longAt s k ∧ k < n ∧ ∃ h : k < s.size,smallB s[k] = false ∧ greatB s[k] = true ∧ k + wordL (from_ s k) = n) ∨ (last = Kd.txt .name ∧ longAt s 0 = some (n,.name)))
set_option maxRecDepth 100000 in
set_option maxHeartbeats 4000000 in
theorem named_any (s : ByteArray) (hs : s.size ≤ 140737488355328) (hl : letterAt s 0 = true) (w : World) (h : Env w) :
  Calls Tryz.prog 160 #[.string s,.int .i64 0] w (LongPost w s):=by
 have HE:=Lib.hid h
 clear h
 obtain ⟨h0,hpos⟩:=word_at hl
 have hword:=rword_any s hs 0 (by omega)
 rw [if_pos hl] at hword
 have hwle:=wordL_from_le s 0 (Nat.zero_le _)
 obtain ⟨n,hn⟩ : ∃ n,wordL (from_ s 0) = n:=⟨_,rfl⟩
 rw [hn] at hword hwle hpos
 rw [Nat.zero_add] at hwle
 have HW:=Lib.hid hword
 have HN:=Lib.hid hn
 have HLT:=Lib.hid hl
 clear hword hn hl
 have z0 : (0 : Int) < s.size:=by omega
 have z1 : (n : Int) ≤ s.size:=by omega
 obtain ⟨a,ha⟩ : ∃ a,smallB s[0] = a:=⟨_,rfl⟩
 have ca:=rsmall_is s[0]
 rw [ha] at ca
 have CA:=Lib.hid ca
 have HA:=Lib.hid ha
 clear ca ha
 cases a
 ·go_enter Tryz.func160,Tryz.ntmps160
  go_wp2_with fail
  refine Calls.mono (HW.out _) ?_
  rintro e w1 ⟨rfl,rfl⟩
  go_wp2_with fail
  refine Calls.mono (CA.out _) ?_
  rintro e w1 ⟨rfl,rfl⟩
  go_wp2_with fail
  go_loopw [6,7] (fun nv lv wr => ∃ (k : Nat) (last : ByteArray),nv = .int .i64 k ∧ lv = .string last ∧ k ≤ s.size ∧ Hid (NamedI s k last) ∧ wr = w) (fun nv _ _ => s.size - (intOf nv).toNat)
  case atStart =>
   refine ⟨n,_,rfl,rfl,hwle, ?_,rfl⟩
   have hg : greatB s[0] = true:=by
    have h1:=HLT.out
    unfold letterAt at h1
    rw [from_lt h0] at h1
    have h2:=HA.out
    simp only [Bool.or_eq_true] at h1
    rcases h1 with h1 | h1
    ·rw [h2] at h1; cases h1
    ·exact h1
   exact ⟨hwle,.inl ⟨rfl,0,rfl,hpos,h0,HA.out,hg,by rw [HN.out]; omega⟩⟩
  case round =>
   obtain ⟨k,last,rfl,rfl,hk,HI,rfl⟩:=hrel
   rcases HI.out with ⟨-,⟨rfl,j,hj,hjk,hjs,hja,hjg,hjw⟩ | ⟨rfl,hres⟩⟩
   ·have HJ:=Lib.hid hj
    have HJA:=Lib.hid hja
    have HJG:=Lib.hid hjg
    have HJW:=Lib.hid hjw
    clear hj hja hjg hjw
    unfold Kd.txt
    by_cases he : k = s.size
    ·have hb : decide ((k : Int) < (s.size : Int)) = false:=decide_eq_false (by omega)
     have hlt : ¬ (k : Int) < s.size:=by omega
     have HEQ:=Lib.hid he
     clear he
     go_wp2_with fail
     go_ret2
     refine ⟨?_,Below.refl _ _⟩
     rw [HJ.out,longAt_last hjs HJA.out HJG.out (by rw [HJW.out,HEQ.out]),HJW.out]
     rfl
    ·have hlt : k < s.size:=by omega
     have i1 : (0 : Int) ≤ (k : Int) ∧ (k : Int) < s.size:=by omega
     obtain ⟨p,hp⟩ : ∃ p,((s[k].toNat : Int) == 46) = p:=⟨_,rfl⟩
     have HP:=Lib.hid hp
     cases p
     ·go_wp2_with fail
      go_ret2
      refine ⟨?_,Below.refl _ _⟩
      have hne : s[j + (k - j)].toNat ≠ 46:=by
       have e:=HP.out
       simp only [Nat.add_sub_cancel' (Nat.le_of_lt hjk)]
       intro h
       rw [h] at e
       simp at e
      rw [HJ.out,longAt_con (n:=k - j) (by have:=HJW.out; omega) hjs HJA.out HJG.out (by omega) hne]
      simp only [kindN,kindT,Kd.txt]
      rw [Nat.add_sub_cancel' (Nat.le_of_lt hjk)]
      rfl
     ·have heq : s[j + (k - j)].toNat = 46:=by
       have e:=HP.out
       simp only [Nat.add_sub_cancel' (Nat.le_of_lt hjk)]
       simp only [beq_iff_eq] at e
       omega
      have hnx:=longAt_next (n:=k - j) (by have:=HJW.out; omega) hjs HJA.out HJG.out (by omega) heq
      rw [show j + (k - j + 1) = k + 1 by omega] at hnx
      have HNX:=Lib.hid (HJ.out.trans hnx)
      clear hnx heq
      have hword:=rword_any s hs (k + 1) (by omega)
      have hwle2:=wordL_from_le s (k + 1) (by omega)
      rw [Int.natCast_add] at hword
      cases hlet : letterAt s (k + 1)
      ·rw [hlet] at hword
       have hno:=letter_not hlet
       have HNO:=Lib.hid hno
       have HW2:=Lib.hid hword
       clear hword hlet hno
       go_wp2_with fail
       refine Calls.mono (HW2.out _) ?_
       rintro e w1 ⟨rfl,rfl⟩
       go_wp2_with fail
       go_ret2
       exact ⟨by rw [HNX.out,HNO.out]; rfl,Below.refl _ _⟩
      ·rw [hlet] at hword
       obtain ⟨hk1,hpos1⟩:=word_at hlet
       obtain ⟨m,hm⟩ : ∃ m,wordL (from_ s (k + 1)) = m:=⟨_,rfl⟩
       rw [hm] at hword hwle2 hpos1
       have i2 : (0 : Int) ≤ (k : Int) + 1 ∧ (k : Int) + 1 < s.size:=by omega
       have i3 : ((k : Int) + 1).toNat = k + 1:=by omega
       have m0 : ((m : Int) == 0) = false:=by simp; omega
       have HM:=Lib.hid hm
       have HW2:=Lib.hid hword
       have HL2:=Lib.hid hlet
       obtain ⟨b,hb⟩ : ∃ b,smallB s[k + 1] = b:=⟨_,rfl⟩
       have cb:=rsmall_is s[k + 1]
       rw [hb] at cb
       have CB:=Lib.hid cb
       have HBB:=Lib.hid hb
       clear hword hm hlet hb cb
       simp only [if_true] at HW2
       cases b
       ·go_wp2_with fail
        refine Calls.mono (HW2.out _) ?_
        rintro e w1 ⟨rfl,rfl⟩
        go_wp2_with fail
        refine Calls.mono (CB.out _) ?_
        rintro e w1 ⟨rfl,rfl⟩
        go_wp2_with fail
        refine ⟨⟨k + 1 + m,_,by go_num,rfl,by omega, ?_,trivial⟩,by simp [intOf]; omega⟩
        have hg : greatB s[k + 1] = true:=by
         have h1:=HL2.out
         unfold letterAt at h1
         rw [from_lt hk1] at h1
         have h2:=HBB.out
         simp only [Bool.or_eq_true] at h1
         rcases h1 with h1 | h1
         ·rw [h2] at h1; cases h1
         ·exact h1
        exact ⟨by omega,.inl ⟨rfl,k + 1,HNX.out,by omega,hk1,HBB.out,hg,by rw [HM.out]⟩⟩
       ·go_wp2_with fail
        refine Calls.mono (HW2.out _) ?_
        rintro e w1 ⟨rfl,rfl⟩
        go_wp2_with fail
        refine Calls.mono (CB.out _) ?_
        rintro e w1 ⟨rfl,rfl⟩
        go_wp2_with fail
        refine ⟨⟨k + 1 + m,_,by go_num,rfl,by omega, ?_,trivial⟩,by simp [intOf]; omega⟩
        exact ⟨by omega,.inr ⟨rfl,by rw [HNX.out,longAt_small hk1 (by omega) HBB.out,HM.out]⟩⟩
   ·have HRes:=Lib.hid hres
    clear hres
    unfold Kd.txt
    go_wp2_with fail
    go_ret2
    exact ⟨by rw [HRes.out]; rfl,Below.refl _ _⟩
 ·have hkey:=rIsKey_any (s.extract 0 n)
  have ht:=take_extract s 0 n
  rw [Nat.zero_add] at ht
  rw [ht] at hkey
  obtain ⟨kb,hkb⟩ : ∃ kb,isKeyL ((from_ s 0).take n) = kb:=⟨_,rfl⟩
  rw [hkb] at hkey
  have hres:=longAt_small0 h0 HA.out
  rw [HN.out,hkb] at hres
  have HK:=Lib.hid hkey
  have HRes:=Lib.hid hres
  clear hkey hkb ht hres
  have i4 : (0 : Int) ≤ n:=by omega
  cases kb
  all_goals
   go_enter Tryz.func160,Tryz.ntmps160
   go_wp2_with fail
   refine Calls.mono (HW.out _) ?_
   rintro e w1 ⟨rfl,rfl⟩
   go_wp2_with fail
   refine Calls.mono (CA.out _) ?_
   rintro e w1 ⟨rfl,rfl⟩
   go_wp2_with fail
   refine Calls.mono (HK.out _ HE.out) ?_
   rintro e w1 ⟨rfl,hb1⟩
   have HB1:=Lib.hid hb1
   clear hb1
   go_wp2_with fail
   go_ret2
   refine ⟨?_,HB1.out⟩
   rw [HRes.out]
   simp [kindN,kindT,Kd.txt]
end Go.Proofs.YtjeggkfgdhepaaaGreatDoor

namespace Go.Proofs.YtjeggkfgdhepaaaGreatDoor
open Go.RowKit
open Go.Proofs
def SomeN (m : Nat) (w : World) (e : Ending) (w' : World) : Prop:=∃ k : Nat,k ≤ m ∧ e = .returned (.int .i64 k) ∧ w = w'
def SomeB (w : World) (e : Ending) (w' : World) : Prop:=∃ b : Bool,e = .returned (.bool b) ∧ w = w'
set_option maxRecDepth 100000 in
set_option maxHeartbeats 2000000 in
theorem fits_some (s : ByteArray) (hs : s.size ≤ 140737488355328) (h0 : 0 < s.size) (w : World) : Calls Tryz.prog 163 #[.string s] w (SomeB w):=by
 have z0 : (0 : Int) < s.size:=by omega
 have z1 : (1 : Int) ≤ s.size:=by omega
 go_enter Tryz.func163,Tryz.ntmps163
 go_wp2_with fail
 all_goals
  go_ret
  exact ⟨_,rfl,rfl⟩
set_option maxRecDepth 100000 in
set_option maxHeartbeats 2000000 in
theorem signs_some (s : ByteArray) (hs : s.size ≤ 140737488355328) (h0 : 0 < s.size) (w : World) : Calls Tryz.prog 164 #[.string s,.int .i64 0] w (SomeN s.size w):=by
 have z0 : (0 : Int) < s.size:=by omega
 by_cases h2 : 2 ≤ s.size
 ·have hb : decide ((2 : Int) ≤ s.size) = true:=decide_eq_true (by omega)
  have z2 : (2 : Int) ≤ s.size:=by omega
  go_enter Tryz.func164,Tryz.ntmps164
  go_wp2_with (go_at_call 178; refine (Tryz.strings_IndexByte _ _ _).mono ?_; rintro e w' ⟨rfl,rfl⟩)
  all_goals
   go_ret
   first | exact ⟨2,h2,rfl,rfl⟩ | exact ⟨1,h0,rfl,rfl⟩ | exact ⟨0,Nat.zero_le _,rfl,rfl⟩
 ·have hb : decide ((2 : Int) ≤ s.size) = false:=decide_eq_false (by omega)
  have z2 : ¬ (2 : Int) ≤ s.size:=by omega
  go_enter Tryz.func164,Tryz.ntmps164
  go_wp2_with (go_at_call 178; refine (Tryz.strings_IndexByte _ _ _).mono ?_; rintro e w' ⟨rfl,rfl⟩)
  all_goals
   go_ret
   first | exact ⟨1,h0,rfl,rfl⟩ | exact ⟨0,Nat.zero_le _,rfl,rfl⟩
def dgB (n : Int) : Bool:=decide (48 ≤ n) && decide (n ≤ 57)
theorem rdigit_n (n : Int) (w : World) : Calls Tryz.prog 177 #[.int .u8 n] w fun e w' => e = .returned (.bool (dgB n)) ∧ w = w':=by
 by_cases h1 : (48 : Int) ≤ n <;> by_cases h2 : n ≤ 57
 all_goals
  go_enter Tryz.func177,Tryz.ntmps177
  go_wp2
  go_ret
  simp [dgB,h1,h2]
set_option maxRecDepth 100000 in
set_option maxHeartbeats 4000000 in
theorem number_some (s : ByteArray) (hs : s.size ≤ 140737488355328) (h0 : 0 < s.size) (w : World) : Calls Tryz.prog 162 #[.string s,.int .i64 0] w (SomeN s.size w):=by
 have z0 : (0 : Int) < s.size:=by omega
 go_enter Tryz.func162,Tryz.ntmps162
 go_upto_region 2 with fail
 go_cut [30] (fun sl wx => ∃ b : Bool,sl = .bool b ∧ (b = true → 1 < s.size) ∧ wx = w)
 case first =>
  by_cases h1 : 1 < s.size
  ·have z1 : (1 : Int) < s.size:=by omega
   have hc:=rdigit_n (s[1].toNat : Int)
   generalize dgB (s[1].toNat : Int) = r at hc
   have HC:=Lib.hid hc
   clear hc
   obtain ⟨a,ha⟩ : ∃ a,((s[0].toNat : Int) == 45) = a:=⟨_,rfl⟩
   cases a
   ·go_wp2_with fail
    go_meet
    exact ⟨_,rfl,fun _ => h1,rfl⟩
   ·go_wp2_with fail
    refine Calls.mono (HC.out _) ?_
    rintro e w1 ⟨rfl,rfl⟩
    cases r
    all_goals
     go_wp2_with fail
     go_meet
     exact ⟨_,rfl,fun _ => h1,rfl⟩
  ·have z1 : ¬ (1 : Int) < s.size:=by omega
   have hd : decide ((1 : Int) < (s.size : Int)) = false:=decide_eq_false (by omega)
   go_wp2_with fail
   go_meet
   exact ⟨false,rfl,(fun h => by cases h),rfl⟩
 case rest =>
  obtain ⟨b,rfl,hb,rfl⟩:=hcut
  cases b
  ·have z2 : ¬ (s.size : Int) ≤ 0:=by omega
   have z4 : ¬ s = ByteArray.empty:=fun e => by rw [e] at h0; exact absurd h0 (Nat.lt_irrefl _)
   have z5 : decide (s = ByteArray.empty) = false:=decide_eq_false z4
   have hc:=rdigit_n (s[0].toNat : Int)
   generalize dgB (s[0].toNat : Int) = r at hc
   have HC:=Lib.hid hc
   obtain ⟨q,hq⟩ : ∃ q,((s[0].toNat : Int) == 48) = q:=⟨_,rfl⟩
   clear hc
   go_wp2_with fail
   refine Calls.mono (HC.out _) ?_
   rintro e w1 ⟨rfl,rfl⟩
   cases r
   ·go_wp2_with fail
    go_ret
    exact ⟨0,Nat.zero_le _,rfl,rfl⟩
   ·cases q
    ·go_wp2_with fail
     go_loopw [5] (fun nv wr => ∃ k : Nat,nv = .int .i64 k ∧ k ≤ s.size ∧ wr = wc) (fun nv _ => s.size - (intOf nv).toNat)
     case atStart => exact ⟨0,rfl,by omega,rfl⟩
     case round =>
      obtain ⟨k,rfl,hk,rfl⟩:=hrel
      by_cases hlt : k < s.size
      ·have i1 : (0 : Int) ≤ k ∧ (k : Int) < s.size:=by omega
       obtain ⟨r,hr⟩ : ∃ r,dgB (s[k].toNat : Int) = r:=⟨_,rfl⟩
       have hc:=rdigit_n (s[k].toNat : Int)
       rw [hr] at hc
       have HC:=Lib.hid hc
       clear hc hr
       cases r
       ·go_wp2_with fail
        refine Calls.mono (HC.out _) ?_
        rintro e w1 ⟨rfl,rfl⟩
        go_wp2_with fail
        go_ret
        exact ⟨k,hk,rfl,rfl⟩
       ·go_wp2_with fail
        refine Calls.mono (HC.out _) ?_
        rintro e w1 ⟨rfl,rfl⟩
        go_wp2_with fail
        exact ⟨⟨k + 1,by go_num,by omega,trivial⟩,by simp [intOf]; omega⟩
      ·have hd : decide ((k : Int) < (s.size : Int)) = false:=decide_eq_false (by omega)
       go_wp2_with fail
       go_ret
       exact ⟨k,hk,rfl,rfl⟩
    ·go_wp2_with fail
     go_ret
     exact ⟨0 + 1,by omega,rfl,rfl⟩
  ·have h1 : 1 < s.size:=hb rfl
   have z1 : (1 : Int) < s.size:=by omega
   have z2 : ¬ (s.size : Int) ≤ 1:=by omega
   have z3 : decide ((s.size : Int) ≤ 1) = false:=decide_eq_false z2
   have hc:=rdigit_n (s[1].toNat : Int)
   generalize dgB (s[1].toNat : Int) = r at hc
   have HC:=Lib.hid hc
   obtain ⟨q,hq⟩ : ∃ q,((s[1].toNat : Int) == 48) = q:=⟨_,rfl⟩
   clear hc
   go_wp2_with fail
   refine Calls.mono (HC.out _) ?_
   rintro e w1 ⟨rfl,rfl⟩
   cases r
   ·go_wp2_with fail
    go_ret
    exact ⟨0,Nat.zero_le _,rfl,rfl⟩
   ·cases q
    ·go_wp2_with fail
     go_loopw [5] (fun nv wr => ∃ k : Nat,nv = .int .i64 k ∧ k ≤ s.size ∧ wr = wc) (fun nv _ => s.size - (intOf nv).toNat)
     case atStart => exact ⟨1,rfl,by omega,rfl⟩
     case round =>
      obtain ⟨k,rfl,hk,rfl⟩:=hrel
      by_cases hlt : k < s.size
      ·have i1 : (0 : Int) ≤ k ∧ (k : Int) < s.size:=by omega
       obtain ⟨r,hr⟩ : ∃ r,dgB (s[k].toNat : Int) = r:=⟨_,rfl⟩
       have hc:=rdigit_n (s[k].toNat : Int)
       rw [hr] at hc
       have HC:=Lib.hid hc
       clear hc hr
       cases r
       ·go_wp2_with fail
        refine Calls.mono (HC.out _) ?_
        rintro e w1 ⟨rfl,rfl⟩
        go_wp2_with fail
        go_ret
        exact ⟨k,hk,rfl,rfl⟩
       ·go_wp2_with fail
        refine Calls.mono (HC.out _) ?_
        rintro e w1 ⟨rfl,rfl⟩
        go_wp2_with fail
        exact ⟨⟨k + 1,by go_num,by omega,trivial⟩,by simp [intOf]; omega⟩
      ·have hd : decide ((k : Int) < (s.size : Int)) = false:=decide_eq_false (by omega)
       go_wp2_with fail
       go_ret
       exact ⟨k,hk,rfl,rfl⟩
    ·go_wp2_with fail
     go_ret
     exact ⟨1 + 1,by omega,rfl,rfl⟩
end Go.Proofs.YtjeggkfgdhepaaaGreatDoor

namespace Go.Proofs.YtjeggkfgdhepaaaGreatDoor
open Go.RowKit
open Go.Proofs
theorem append_one {P : Program} {w : World} {ops : Array Oper} {rest : List Oper} {o : Oper} {a : Act} {Q : Exit → Act → World → Prop} (hgd : o.guard = none) (s x : Operand) (t : TypeId)
  (ho : o.op = .call { callee:=.builtin .append,args:=#[s,x],argTypes:=#[t,t] }) (base : Nat) (e : TypeId) (i : TypeInfo) (z : Value) (bytes : Nat) (ht : P.underlying t = some (.slice e)) (hi : P.info? e = some i) (hz : i.zero = some z)
  (hsize : i.size = 1) (hby : i.bytes = bytes) (hzs : z.cells.size = 1) (v : Value) (n : Nat) (xs : List Value) (u : Value) (hs : a.eval s = v) (hown : w.ownsRow base e 1 v n xs) (hx : a.eval x = .slice (some ⟨w.heap.size,0,none⟩) 1 1)
  (hu : u.oneCell' = true) (hn : n ≤ 1099511627776) (hb16 : bytes ≤ 16) (hbase : base ≤ w.heap.size)
  (h : ∀ v' w',w'.ownsRow base e 1 v' (n + 1) (xs ++ [u]) → Below base w w' → wpList P ops Q rest (a.put o.dst v') w') :
  wpList P ops Q (o :: rest) a (w.alloc (.cells #[u] e)):=by
 refine wpList_append_own_at _ hgd s x t ho base e i z 1 bytes ht hi hz hsize hby hzs (by omega) v n xs hs (hown.alloc _) ⟨w.heap.size,0,none⟩ 1 1 [u] hx rfl (cell_one_at _ _ _ _ rfl) (by simpa using hu) (by unfold maxLen; omega) ?_ (by simp; omega) ?_
 ·calc (n + 1) * bytes ≤ (n + 1) * 16:=Nat.mul_le_mul_left _ hb16
   _ ≤ 140737488355328:=by omega
 ·intro v' w' h1 h2 _ _
  exact h v' w' h1 ((((Below.refl base w).alloc hbase _)).grown h2 (by simp; omega) (fun j hj => (hown.lt j hj).1))
theorem infoU8 : (Tryz.prog.info? 5).map (fun i => (i.zero,i.size,i.bytes)) = some (some (.int .u8 0),1,1):=by kernel_rfl
def Bytes (B : Nat) (w : World) (v : Value) (l : List UInt8) : Prop:=∃ A c,v = .slice A l.length c ∧ w.ownsRow B 5 1 (.slice A l.length c) l.length (l.map fun b => .int .u8 b.toNat)
theorem Bytes.conv {B : Nat} {w : World} {v : Value} {l : List UInt8} (h : Bytes B w v l) : (convert 187 9 v).run Tryz.prog w = .ok (.string ⟨l.toArray⟩) w:=by
 obtain ⟨A,c,rfl,h⟩:=h
 rcases h.2 with ⟨he,hn⟩ | ⟨g,cap,cur,he,-⟩
 ·have hl : l = []:=List.eq_nil_of_length_eq_zero hn
  subst hl
  rw [he]
  exact run_convert_bytes_nil w 187 5 Tryz.underlying187 Tryz.underlying5 0 0 _ Tryz.underlying9
 ·simp only [Value.slice.injEq] at he
  obtain ⟨rfl,-,-⟩:=he
  refine run_convert_bytes_back w 187 9 5 ⟨g,0,none⟩ c l Tryz.underlying187 Tryz.underlying5 Tryz.underlying9 fun j hj => ?_
  obtain ⟨g',hg',hcell,-⟩:=row_cell h j (.int .u8 l[j].toNat) (by simp [hj])
  simp only [Option.some.injEq,Addr.mk.injEq,and_true] at hg'
  subst hg'
  have e : (⟨g,0,none⟩ : Addr).add j = ⟨g,j,none⟩:=by unfold Addr.add; split <;> simp_all
  rw [e]
  exact hcell
def SomeQ (w : World) (e : Ending) (w' : World) : Prop:=∃ (n : Int) (t : ByteArray),e = .returned (.tuple #[.int .i64 n,.string t]) ∧ Below w.heap.size w w'
theorem Bytes.drewN {B : Nat} {w : World} {v : Value} {l : List UInt8} (h : Bytes B w v l) (n : Nat) : Bytes B (w.drewN n) v l:=h
theorem below_drewN {B : Nat} {a w : World} (h : Below B a w) (n : Nat) : Below B a (w.drewN n):=⟨h.os,h.tape,h.output,h.size,h.block⟩
set_option maxRecDepth 100000 in
set_option maxHeartbeats 4000000 in
theorem quoted_some (s : ByteArray) (hs : s.size ≤ 1099511627776) (h0 : 0 < s.size) (hq : ((s[0].toNat : Int) == 34) = true) (w : World) : Calls Tryz.prog 161 #[.string s,.int .i64 0] w (SomeQ w):=by
 have z0 : (0 : Int) < s.size:=by omega
 have z2 : ¬ (s.size : Int) ≤ 0:=by omega
 have z4 : ¬ s = ByteArray.empty:=fun e => by
  rw [e] at h0
  exact absurd h0 (Nat.lt_irrefl _)
 have z5 : decide (s = ByteArray.empty) = false:=decide_eq_false z4
 have hq2 : ((s[0].toNat : Int) != 34) = false:=by rw [bne,hq]; rfl
 obtain ⟨i0,hi,hz0,hz1,hz2⟩:=info_parts infoU8
 go_enter Tryz.func161,Tryz.ntmps161
 go_wp2_with fail
 clear hq hq2
 go_loopw [7,6] (fun iv ov wr => ∃ (k : Nat) (v : Value) (bl : List UInt8),iv = .int .i64 k ∧ k ≤ s.size ∧ ov = v ∧ bl.length ≤ k ∧ Hid (Below w.heap.size w wr) ∧ Hid (Bytes w.heap.size wr v bl)) (fun iv _ _ => s.size - (intOf iv).toNat)
 case atStart => exact ⟨1,_,[],rfl,by omega,rfl,by simp,Below.refl _ _,⟨none,0,rfl,World.ownsRow_nil _ _ _ _⟩⟩
 case round =>
  obtain ⟨k,v,bl,rfl,hk,rfl,hbl,HB,HT⟩:=hrel
  obtain ⟨A,c,rfl,hrw⟩:=HT.out
  have HRW:=Lib.hid hrw
  have hbs:=HB.out.size
  clear hrw
  by_cases hlt : k < s.size
  ·have i1 : (0 : Int) ≤ k ∧ (k : Int) < s.size:=by omega
   have hd0 : decide ((k : Int) < s.size) = true:=decide_eq_true i1.2
   obtain ⟨q,hq⟩ : ∃ q,((s[k].toNat : Int) == 34) = q:=⟨_,rfl⟩
   cases q
   case true =>
    have hcv:=Lib.hid fun n => Bytes.conv (HT.out.drewN n)
    have hcv2:=hcv.out
    go_wp2_with fail
    go_quiet (fail)
    go_wp2_with fail
    go_ret2
    exact ⟨_,_,rfl,below_drewN HB.out _⟩
   obtain ⟨z,hz⟩ : ∃ z,((s[k].toNat : Int) == 92) = z:=⟨_,rfl⟩
   cases z
   case false =>
    obtain ⟨lo,hlo⟩ : ∃ lo,decide ((s[k].toNat : Int) < 32) = lo:=⟨_,rfl⟩
    obtain ⟨hi',hhi⟩ : ∃ hi',decide (126 < (s[k].toNat : Int)) = hi':=⟨_,rfl⟩
    cases lo
    case true =>
     go_wp2_with fail
     go_ret2
     exact ⟨_,_,rfl,HB.out⟩
    cases hi'
    case true =>
     go_wp2_with fail
     go_ret2
     exact ⟨_,_,rfl,HB.out⟩
    go_wp2_with (at_builtin; go_must (refine append_one rfl _ _ 187 rfl w.heap.size 5 i0 _ 1 Tryz.underlying187 hi hz0 hz1 hz2 rfl (.slice A bl.length c) bl.length _ (.int .u8 s[k].toNat) rfl HRW.out rfl rfl (by omega) (by omega) hbs ?_))
    intro v' w1 hown1 hb1
    obtain ⟨A2,c2,rfl,-⟩:=row_slice hown1
    have HB1:=Lib.hid (HB.out.trans hb1)
    have HO1:=Lib.hid hown1
    clear hown1 hb1
    go_wp2_with fail
    refine ⟨⟨k + 1,_,bl ++ [s[k]],by go_num,by omega,rfl,by simp; omega,HB1.out,⟨A2,c2,by simp,by simpa using HO1.out⟩⟩,by simp [intOf]; omega⟩
   by_cases hl2 : k + 1 < s.size
   case neg =>
    have hd : decide ((k : Int) + 1 < (s.size : Int)) = false:=decide_eq_false (by omega)
    have hn : ¬ (k : Int) + 1 < s.size:=by omega
    go_wp2_with fail
    go_ret2
    exact ⟨_,_,rfl,HB.out⟩
   have hd : decide ((k : Int) + 1 < (s.size : Int)) = true:=decide_eq_true (by omega)
   have i2 : (0 : Int) ≤ (k : Int) + 1 ∧ (k : Int) + 1 < s.size:=by omega
   have i3 : ((k : Int) + 1).toNat = k + 1:=by omega
   obtain ⟨n1,hn1⟩ : ∃ n1,((s[k + 1].toNat : Int) == 110) = n1:=⟨_,rfl⟩
   cases n1
   case true =>
    go_wp2_with (at_builtin; go_must (refine append_one rfl _ _ 187 rfl w.heap.size 5 i0 _ 1 Tryz.underlying187 hi hz0 hz1 hz2 rfl (.slice A bl.length c) bl.length _ (.int .u8 10) rfl HRW.out rfl rfl (by omega) (by omega) hbs ?_))
    intro v' w1 hown1 hb1
    obtain ⟨A2,c2,rfl,-⟩:=row_slice hown1
    have HB1:=Lib.hid (HB.out.trans hb1)
    have HO1:=Lib.hid hown1
    clear hown1 hb1
    go_wp2_with fail
    refine ⟨⟨k + 2,_,bl ++ [10],by go_num,by omega,rfl,by simp; omega,HB1.out,⟨A2,c2,by simp,by simpa using HO1.out⟩⟩,by simp [intOf]; omega⟩
   obtain ⟨n2,hn2⟩ : ∃ n2,((s[k + 1].toNat : Int) == 34) = n2:=⟨_,rfl⟩
   cases n2
   case true =>
    go_wp2_with (at_builtin; go_must (refine append_one rfl _ _ 187 rfl w.heap.size 5 i0 _ 1 Tryz.underlying187 hi hz0 hz1 hz2 rfl (.slice A bl.length c) bl.length _ (.int .u8 s[k + 1].toNat) rfl HRW.out rfl rfl (by omega) (by omega) hbs ?_))
    intro v' w1 hown1 hb1
    obtain ⟨A2,c2,rfl,-⟩:=row_slice hown1
    have HB1:=Lib.hid (HB.out.trans hb1)
    have HO1:=Lib.hid hown1
    clear hown1 hb1
    go_wp2_with fail
    refine ⟨⟨k + 2,_,bl ++ [s[k + 1]],by go_num,by omega,rfl,by simp; omega,HB1.out,⟨A2,c2,by simp,by simpa using HO1.out⟩⟩,by simp [intOf]; omega⟩
   obtain ⟨n3,hn3⟩ : ∃ n3,((s[k + 1].toNat : Int) == 92) = n3:=⟨_,rfl⟩
   cases n3
   case true =>
    go_wp2_with (at_builtin; go_must (refine append_one rfl _ _ 187 rfl w.heap.size 5 i0 _ 1 Tryz.underlying187 hi hz0 hz1 hz2 rfl (.slice A bl.length c) bl.length _ (.int .u8 s[k + 1].toNat) rfl HRW.out rfl rfl (by omega) (by omega) hbs ?_))
    intro v' w1 hown1 hb1
    obtain ⟨A2,c2,rfl,-⟩:=row_slice hown1
    have HB1:=Lib.hid (HB.out.trans hb1)
    have HO1:=Lib.hid hown1
    clear hown1 hb1
    go_wp2_with fail
    refine ⟨⟨k + 2,_,bl ++ [s[k + 1]],by go_num,by omega,rfl,by simp; omega,HB1.out,⟨A2,c2,by simp,by simpa using HO1.out⟩⟩,by simp [intOf]; omega⟩
   go_wp2_with fail
   go_ret2
   exact ⟨_,_,rfl,HB.out⟩
  ·have hd0 : decide ((k : Int) < (s.size : Int)) = false:=decide_eq_false (by omega)
   go_wp2_with fail
   go_ret2
   exact ⟨_,_,rfl,HB.out⟩
end Go.Proofs.YtjeggkfgdhepaaaGreatDoor

namespace Go.Proofs.YtjeggkfgdhepaaaGreatDoor
open Go.RowKit
open Go.Proofs
theorem kindL_le (isKey : List UInt8 → Bool) : ∀ (f : Nat) (first : Bool) (l : List UInt8) (n : Nat) (k : Kd),kindL isKey f first l = some (n,k) → n ≤ l.length
 | 0,_,_,_,_,h => by simp [kindL] at h
 | f + 1,_,[],_,_,h => by simp [kindL] at h
 | f + 1,first,c :: l,n,k,h => by
  have hw:=wordL_le (c :: l)
  unfold kindL at h
  split at h
  ·split at h
   ·simp only [Option.some.injEq,Prod.mk.injEq] at h; omega
   ·simp only [Option.some.injEq,Prod.mk.injEq] at h; omega
  ·split at h
   ·split at h
    ·simp only [Option.some.injEq,Prod.mk.injEq] at h; omega
    ·rename_i d r he
     split at h
     ·simp only [Option.map_eq_some_iff,Prod.exists,Prod.mk.injEq] at h
      obtain ⟨n',k',h1,h2,h3⟩:=h
      have ih:=kindL_le isKey f false r n' k' h1
      have hd : ((c :: l).drop (wordL (c :: l))).length = (c :: l).length - wordL (c :: l):=List.length_drop
      rw [he] at hd
      simp only [List.length_cons] at hd ⊢
      omega
     ·simp only [Option.some.injEq,Prod.mk.injEq] at h; omega
   ·cases h
theorem longAt_le (s : ByteArray) : kindN (longAt s 0) ≤ s.size:=by
 unfold longAt
 cases h : kindOf isKeyL (0 == 0) (from_ s 0) with
 | none => simp [kindN]
 | some x =>
  obtain ⟨n,k⟩:=x
  have:=kindL_le _ _ _ _ _ _ h
  have e : (from_ s 0).length = s.size:=by unfold from_; simp
  simp [kindN]
  omega
def OnePost (w : World) (s : ByteArray) (e : Ending) (w' : World) : Prop:=
 Below w.heap.size w w' ∧ ∃ (kind txt : ByteArray) (n : Int),e = .returned (.tuple #[.agg #[.string kind,.string txt,.int .i64 0],.int .i64 n]) ∧
  ((letterAt s 0 = true ∧ kind = kindT (longAt s 0) ∧ n = (kindN (longAt s 0) : Nat)) ∨ (letterAt s 0 = false ∧ (kind.toList == [110,97,109,101]) = false ∧ (kind.toList == [99,111,110]) = false))
set_option maxRecDepth 100000 in
set_option maxHeartbeats 4000000 in
theorem one_any (s : ByteArray) (hs : s.size ≤ 1099511627776) (h0 : 0 < s.size) (w : World) (h : Env w) :
  Calls Tryz.prog 145 #[.string s,.int .i64 0] w (OnePost w s):=by
 have HE:=Lib.hid h
 clear h
 have z0 : (0 : Int) < s.size:=by omega
 have hlet : letterAt s 0 = (smallB s[0] || greatB s[0]):=by unfold letterAt; rw [from_lt h0]
 obtain ⟨a,ha⟩ : ∃ a,smallB s[0] = a:=⟨_,rfl⟩
 obtain ⟨g,hg⟩ : ∃ g,greatB s[0] = g:=⟨_,rfl⟩
 have ca:=Lib.hid (rsmall_is s[0])
 have cg:=Lib.hid (rgreat_is s[0])
 rw [ha,hg] at hlet
 rw [ha] at ca
 rw [hg] at cg
 have HLT:=Lib.hid hlet
 clear ha hg hlet
 have hletter : letterAt s 0 = true → ∀ w1 : World,Env w1 → Calls Tryz.prog 160 #[.string s,.int .i64 0] w1 (LongPost w1 s):=fun hl w1 he => named_any s (by omega) hl w1 he
 have HNM:=Lib.hid hletter
 have hle:=longAt_le s
 have HLE:=Lib.hid hle
 clear hletter hle
 have HPost : Hid (∀ e w',Below w.heap.size w w' → letterAt s 0 = true → (∃ txt,e = .returned (.tuple #[.agg #[.string (kindT (longAt s 0)),.string txt,.int .i64 0],.int .i64 (kindN (longAt s 0) : Nat)])) → OnePost w s e w'):=Lib.hid fun e w' hb hl ⟨txt,he⟩ => ⟨hb,_,txt,_,he,.inl ⟨hl,rfl,rfl⟩⟩
 have HNeg : Hid (∀ e w',Below w.heap.size w w' → letterAt s 0 = false → (∃ kind txt n,e = .returned (.tuple #[.agg #[.string kind,.string txt,.int .i64 0],.int .i64 n]) ∧ (kind.toList == [110,97,109,101]) = false ∧ (kind.toList == [99,111,110]) = false) → OnePost w s e w'):=
  Lib.hid fun e w' hb hl ⟨kind,txt,n,he,h1,h2⟩ => ⟨hb,kind,txt,n,he,.inr ⟨hl,h1,h2⟩⟩
 generalize hr : longAt s 0 = r at HLE HPost
 have HR:=Lib.hid hr
 clear hr
 by_cases hor : (a || g) = true
 ·have hl : letterAt s 0 = true:=HLT.out.trans hor
  have HL:=Lib.hid hl
  have HC:=Lib.hid (HNM.out hl)
  clear hl
  unfold LongPost at HC
  rw [HR.out] at HC
  obtain ⟨n,hn⟩ : ∃ n,kindN r = n:=⟨_,rfl⟩
  obtain ⟨t,ht⟩ : ∃ t,kindT r = t:=⟨_,rfl⟩
  rw [hn,ht] at HC HPost
  rw [hn] at HLE
  have hnle : (n : Int) ≤ s.size:=by have:=HLE.out; omega
  clear hn ht
  cases a
  ·have hg1 : g = true:=by simpa using hor
   subst hg1
   go_enter Tryz.func145,Tryz.ntmps145
   go_wp2_with fail
   refine Calls.mono (ca.out _) ?_
   rintro e w1 ⟨rfl,rfl⟩
   go_wp2_with fail
   refine Calls.mono (cg.out _) ?_
   rintro e w1 ⟨rfl,rfl⟩
   go_wp2_with fail
   refine Calls.mono (HC.out _ (HE.out.next ((Below.refl _ _).alloc (Nat.le_refl _) _))) ?_
   rintro e w1 ⟨rfl,hb1⟩
   obtain ⟨e0,e1,e2⟩:=Blk.three ((Blk.new w _ _).below hb1 (by simp))
   have f0:=((Blk.new w _ _).below hb1 (by simp)).free 0
   have f1:=((Blk.new w _ _).below hb1 (by simp)).free 1
   have f2:=((Blk.new w _ _).below hb1 (by simp)).free 2
   have hs1 : w.heap.size < w1.heap.size:=by have:=hb1.size; simp at this; omega
   have HB1:=Lib.hid (((Below.refl _ _).alloc (Nat.le_refl _) _).trans (hb1.mono (by simp)))
   clear hb1
   go_wp2_with fail
   exact bodyPost_ret (v:=.tuple #[.agg #[.string t,.string (s.extract 0 n),.int .i64 0],.int .i64 n]) (by simp [results,Tryz.results145,go_sem,e0,e1,e2,f0,f1,f2,hs1]) rfl (HPost.out _ _ (((HB1.out.setCell (by simp) _).setCell (by simp) _).setCell (by simp) _) HL.out ⟨_,rfl⟩)
  ·go_enter Tryz.func145,Tryz.ntmps145
   go_wp2_with fail
   refine Calls.mono (ca.out _) ?_
   rintro e w1 ⟨rfl,rfl⟩
   go_wp2_with fail
   refine Calls.mono (HC.out _ (HE.out.next ((Below.refl _ _).alloc (Nat.le_refl _) _))) ?_
   rintro e w1 ⟨rfl,hb1⟩
   obtain ⟨e0,e1,e2⟩:=Blk.three ((Blk.new w _ _).below hb1 (by simp))
   have f0:=((Blk.new w _ _).below hb1 (by simp)).free 0
   have f1:=((Blk.new w _ _).below hb1 (by simp)).free 1
   have f2:=((Blk.new w _ _).below hb1 (by simp)).free 2
   have hs1 : w.heap.size < w1.heap.size:=by have:=hb1.size; simp at this; omega
   have HB1:=Lib.hid (((Below.refl _ _).alloc (Nat.le_refl _) _).trans (hb1.mono (by simp)))
   clear hb1
   go_wp2_with fail
   exact bodyPost_ret (v:=.tuple #[.agg #[.string t,.string (s.extract 0 n),.int .i64 0],.int .i64 n]) (by simp [results,Tryz.results145,go_sem,e0,e1,e2,f0,f1,f2,hs1]) rfl (HPost.out _ _ (((HB1.out.setCell (by simp) _).setCell (by simp) _).setCell (by simp) _) HL.out ⟨_,rfl⟩)
 ·have hl : letterAt s 0 = false:=HLT.out.trans (by simpa using hor)
  have HL:=Lib.hid hl
  clear hl
  have ha0 : a = false:=by cases a <;> simp_all
  have hg0 : g = false:=by cases g <;> simp_all
  subst ha0 hg0
  obtain ⟨q,hq⟩ : ∃ q,((s[0].toNat : Int) == 34) = q:=⟨_,rfl⟩
  cases q
  case true =>
   have HQ:=Lib.hid (quoted_some s hs h0 hq)
   go_enter Tryz.func145,Tryz.ntmps145
   go_wp2_with fail
   refine Calls.mono (ca.out _) ?_
   rintro e w1 ⟨rfl,rfl⟩
   go_wp2_with fail
   refine Calls.mono (cg.out _) ?_
   rintro e w1 ⟨rfl,rfl⟩
   go_wp2_with fail
   refine Calls.mono (HQ.out _) ?_
   rintro e w1 ⟨n,t,rfl,hb1⟩
   obtain ⟨e0,e1,e2⟩:=Blk.three ((Blk.new w _ _).below hb1 (by simp))
   have f0:=((Blk.new w _ _).below hb1 (by simp)).free 0
   have f1:=((Blk.new w _ _).below hb1 (by simp)).free 1
   have f2:=((Blk.new w _ _).below hb1 (by simp)).free 2
   have hs1 : w.heap.size < w1.heap.size:=by have:=hb1.size; simp at this; omega
   have HB1:=Lib.hid (((Below.refl _ _).alloc (Nat.le_refl _) _).trans (hb1.mono (by simp)))
   clear hb1
   obtain ⟨b,hb⟩ : ∃ b,decide (200 < (t.size : Int)) = b:=⟨_,rfl⟩
   cases b
   ·go_wp2_with fail
    exact bodyPost_ret (v:=.tuple #[.agg #[.string ⟨#[116,101,120,116]⟩,.string t,.int .i64 0],.int .i64 n]) (by simp [results,Tryz.results145,go_sem,e0,e1,e2,f0,f1,f2,hs1]) rfl (HNeg.out _ _ (((HB1.out.setCell (by simp) _).setCell (by simp) _).setCell (by simp) _) HL.out ⟨_,_,_,rfl,by decide +kernel,by decide +kernel⟩)
   ·go_wp2_with fail
    exact bodyPost_ret (v:=.tuple #[.agg #[.string ⟨#[116,101,120,116]⟩,.string t,.int .i64 0],.int .i64 0]) (by simp [results,Tryz.results145,go_sem,e0,e1,e2,f0,f1,f2,hs1]) rfl (HNeg.out _ _ (((HB1.out.setCell (by simp) _).setCell (by simp) _).setCell (by simp) _) HL.out ⟨_,_,_,rfl,by decide +kernel,by decide +kernel⟩)
  obtain ⟨ap,hap⟩ : ∃ ap,((s[0].toNat : Int) == 39) = ap:=⟨_,rfl⟩
  cases ap
  case true =>
   by_cases h1 : 1 < s.size
   ·have z1 : (1 : Int) < s.size:=by omega
    have z2 : (2 : Int) ≤ s.size:=by omega
    have hd : decide ((1 : Int) < s.size) = true:=decide_eq_true z1
    obtain ⟨b,hb⟩ : ∃ b,smallB s[1] = b:=⟨_,rfl⟩
    have cb:=rsmall_is s[1]
    rw [hb] at cb
    have CB:=Lib.hid cb
    clear cb hb
    cases b
    ·go_enter Tryz.func145,Tryz.ntmps145
     go_wp2_with fail
     refine Calls.mono (ca.out _) ?_
     rintro e w1 ⟨rfl,rfl⟩
     go_wp2_with fail
     refine Calls.mono (cg.out _) ?_
     rintro e w1 ⟨rfl,rfl⟩
     go_wp2_with fail
     refine Calls.mono (CB.out _) ?_
     rintro e w1 ⟨rfl,rfl⟩
     go_wp2_with fail
     exact bodyPost_ret (v:=.tuple #[.agg #[.string ⟨#[]⟩,.string ⟨#[]⟩,.int .i64 0],.int .i64 0]) (by simp [results,Tryz.results145,go_sem]) rfl (HNeg.out _ _ ((Below.refl w.heap.size w).alloc (Nat.le_refl _) _) HL.out ⟨_,_,_,rfl,by decide +kernel,by decide +kernel⟩)
    ·go_enter Tryz.func145,Tryz.ntmps145
     go_wp2_with fail
     refine Calls.mono (ca.out _) ?_
     rintro e w1 ⟨rfl,rfl⟩
     go_wp2_with fail
     refine Calls.mono (cg.out _) ?_
     rintro e w1 ⟨rfl,rfl⟩
     go_wp2_with fail
     refine Calls.mono (CB.out _) ?_
     rintro e w1 ⟨rfl,rfl⟩
     go_wp2_with fail
     exact bodyPost_ret (v:=.tuple #[.agg #[.string ⟨#[118,97,114]⟩,.string (s.extract 0 2),.int .i64 0],.int .i64 2]) (by simp [results,Tryz.results145,go_sem]) rfl (HNeg.out _ _ ((Below.refl w.heap.size w).alloc (Nat.le_refl _) _) HL.out ⟨_,_,_,rfl,by decide +kernel,by decide +kernel⟩)
   ·have z1 : ¬ (1 : Int) < s.size:=by omega
    have hd : decide ((1 : Int) < s.size) = false:=decide_eq_false z1
    go_enter Tryz.func145,Tryz.ntmps145
    go_wp2_with fail
    refine Calls.mono (ca.out _) ?_
    rintro e w1 ⟨rfl,rfl⟩
    go_wp2_with fail
    refine Calls.mono (cg.out _) ?_
    rintro e w1 ⟨rfl,rfl⟩
    go_wp2_with fail
    exact bodyPost_ret (v:=.tuple #[.agg #[.string ⟨#[]⟩,.string ⟨#[]⟩,.int .i64 0],.int .i64 0]) (by simp [results,Tryz.results145,go_sem]) rfl (HNeg.out _ _ ((Below.refl w.heap.size w).alloc (Nat.le_refl _) _) HL.out ⟨_,_,_,rfl,by decide +kernel,by decide +kernel⟩)
  have HNU:=Lib.hid (number_some s (by omega) h0)
  have HSI:=Lib.hid (signs_some s (by omega) h0)
  have HFI : Hid (∀ k,0 < k → k ≤ s.size → ∀ w1,Calls Tryz.prog 163 #[.string (s.extract 0 k)] w1 (SomeB w1)):=Lib.hid fun k hk hks w1 => fits_some (s.extract 0 k) (by simp; omega) (by simp; omega) w1
  go_enter Tryz.func145,Tryz.ntmps145
  go_wp2_with fail
  refine Calls.mono (ca.out _) ?_
  rintro e w1 ⟨rfl,rfl⟩
  go_wp2_with fail
  refine Calls.mono (cg.out _) ?_
  rintro e w1 ⟨rfl,rfl⟩
  go_wp2_with fail
  refine Calls.mono (HNU.out _) ?_
  rintro e w1 ⟨k,hk,rfl,rfl⟩
  rcases Nat.eq_zero_or_pos k with rfl | hk0
  ·have y0 : decide ((0 : Int) < ((0 : Nat) : Int)) = false:=rfl
   go_wp2_with fail
   refine Calls.mono (HSI.out _) ?_
   rintro e w1 ⟨m,hm,rfl,rfl⟩
   have y1 : (m : Int) ≤ s.size:=by omega
   go_wp2_with fail
   exact bodyPost_ret (v:=.tuple #[.agg #[.string ⟨#[115,105,103,110]⟩,.string (s.extract 0 m),.int .i64 0],.int .i64 m]) (by simp [results,Tryz.results145,go_sem]) rfl (HNeg.out _ _ ((Below.refl w.heap.size w).alloc (Nat.le_refl _) _) HL.out ⟨_,_,_,rfl,by decide +kernel,by decide +kernel⟩)
  ·have y0 : decide ((0 : Int) < (k : Int)) = true:=decide_eq_true (by omega)
   have y1 : (k : Int) ≤ s.size:=by omega
   go_wp2_with fail
   refine Calls.mono (HFI.out k hk0 hk _) ?_
   rintro e w1 ⟨b,rfl,rfl⟩
   cases b
   ·go_wp2_with fail
    exact bodyPost_ret (v:=.tuple #[.agg #[.string ⟨#[]⟩,.string ⟨#[]⟩,.int .i64 0],.int .i64 0]) (by simp [results,Tryz.results145,go_sem]) rfl (HNeg.out _ _ ((Below.refl w.heap.size w).alloc (Nat.le_refl _) _) HL.out ⟨_,_,_,rfl,by decide +kernel,by decide +kernel⟩)
   ·go_wp2_with fail
    exact bodyPost_ret (v:=.tuple #[.agg #[.string ⟨#[105,110,116]⟩,.string (s.extract 0 k),.int .i64 0],.int .i64 k]) (by simp [results,Tryz.results145,go_sem]) rfl (HNeg.out _ _ ((Below.refl w.heap.size w).alloc (Nat.le_refl _) _) HL.out ⟨_,_,_,rfl,by decide +kernel,by decide +kernel⟩)
end Go.Proofs.YtjeggkfgdhepaaaGreatDoor

namespace Go.Proofs.YtjeggkfgdhepaaaGreatDoor
open Go.RowKit
open Go.Proofs
set_option maxRecDepth 100000 in
set_option maxHeartbeats 2000000 in
theorem rvalid_name (s : ByteArray) (hs : s.size ≤ 1099511627776) (w : World) (h : Env w) :
  Calls Tryz.prog 126 #[.agg #[.string ⟨#[110,97,109,101]⟩,.string s,.int .i64 0]] w fun e w' => e = .returned (.bool (kindB .name s)) ∧ Below w.heap.size w w':=by
 have HE:=Lib.hid h
 clear h
 by_cases h0 : 0 < s.size
 ·have z4 : ¬ s = ByteArray.empty:=fun e => by
   rw [e] at h0
   exact absurd h0 (Nat.lt_irrefl _)
  have z5 : (s.toList == []) = false:=by
   rw [toList_data]
   have hl : s.data.toList.length = s.size:=by simp
   cases hd : s.data.toList with
   | nil => rw [hd] at hl; simp at hl; omega
   | cons a l => rfl
  have z6 : s.toList ≠ []:=fun e => by rw [e] at z5; cases z5
  have z7 : s.toList.isEmpty = false:=by cases hh : s.toList <;> simp_all
  have HP:=Lib.hid fun w1 => Tryz.strings_HasPrefix s ⟨#[40,42]⟩ w1
  have hneg : Lib.hasPrefix s.data.toList [40,42] = true → kindB .name s = false:=by
   intro hp
   have hc : letterAt s 0 = false:=by
    unfold letterAt
    rw [from_lt h0]
    have e0 : s[0].toNat = 40:=by
     have e1:=from_lt h0
     unfold from_ at e1
     rw [List.drop_zero] at e1
     rw [e1] at hp
     simp [Lib.hasPrefix] at hp
     rw [← hp.1]
     rfl
    simp only [Bool.or_eq_false_iff]
    unfold smallB greatB
    rw [e0]
    exact ⟨rfl,rfl⟩
   unfold kindB
   rw [letter_not hc]
   simp
  obtain ⟨pb,hpb⟩ : ∃ pb,Lib.hasPrefix s.data.toList [40,42] = pb:=⟨_,rfl⟩
  have hp2 : Lib.hasPrefix s.data.toList (⟨#[40,42]⟩ : ByteArray).data.toList = pb:=hpb
  rw [hp2] at HP
  rw [hpb] at hneg
  clear hp2 hpb
  have HN:=Lib.hid hneg
  clear hneg
  cases pb
  ·have HO:=Lib.hid (one_any s hs h0)
   go_enter Tryz.func126,Tryz.ntmps126
   go_wp2_with fail
   refine Calls.mono (HP.out _) ?_
   rintro e w1 ⟨rfl,rfl⟩
   go_wp2_with fail
   refine Calls.mono (HO.out _ (HE.out.next ((Below.refl _ _).alloc (Nat.le_refl _) _))) ?_
   rintro e w1 ⟨hb1,kind,txt,n,rfl,hk⟩
   have HK:=Lib.hid hk
   obtain ⟨e0,e1,e2⟩:=Blk.three ((Blk.new w _ _).below hb1 (by simp))
   have hs1 : w.heap.size < w1.heap.size:=by have:=hb1.size; simp at this; omega
   have HB1:=Lib.hid (((Below.refl _ _).alloc (Nat.le_refl _) _).trans (hb1.mono (by simp)))
   clear hb1 hk
   obtain ⟨b,hb⟩ : ∃ b,(n == (s.size : Int)) = b:=⟨_,rfl⟩
   obtain ⟨c,hc⟩ : ∃ c,(kind.toList == [110,97,109,101]) = c:=⟨_,rfl⟩
   have hres : kindB .name s = (b && c):=by
    rcases HK.out with ⟨hl,rfl,rfl⟩ | ⟨hl,h1,h2⟩
    ·rw [← kindB_is,← kindT_name,hb,hc]
    ·have hc0 : c = false:=hc.symm.trans h1
     subst hc0
     unfold kindB
     rw [letter_not hl]
     simp
   have HRes:=Lib.hid hres
   clear hres
   cases b <;> cases c
   all_goals
    go_wp2_with fail
    go_ret
    exact ⟨by rw [HRes.out]; rfl,HB1.out.alloc (Nat.le_of_lt hs1) _⟩
  ·go_enter Tryz.func126,Tryz.ntmps126
   go_wp2_with fail
   refine Calls.mono (HP.out _) ?_
   rintro e w1 ⟨rfl,rfl⟩
   go_wp2_with fail
   go_ret
   exact ⟨by rw [HN.out (by simp)]; rfl,(Below.refl _ _).alloc (Nat.le_refl _) _⟩
 ·have hn : kindB .name s = false:=by
   unfold kindB
   rw [longAt_end s 0 (by omega)]
   simp
  have z5 : s.toList = []:=by
   rw [toList_data]
   have hl : s.data.toList.length = s.size:=by simp
   exact List.eq_nil_of_length_eq_zero (by omega)
  have z7 : s.toList.isEmpty = true:=by rw [z5]; rfl
  rw [hn]
  go_enter Tryz.func126,Tryz.ntmps126
  go_wp2_with fail
  go_ret
  exact ⟨rfl,(Below.refl _ _).alloc (Nat.le_refl _) _⟩
theorem ris_name (s : ByteArray) (hs : s.size ≤ 1099511627776) (w : World) (h : Env w) :
  Calls Tryz.prog 102 #[.string s,.string ⟨#[110,97,109,101]⟩] w fun e w' => e = .returned (.bool (kindB .name s)) ∧ Below w.heap.size w w':=by
 have HE:=Lib.hid h
 clear h
 go_enter Tryz.func102,Tryz.ntmps102
 go_wp2_with fail
 refine Calls.mono (rvalid_name s hs _ HE.out) ?_
 rintro e w1 ⟨rfl,hb1⟩
 have HB1:=Lib.hid hb1
 clear hb1
 go_wp2_with fail
 go_ret
 exact ⟨rfl,HB1.out⟩
theorem rIsName_any (s : ByteArray) (hs : s.size ≤ 1099511627776) (w : World) (h : Env w) :
  Calls Tryz.prog 63 #[.string s] w fun e w' => e = .returned (.bool (kindB .name s)) ∧ Below w.heap.size w w':=by
 have HE:=Lib.hid h
 clear h
 go_enter Tryz.func63,Tryz.ntmps63
 go_wp2_with fail
 refine Calls.mono (ris_name s hs _ HE.out) ?_
 rintro e w1 ⟨rfl,hb1⟩
 have HB1:=Lib.hid hb1
 clear hb1
 go_wp2_with fail
 go_ret
 exact ⟨rfl,HB1.out⟩
set_option maxRecDepth 100000 in
set_option maxHeartbeats 2000000 in
theorem rvalid_con (s : ByteArray) (hs : s.size ≤ 1099511627776) (w : World) (h : Env w) :
  Calls Tryz.prog 126 #[.agg #[.string ⟨#[99,111,110]⟩,.string s,.int .i64 0]] w fun e w' => e = .returned (.bool (kindB .con s)) ∧ Below w.heap.size w w':=by
 have HE:=Lib.hid h
 clear h
 by_cases h0 : 0 < s.size
 ·have z4 : ¬ s = ByteArray.empty:=fun e => by
   rw [e] at h0
   exact absurd h0 (Nat.lt_irrefl _)
  have z5 : (s.toList == []) = false:=by
   rw [toList_data]
   have hl : s.data.toList.length = s.size:=by simp
   cases hd : s.data.toList with
   | nil => rw [hd] at hl; simp at hl; omega
   | cons a l => rfl
  have z6 : s.toList ≠ []:=fun e => by rw [e] at z5; cases z5
  have z7 : s.toList.isEmpty = false:=by cases hh : s.toList <;> simp_all
  have HP:=Lib.hid fun w1 => Tryz.strings_HasPrefix s ⟨#[40,42]⟩ w1
  have hneg : Lib.hasPrefix s.data.toList [40,42] = true → kindB .con s = false:=by
   intro hp
   have hc : letterAt s 0 = false:=by
    unfold letterAt
    rw [from_lt h0]
    have e0 : s[0].toNat = 40:=by
     have e1:=from_lt h0
     unfold from_ at e1
     rw [List.drop_zero] at e1
     rw [e1] at hp
     simp [Lib.hasPrefix] at hp
     rw [← hp.1]
     rfl
    simp only [Bool.or_eq_false_iff]
    unfold smallB greatB
    rw [e0]
    exact ⟨rfl,rfl⟩
   unfold kindB
   rw [letter_not hc]
   simp
  obtain ⟨pb,hpb⟩ : ∃ pb,Lib.hasPrefix s.data.toList [40,42] = pb:=⟨_,rfl⟩
  have hp2 : Lib.hasPrefix s.data.toList (⟨#[40,42]⟩ : ByteArray).data.toList = pb:=hpb
  rw [hp2] at HP
  rw [hpb] at hneg
  clear hp2 hpb
  have HN:=Lib.hid hneg
  clear hneg
  cases pb
  ·have HO:=Lib.hid (one_any s hs h0)
   go_enter Tryz.func126,Tryz.ntmps126
   go_wp2_with fail
   refine Calls.mono (HP.out _) ?_
   rintro e w1 ⟨rfl,rfl⟩
   go_wp2_with fail
   refine Calls.mono (HO.out _ (HE.out.next ((Below.refl _ _).alloc (Nat.le_refl _) _))) ?_
   rintro e w1 ⟨hb1,kind,txt,n,rfl,hk⟩
   have HK:=Lib.hid hk
   obtain ⟨e0,e1,e2⟩:=Blk.three ((Blk.new w _ _).below hb1 (by simp))
   have hs1 : w.heap.size < w1.heap.size:=by have:=hb1.size; simp at this; omega
   have HB1:=Lib.hid (((Below.refl _ _).alloc (Nat.le_refl _) _).trans (hb1.mono (by simp)))
   clear hb1 hk
   obtain ⟨b,hb⟩ : ∃ b,(n == (s.size : Int)) = b:=⟨_,rfl⟩
   obtain ⟨c,hc⟩ : ∃ c,(kind.toList == [99,111,110]) = c:=⟨_,rfl⟩
   have hres : kindB .con s = (b && c):=by
    rcases HK.out with ⟨hl,rfl,rfl⟩ | ⟨hl,h1,h2⟩
    ·rw [← kindB_is,← kindT_con,hb,hc]
    ·have hc0 : c = false:=hc.symm.trans h2
     subst hc0
     unfold kindB
     rw [letter_not hl]
     simp
   have HRes:=Lib.hid hres
   clear hres
   cases b <;> cases c
   all_goals
    go_wp2_with fail
    go_ret
    exact ⟨by rw [HRes.out]; rfl,HB1.out.alloc (Nat.le_of_lt hs1) _⟩
  ·go_enter Tryz.func126,Tryz.ntmps126
   go_wp2_with fail
   refine Calls.mono (HP.out _) ?_
   rintro e w1 ⟨rfl,rfl⟩
   go_wp2_with fail
   go_ret
   exact ⟨by rw [HN.out (by simp)]; rfl,(Below.refl _ _).alloc (Nat.le_refl _) _⟩
 ·have hn : kindB .con s = false:=by
   unfold kindB
   rw [longAt_end s 0 (by omega)]
   simp
  have z5 : s.toList = []:=by
   rw [toList_data]
   have hl : s.data.toList.length = s.size:=by simp
   exact List.eq_nil_of_length_eq_zero (by omega)
  have z7 : s.toList.isEmpty = true:=by rw [z5]; rfl
  rw [hn]
  go_enter Tryz.func126,Tryz.ntmps126
  go_wp2_with fail
  go_ret
  exact ⟨rfl,(Below.refl _ _).alloc (Nat.le_refl _) _⟩
theorem ris_con (s : ByteArray) (hs : s.size ≤ 1099511627776) (w : World) (h : Env w) :
  Calls Tryz.prog 102 #[.string s,.string ⟨#[99,111,110]⟩] w fun e w' => e = .returned (.bool (kindB .con s)) ∧ Below w.heap.size w w':=by
 have HE:=Lib.hid h
 clear h
 go_enter Tryz.func102,Tryz.ntmps102
 go_wp2_with fail
 refine Calls.mono (rvalid_con s hs _ HE.out) ?_
 rintro e w1 ⟨rfl,hb1⟩
 have HB1:=Lib.hid hb1
 clear hb1
 go_wp2_with fail
 go_ret
 exact ⟨rfl,HB1.out⟩
theorem rIsCon_any (s : ByteArray) (hs : s.size ≤ 1099511627776) (w : World) (h : Env w) :
  Calls Tryz.prog 74 #[.string s] w fun e w' => e = .returned (.bool (kindB .con s)) ∧ Below w.heap.size w w':=by
 have HE:=Lib.hid h
 clear h
 go_enter Tryz.func74,Tryz.ntmps74
 go_wp2_with fail
 refine Calls.mono (ris_con s hs _ HE.out) ?_
 rintro e w1 ⟨rfl,hb1⟩
 have HB1:=Lib.hid hb1
 clear hb1
 go_wp2_with fail
 go_ret
 exact ⟨rfl,HB1.out⟩
end Go.Proofs.YtjeggkfgdhepaaaGreatDoor

namespace Go.Proofs.YtjeggkfgdhepaaaGreatDoor
open Go.RowKit
open Go.Proofs
section
variable {P : Program} {ops : Array Oper} {Q : Exit → Act → World → Prop} {md : Region.Mode} {S : World → Prop}
def wpAnyM (P : Program) (md : Region.Mode) (ops : Array Oper) (Q : Exit → Act → World → Prop) (S : World → Prop) (m : Nat) : Nat → Array Bool → Act → World → Prop
 | 0,listed,a,w => Region.ready md ops listed = [] ∧ Q .normal a w
 | fuel + 1,listed,a,w =>
  (Region.ready md ops listed = [] → Q .normal a w) ∧
  ∀ i ∈ Region.ready md ops listed,wpOp P ops Q i (fun a' w' => (i < m → S w') ∧ wpAnyM P md ops Q S m fuel (listed.setIfInBounds i true) a' w') a w
theorem wpAny_of_M {m : Nat} : ∀ (fuel : Nat) (listed : Array Bool) (a : Act) (w : World),wpAnyM P md ops Q S m fuel listed a w → wpAny P md ops Q fuel listed a w
 | 0,_,_,_,h => h
 | fuel + 1,_,_,_,h => ⟨h.1,fun i hi => wpOp_mono (fun a' w' h' => wpAny_of_M fuel _ a' w' h'.2) (h.2 i hi)⟩
theorem wpAnyM_first {m i : Nat} {oi : Oper} {v : Value} (hi : ops[i]? = some oi) (hsel : ∀ (j : Nat) (o : Oper) cs b,ops[j]? = some o → o.op ≠ .select cs b)
  (hQ : ∀ c a w,Q (.panic c) (a.put oi.dst v) w → Q (.panic c) a w) (hm : ∀ j,m ≤ j → j < ops.size → Region.waitsFor md ops j i = true) :
  ∀ (fuel : Nat) (listed : Array Bool) (a : Act) (w : World),
   (∀ j oj,ops[j]? = some oj → j ≠ i → listed.getD j true = false → (∀ e ∈ oj.after,Region.binds md e = true → e.on ≠ i) → oi.apart ops oj = true) →
   i ∈ Region.ready md ops listed → YieldsIf P ops S oi v a → S w →
   wpAnyM P md ops Q S m fuel (listed.setIfInBounds i true) (a.put oi.dst v) w → wpAnyM P md ops Q S m (fuel + 1) listed a w:=by
 intro fuel
 induction fuel with
 | zero =>
  intro listed a w _ hr hy hS H
  refine ⟨fun h => (by rw [h] at hr; cases hr),fun j hj => ?_⟩
  by_cases hji : j = i
  ·subst hji; exact hy.wpOp hi hS ⟨fun _ => hS,H⟩
  ·have:=ready_mono hj hji
   rw [H.1] at this
   cases this
 | succ fuel ih =>
  intro listed a w hfree hr hy hS H
  refine ⟨fun h => (by rw [h] at hr; cases hr),fun j hj => ?_⟩
  by_cases hji : j = i
  ·subst hji; exact hy.wpOp hi hS ⟨fun _ => hS,H⟩
  ·have h1:=H.2 j (ready_mono hj hji)
   obtain ⟨hjun,oj,hoj,hall⟩:=mem_ready.1 hj
   have hnot : ∀ e ∈ oj.after,Region.binds md e = true → e.on ≠ i:=fun e he hb heq => by
    have h1:=hall e he hb
    have h0:=(mem_ready.1 hr).1
    rw [heq,getD_both h0] at h1
    cases h1
   have hjm : j < m:=by
    rcases Nat.lt_or_ge j m with h | h
    ·exact h
    ·obtain ⟨oj',hoj',e,he,hb,hon⟩:=Region.waitsFor_spec (hm j h (Array.getElem?_eq_some_iff.1 hoj).1)
     have : oj' = oj:=Option.some.inj (hoj'.symm.trans hoj)
     subst this
     exact absurd hon (hnot e he hb)
   have h2:=wpOp_putIf hoj (hfree j oj hoj hji hjun hnot) (fun cs b => hsel i oi cs b hi) (fun cs b => hsel j oj cs b hoj) hQ hy h1
   have hfree' : ∀ k ok,ops[k]? = some ok → k ≠ i → (listed.setIfInBounds j true).getD k true = false →
     (∀ e ∈ ok.after,Region.binds md e = true → e.on ≠ i) → oi.apart ops ok = true:=fun k ok hk hki hun hno => by
    refine hfree k ok hk hki ?_ hno
    by_cases hjk : j = k
    ·subst hjk; exact hjun
    ·rw [getD_set_ne true hjk] at hun; exact hun
   refine wpOp_mono (fun a' w' h3 => ⟨h3.2.1,ih (listed.setIfInBounds j true) a' w' hfree' (ready_mono hr (Ne.symm hji)) h3.1 (h3.2.1 hjm) ?_⟩) h2
   rw [Array.setIfInBounds_comm _ _ hji]
   exact h3.2.2
def wpHeld (P : Program) (ops : Array Oper) (S : World → Prop) (R : Act → Prop) : List Oper → Act → Prop
 | [],a => R a
 | o :: rest,a => ∃ v,YieldsIf P ops S o v a ∧ wpHeld P ops S R rest (a.put o.dst v)
def wpKeep (P : Program) (ops : Array Oper) (Q : Exit → Act → World → Prop) (S : World → Prop) (m : Nat) : List Oper → Nat → Act → World → Prop
 | [],_,a,w => Q .normal a w
 | o :: rest,k,a,w => (fun K : Act → World → Prop => if Region.wanted o (yielded ops a.tmps) then o.wp P a w K Q ∨ (o.asks P a w ∧ LetsOut Q) else K (a.put o.dst undef) w) fun a' w' => (k < m → S w') ∧ wpKeep P ops Q S m rest (k + 1) a' w'
theorem wpAnyM_of_seq {m : Nat} : ∀ (l : List Oper) (k : Nat) (listed : Array Bool) (a : Act) (w : World),(∀ j,l[j]? = ops[k + j]?) →
  Region.seqB md ops l.length k listed = true → wpKeep P ops Q S m l k a w → wpAnyM P md ops Q S m l.length listed a w
 | [],_,_,_,_,_,hB,h => ⟨by simpa [Region.seqB] using hB,h⟩
 | o :: l,k,listed,a,w,hl,hB,h => by
  have h0 : ops[k]? = some o:=by simpa using (hl 0).symm
  simp only [List.length_cons,Region.seqB,Bool.and_eq_true,decide_eq_true_eq] at hB
  refine ⟨fun h1 => (by rw [hB.1] at h1; cases h1),fun i hi => ?_⟩
  rw [hB.1] at hi
  have hik : i = k:=by simpa using hi
  subst hik
  have hw : wpOp P ops Q i (fun a' w' => (i < m → S w') ∧ wpKeep P ops Q S m l (i + 1) a' w') a w:=by unfold wpOp; simp only [h0]; exact h
  exact wpOp_mono (fun a' w' h' => ⟨h'.1,wpAnyM_of_seq l (i + 1) _ a' w' (fun j => by have:=hl (j + 1); simpa [Nat.add_assoc,Nat.add_comm 1 j] using this) hB.2 h'.2⟩) hw
theorem wpAnyM_lex {m n g : Nat} {w : World} (hS : S w) (hs : Region.noSelect ops = true) (hQ : ∀ c a d v w,Q (.panic c) (Act.put a d v) w → Q (.panic c) a w)
  (hm : ∀ i,i < n → ∀ j,m ≤ j → j < ops.size → Region.waitsFor md ops j i = true) (tl : List Oper) (hg : tl.length = g) (htl : ∀ j,tl[j]? = ops[n + j]?) :
  ∀ (l : List Oper) (k : Nat) (listed : Array Bool) (a : Act),(∀ j,j < l.length → l[j]? = ops[k + j]?) → k + l.length = n →
  Region.lexHead md ops g l.length k listed = true → wpHeld P ops S (fun a' => wpKeep P ops Q S m tl n a' w) l a → wpAnyM P md ops Q S m (l.length + g) listed a w
 | [],k,listed,a,_,hk,hB,h => by
  have : k = n:=by simpa using hk
  subst this
  subst hg
  rw [show ([] : List Oper).length + tl.length = tl.length by simp]
  exact wpAnyM_of_seq tl k listed a w htl (by simpa [Region.lexHead] using hB) h
 | o :: l,k,listed,a,hl,hk,hB,h => by
  have h0 : ops[k]? = some o:=by simpa using (hl 0 (by simp)).symm
  simp only [List.length_cons,Region.lexHead,Bool.and_eq_true] at hB
  obtain ⟨⟨hr,hf⟩,hB'⟩:=hB
  obtain ⟨v,hy,hK⟩:=h
  have hkn : k < n:=by simp only [List.length_cons] at hk; omega
  rw [show (o :: l).length + g = (l.length + g) + 1 by simp only [List.length_cons]; omega]
  exact wpAnyM_first h0 (Region.noSelect_spec hs) (fun c a w => hQ c a _ _ w) (hm k hkn) (l.length + g) listed a w (Region.free_spec h0 hf) (by simpa using hr) hy hS
   (wpAnyM_lex hS hs hQ hm tl hg htl l (k + 1) _ _ (fun j hj => by have:=hl (j + 1) (by simp; omega); simpa [Nat.add_assoc,Nat.add_comm 1 j] using this) (by simp only [List.length_cons] at hk; omega) hB' hK)
def Region.midB (md : Region.Mode) (ops : Array Oper) (n m : Nat) : Bool:=
 Region.noSelect ops && Region.lexHead md ops (ops.size - n) n 0 (Array.replicate ops.size false) && decide (n ≤ ops.size) &&
 (List.range n).all fun i => (List.range ops.size).all fun j => decide (j < m) || Region.waitsFor md ops j i
theorem region_mid {id : Nat} {a : Act} {w : World} {l : List Oper} (S : World → Prop) (n m : Nat) (hmix : P.follows .mixedOrders = true) (hB : Region.midB .any l.toArray n m = true) (hS : S w.drew)
  (h : wpHeld P l.toArray S (fun a' => wpKeep P l.toArray (NoPanic Q) S m (l.drop n) n a' w.drew) (l.take n) a) : (Code.region id l.toArray true).wp P Q a w:=by
 refine wp_region_noPanic ?_
 simp only [Region.midB,Bool.and_eq_true,decide_eq_true_eq] at hB
 obtain ⟨⟨⟨hsel,hlex⟩,hn⟩,hmm⟩:=hB
 have hn' : n ≤ l.length:=by simpa using hn
 have htl : (l.take n).length = n:=by simp; omega
 have hdl : (l.drop n).length = l.toArray.size - n:=by simp
 have H:=wpAnyM_lex (md:=.any) (Q:=NoPanic Q) (m:=m) (n:=n) (g:=l.toArray.size - n) (w:=w.drew) hS hsel (fun _ _ _ _ _ h => h) (fun i hi j hj hjs => by
  have h1:=List.all_eq_true.1 (List.all_eq_true.1 hmm i (List.mem_range.2 hi)) j (List.mem_range.2 hjs)
  simp only [Bool.or_eq_true,decide_eq_true_eq] at h1
  rcases h1 with h1 | h1
  ·omega
  ·exact h1) (l.drop n) hdl (fun j => by simp [List.getElem?_drop]) (l.take n) 0 (Array.replicate l.toArray.size false) a (fun j hj => by
   have hj' : j < n:=by rw [htl] at hj; exact hj
   simp [hj']) (by simpa using htl) (by rw [htl]; exact hlex) h
 rw [htl,show n + (l.toArray.size - n) = l.toArray.size by omega] at H
 exact wp_region_any hmix (wpAny_of_M _ _ _ _ H)
theorem wpHeld_nil {R : Act → Prop} {a : Act} (h : R a) : wpHeld P ops S R [] a:=h
theorem wpHeld_want {R : Act → Prop} {a : Act} {o : Oper} {rest : List Oper} (v : Value) (hw : Region.wanted o (yielded ops a.tmps) = true) (h : ∀ w,S w → (execOp a.eval o).run P w = .ok (.value v) w) (h2 : wpHeld P ops S R rest (a.put o.dst v)) :
  wpHeld P ops S R (o :: rest) a:=⟨v,.inl ⟨hw,h⟩,h2⟩
theorem wpKeep_step {m k : Nat} {a : Act} {w : World} {o : Oper} {rest : List Oper} (hg : o.guard = none)
  (h : ∀ K : Act → World → Prop,(∀ a w,S w → wpKeep P ops Q S m rest (k + 1) a w → K a w) → o.wp P a w K Q) : wpKeep P ops Q S m (o :: rest) k a w:=by
 have h1:=h _ (fun a w hS hK => (⟨fun _ => hS,hK⟩ : (k < m → S w) ∧ wpKeep P ops Q S m rest (k + 1) a w))
 unfold wpKeep
 simp only [Region.wanted,hg,if_true]
 exact .inl h1
theorem wpKeep_rest {m : Nat} : ∀ (l : List Oper) (k : Nat) (a : Act) (w : World),m ≤ k → wpList P ops Q l a w → wpKeep P ops Q S m l k a w
 | [],_,_,_,_,h => h
 | o :: l,k,a,w,hk,h => by
  unfold wpList at h
  unfold wpKeep
  have hmono : ∀ a' w',wpList P ops Q l a' w' → (k < m → S w') ∧ wpKeep P ops Q S m l (k + 1) a' w':=fun a' w' h' => ⟨fun hh => by omega,wpKeep_rest l (k + 1) a' w' (by omega) h'⟩
  by_cases hw : Region.wanted o (yielded ops a.tmps) = true
  ·simp only [hw,if_true] at h ⊢
   exact h.imp (Oper.wp_mono hmono) id
  ·simp only [hw] at h ⊢
   exact hmono _ _ h
end
end Go.Proofs.YtjeggkfgdhepaaaGreatDoor

namespace Go.Proofs.YtjeggkfgdhepaaaGreatDoor
open Go.RowKit
open Go.Proofs
def nodeOk (d n : ByteArray) (m : Int) (len : Nat) : Bool:=
 if d.toList == [97,110,121] || d.toList == [117,110,105,116] || d.toList == [110,105,108] then n.toList == [] && m == 0 && len == 0
 else if d.toList == [118,97,114] then kindB .name n && m == 0 && len == 0
 else if d.toList == [105,110,116] then n.toList == [] && len == 0
 else if d.toList == [98,111,111,108] then n.toList == [] && (m == 0 || m == 1) && len == 0
 else if d.toList == [112,97,105,114] || d.toList == [99,111,110,115] then n.toList == [] && m == 0 && len == 2
 else if d.toList == [99,111,110] then kindB .con n && m == 0 && decide (len ≤ 1)
 else false
def Pt.wellB : Pt → Bool
 | .mk d n m _ _ l => nodeOk d n m l.length && (l.map fun p => p.wellB).all id
theorem Pt.wellB_mk (d n : ByteArray) (m : Int) (A : Option Addr) (c : Nat) (l : List Pt) : (Pt.mk d n m A c l).wellB = (nodeOk d n m l.length && l.all Pt.wellB):=by
 rw [Pt.wellB]
 simp [List.all_map,Function.comp_def]
def distinctB (l : List ByteArray) : Bool:=decide l.Nodup
def Pt.okS (p : Pt) (xs : List ByteArray) : Bool:=p.wellB && distinctB (xs ++ p.binds)
def okAll (l : List Pt) (xs : List ByteArray) : Bool:=l.all Pt.wellB && distinctB (xs ++ l.flatMap Pt.binds)
theorem distinct_prefix {a b : List ByteArray} (h : distinctB (a ++ b) = true) : distinctB a = true:=by
 unfold distinctB at h ⊢
 simp only [decide_eq_true_eq] at h ⊢
 exact (List.nodup_append.1 h).1
theorem okAll_zero {l : List Pt} {xs : List ByteArray} (h : distinctB xs = true) : okAll (l.take 0) xs = true:=by simp [okAll,h]
theorem okAll_succ {l : List Pt} {k : Nat} {q : Pt} {xs : List ByteArray} (hq : l[k]? = some q) (h : okAll (l.take k) xs = true) (h2 : q.okS (bindsTo xs l k) = true) : okAll (l.take (k + 1)) xs = true:=by
 unfold okAll at h ⊢
 unfold Pt.okS bindsTo at h2
 simp only [Bool.and_eq_true] at h h2 ⊢
 rw [List.take_add_one,hq]
 simp only [Option.toList_some,List.all_append,List.all_cons,List.all_nil,Bool.and_true,List.flatMap_append,List.flatMap_cons,List.flatMap_nil,List.append_nil]
 rw [← List.append_assoc]
 exact ⟨by simp [h.1,h2.1],h2.2⟩
theorem okAll_fail {l : List Pt} {k : Nat} {q : Pt} {xs : List ByteArray} (hq : l[k]? = some q) (h2 : q.okS (bindsTo xs l k) = false) : okAll l xs = false:=by
 cases h : okAll l xs with
 | false => rfl
 | true =>
  unfold okAll at h
  unfold Pt.okS bindsTo at h2
  simp only [Bool.and_eq_true] at h
  have hw : q.wellB = true:=List.all_eq_true.1 h.1 q (List.mem_of_getElem? hq)
  have hlt:=(List.getElem?_eq_some_iff.1 hq).1
  have e : l = l.take k ++ (q :: l.drop (k + 1)):=by
   conv => lhs; rw [← List.take_append_drop k l,List.drop_eq_getElem_cons hlt,(List.getElem?_eq_some_iff.1 hq).2]
  have hd : distinctB ((xs ++ (l.take k).flatMap Pt.binds ++ q.binds) ++ (l.drop (k + 1)).flatMap Pt.binds) = true:=by
   have h1:=h.2
   rw [e] at h1
   simp only [List.flatMap_append,List.flatMap_cons] at h1
   simpa [List.append_assoc] using h1
  rw [hw,distinct_prefix hd] at h2
  cases h2
theorem contains_texts {B : Nat} {w : World} {v : Value} {xs : List ByteArray} (h : Texts B w v xs) (hl : xs.length ≤ 1048576) (x : ByteArray) :
  Calls Tryz.prog 135 #[v,.string x] w fun e w' => e = .returned (.bool (Lib.containsS xs x)) ∧ w = w':=by
 obtain ⟨A,c,rfl,h⟩:=h
 rcases Nat.eq_zero_or_pos xs.length with h0 | h0
 ·rw [h0]
  refine (Tryz.slices_Contains_string_empty A c x w).mono ?_
  rintro e w' ⟨rfl,rfl⟩
  have hx : xs = []:=List.eq_nil_of_length_eq_zero h0
  subst hx
  exact ⟨rfl,rfl⟩
 ·obtain ⟨g,hA,-,-⟩:=row_cell h 0 (.string xs[0]) (by simp)
  subst hA
  refine (Tryz.slices_Contains_string g 0 xs.length c xs x w (Nat.le_refl _) (by omega) (fun j hj => ?_)).mono ?_
  ·obtain ⟨g',hg',hcell,-⟩:=row_cell h j (.string xs[j]) (by simp [hj])
   simp only [Option.some.injEq,Addr.mk.injEq,and_true] at hg'
   subst hg'
   rw [Nat.zero_add,hcell]
   simp [hj]
  ·rintro e w' ⟨rfl,rfl⟩
   rw [List.take_length]
   exact ⟨rfl,rfl⟩
theorem binder_any (s : ByteArray) (hs : s.size ≤ 140737488355328) (w : World) (h : Env w) :
  Calls Tryz.prog 134 #[.agg #[.bool true],.string s] w fun e w' => e = .returned (.bool (kindB .name s)) ∧ Below w.heap.size w w':=by
 have HE:=Lib.hid h
 have HC:=Lib.hid fun w1 (hh : Env w1) => is_name s hs w1 hh
 clear h
 generalize kindB .name s = r at HC ⊢
 cases r
 all_goals
  go_enter Tryz.func134,Tryz.ntmps134
  go_wp2_with fail
  refine Calls.mono (HC.out _ (HE.out.next ((Below.refl _ _).alloc (Nat.le_refl _) _))) ?_
  rintro e w1 ⟨rfl,hb1⟩
  have e0:=Blk.one ((Blk.new w _ _).below hb1 (by simp))
  have hs1 : w.heap.size < w1.heap.size:=by have:=hb1.size; simp at this; omega
  have HB1:=Lib.hid (((Below.refl _ _).alloc (Nat.le_refl _) _).trans (hb1.mono (by simp)))
  clear hb1
  go_wp2_with fail
  go_ret
  exact ⟨rfl,HB1.out⟩
end Go.Proofs.YtjeggkfgdhepaaaGreatDoor

namespace Go.Proofs.YtjeggkfgdhepaaaGreatDoor
open Go.RowKit
open Go.Proofs
def seenS (bs : Nat) (v : Value) (k : Nat) : Prop:=k = bs ∨ v.ownBlock = some k
structure Seen (B bs : Nat) (w : World) (v : Value) (xs : List ByteArray) : Prop where
 base : B ≤ bs
 blk : Blk w bs #[v] 53
 row : Texts B w v xs
section
variable {B bs : Nat} {w w' : World} {v : Value} {xs : List ByteArray}
theorem Texts.own {k : Nat} (h : Texts B w v xs) (hk : v.ownBlock = some k) : B ≤ k ∧ k < w.heap.size:=by
 obtain ⟨A,c,rfl,h⟩:=h
 exact h.lt k hk
theorem Texts.ne {k : Nat} {cs : Array Value} {t : TypeId} (h : Texts B w v xs) (hb : Blk w k cs t) (ht : t ≠ 9) : v.ownBlock ≠ some k:=by
 obtain ⟨A,c,rfl,h⟩:=h
 exact row_ne h hb ht
theorem Seen.next (h : Seen B bs w v xs) (hb : Below w.heap.size w w') : Seen B bs w' v xs:=⟨h.base,h.blk.below hb h.blk.lt,h.row.keep hb⟩
theorem Seen.ge {k : Nat} (h : Seen B bs w v xs) (hk : seenS bs v k) : B ≤ k:=by
 rcases hk with rfl | hk
 ·exact h.base
 ·exact (h.row.own hk).1
end
theorem fr_of_below {w w' : World} (hb : Below w.heap.size w w') (S : Nat → Prop) : Fr S w w':=⟨hb.os,hb.tape,hb.output,hb.size,fun k hk _ => hb.block k hk⟩
def PatPost (B bs : Nat) (w : World) (v : Value) (xs : List ByteArray) (p : Pt) (e : Ending) (w' : World) : Prop:=
 Fr (seenS bs v) w w' ∧ ((p.okS xs = true ∧ e = .returned (.bool true) ∧ ∃ v',Seen B bs w' v' (xs ++ p.binds) ∧ ∀ k,v'.ownBlock = some k → v.ownBlock = some k ∨ w.heap.size ≤ k) ∨ (p.okS xs = false ∧ e = .returned (.bool false)))
def patF : Nat:=113
def PatOk (B : Nat) (p : Pt) : Prop:=
 ∀ (w : World) (bs : Nat) (v : Value) (xs : List ByteArray),p.In B w → 3 ≤ B → Env w → Seen B bs w v xs → xs.length + p.binds.length ≤ 1048576 → distinctB xs = true →
  Calls Tryz.prog 113 #[.agg #[.bool true],p.val,.pointer (some ⟨bs,0,none⟩)] w (PatPost B bs w v xs p)
theorem pat_closure (B : Nat) (q : Pt) (ih : PatOk B q) (br b5 bs : Nat) (w : World) (v : Value) (xs : List ByteArray) (hq : q.In B w) (hB : 3 ≤ B) (he : Env w) (hs : Seen B bs w v xs) (hlen : xs.length + q.binds.length ≤ 1048576) (hd : distinctB xs = true)
  (h3 : Blk w br #[.bool true] 113) (h5 : Blk w b5 #[.pointer (some ⟨bs,0,none⟩)] 155) :
  Calls Tryz.prog 136 (#[q.val] ++ #[.pointer (some ⟨br,0,none⟩),.pointer (some ⟨b5,0,none⟩)]) w fun e w' =>
   Fr (seenS bs v) w w' ∧ ((q.okS xs = true ∧ e = .returned (.bool false) ∧ ∃ v',Seen B bs w' v' (xs ++ q.binds) ∧ ∀ k,v'.ownBlock = some k → v.ownBlock = some k ∨ w.heap.size ≤ k) ∨ (q.okS xs = false ∧ e = .returned (.bool true))):=by
 have hb:=(Below.refl w.heap.size w).alloc (Nat.le_refl _) (.cells #[.string q.dof,.string q.name,.int .i64 q.num,.slice q.at_ q.args.length q.cap] 28)
 have hBw : B ≤ w.heap.size:=Nat.le_trans hs.base (Nat.le_of_lt hs.blk.lt)
 have HC:=Lib.hid (ih (w.alloc (.cells #[.string q.dof,.string q.name,.int .i64 q.num,.slice q.at_ q.args.length q.cap] 28)) bs v xs (Pt.In.keep (hb.mono hBw) _ hq) hB (he.next hb) (hs.next hb) hlen hd)
 have HB:=Lib.hid hb
 have c3:=h3.one
 have c5:=h5.one
 have l3:=h3.lt
 have l5:=h5.lt
 clear hb h3 h5
 unfold Pt.val at *
 show Calls _ _ #[_,_,_] _ _
 go_enter Tryz.func136,Tryz.ntmps136
 go_wp2_with fail
 refine Calls.mono HC.out ?_
 rintro e w1 ⟨hf,⟨hok,rfl,v',hs',hown⟩ | ⟨hok,rfl⟩⟩
 ·have HF:=Lib.hid hf
  have HOK:=Lib.hid hok
  have HS:=Lib.hid hs'
  have HO:=Lib.hid hown
  clear hf hok hs' hown
  go_wp2_with fail
  go_ret
  refine ⟨(fr_of_below HB.out _).trans HF.out,.inl ⟨HOK.out,rfl,v',HS.out,fun k hk => ?_⟩⟩
  rcases HO.out k hk with h | h
  ·exact .inl h
  ·exact .inr (by simp at h; omega)
 ·have HF:=Lib.hid hf
  have HOK:=Lib.hid hok
  clear hf hok
  go_wp2_with fail
  go_ret
  exact ⟨(fr_of_below HB.out _).trans HF.out,.inr ⟨HOK.out,rfl⟩⟩
end Go.Proofs.YtjeggkfgdhepaaaGreatDoor

/- An abstract machine over the model's code, that it is sound; models of the functions and their proofs. -/
import Derived.Test.YtccjmcmolnbiiaaGreatDoorProg
import Derived.Test.YtccjmcmolnbiiaaGreatDoorA4
import Derived.RangeFuncBox
import Derived.RangeFuncLeaves
import Derived.Shelf.Abstract
import Derived.WalkKit
import Derived.OwnWalkIn
import Derived.TacticsInMore
import Derived.LoopNIn
import Derived.LoopIn
import Derived.Test.YtccjmcmolnbiiaaGreatDoorCards
import Derived.Test.YtccjmcmolnbiiaaGreatDoorTie
import Derived.ProofKit
import Derived.OpenShut
import Derived.Carry
import Derived.LaidMore
import Derived.Deep.DeepHandedRow
set_option linter.unusedVariables false
set_option linter.unusedSimpArgs false
namespace Go.Proofs.YtccjmcmolnbiiaaGreatDoor
open Go.Ab
def cfg:xV where
 ty:=[(3,⟨1,false,8,[(.int .i64)],(.int .i64)⟩),
 (4,⟨1,false,1,[.bool],.bool⟩),
 (5,⟨1,false,1,[(.int .u8)],(.int .u8)⟩),
 (9,⟨1,false,16,[.str],.str⟩),
 (22,⟨1,false,24,[.slice],(.slice 3)⟩),
 (24,⟨1,false,8,[.ptr],(.pointer 95)⟩),
 (26,⟨1,false,24,[.slice],(.slice 191)⟩),
 (27,⟨1,false,24,[.slice],(.slice 175)⟩),
 (28,⟨1,false,24,[.slice],(.slice 60)⟩),
 (29,⟨2,true,32,[(.int .i64),.slice],(.struct [(0,3),(1,28)])⟩),
 (30,⟨2,true,32,[(.int .i64),.slice],(.struct [(0,3),(1,28)])⟩),
 (31,⟨1,false,24,[.slice],(.slice 133)⟩),
 (32,⟨1,false,24,[.slice],(.slice 136)⟩),
 (33,⟨6,true,128,[.slice,.slice,(.int .i64),.slice,.slice,.slice],(.struct [(0,26),(1,27),(2,30),(4,31),(5,32)])⟩),
 (34,⟨6,true,128,[.slice,.slice,(.int .i64),.slice,.slice,.slice],(.struct [(0,26),(1,27),(2,30),(4,31),(5,32)])⟩),
 (35,⟨1,false,24,[.slice],(.slice 53)⟩),
 (36,⟨1,false,24,[.slice],(.slice 4)⟩),
 (37,⟨2,true,48,[.slice,.slice],(.struct [(0,36),(1,22)])⟩),
 (38,⟨2,true,48,[.slice,.slice],(.struct [(0,36),(1,22)])⟩),
 (39,⟨1,false,24,[.slice],(.slice 57)⟩),
 (40,⟨6,true,144,[.slice,.slice,.slice,.slice,.slice,.slice],(.struct [(0,22),(1,38),(3,39),(4,36),(5,36)])⟩),
 (41,⟨6,true,144,[.slice,.slice,.slice,.slice,.slice,.slice],(.struct [(0,22),(1,38),(3,39),(4,36),(5,36)])⟩),
 (44,⟨1,false,8,[(.int .i64)],(.int .i64)⟩),
 (49,⟨1,false,24,[.slice],(.slice 112)⟩),
 (50,⟨1,false,24,[.slice],(.slice 114)⟩),
 (51,⟨1,false,24,[.slice],(.slice 9)⟩),
 (52,⟨6,true,128,[.slice,.slice,.slice,.slice,(.int .i64),.slice],(.struct [(0,49),(1,50),(2,51),(3,22),(4,3),(5,22)])⟩),
 (53,⟨6,true,128,[.slice,.slice,.slice,.slice,(.int .i64),.slice],(.struct [(0,49),(1,50),(2,51),(3,22),(4,3),(5,22)])⟩),
 (54,⟨2,true,16,[(.int .i64),(.int .i64)],(.struct [(0,3),(1,3)])⟩),
 (55,⟨2,true,16,[(.int .i64),(.int .i64)],(.struct [(0,3),(1,3)])⟩),
 (56,⟨3,true,24,[(.int .i64),(.int .i64),(.int .i64)],(.struct [(0,3),(1,55)])⟩),
 (57,⟨3,true,24,[(.int .i64),(.int .i64),(.int .i64)],(.struct [(0,3),(1,55)])⟩),
 (59,⟨3,true,64,[.str,.slice,.slice],(.struct [(0,9),(1,22),(2,51)])⟩),
 (60,⟨3,true,64,[.str,.slice,.slice],(.struct [(0,9),(1,22),(2,51)])⟩),
 (64,⟨1,false,24,[.slice],(.slice 55)⟩),
 (67,⟨1,false,24,[.slice],(.slice 5)⟩),
 (69,⟨12,true,256,[.slice,.slice,(.int .i64),.slice,.slice,.slice,.slice,.slice,(.int .i64),.slice,.slice,.slice],(.array 2 34)⟩),
 (72,⟨3,true,72,[.slice,.slice,.slice],(.array 3 35)⟩),
 (73,⟨2,true,48,[.slice,.slice],(.array 2 22)⟩),
 (77,⟨18,true,432,[.slice,.slice,.slice,.slice,.slice,.slice,.slice,.slice,.slice,.slice,.slice,.slice,.slice,.slice,.slice,.slice,.slice,.slice],(.array 3 41)⟩),
 (81,⟨2,true,16,[(.int .i64),(.int .i64)],(.array 2 3)⟩),
 (94,⟨2,true,32,[.slice,(.int .i64)],(.struct [(0,22),(1,3)])⟩),
 (95,⟨2,true,32,[.slice,(.int .i64)],(.struct [(0,22),(1,3)])⟩),
 (111,⟨3,true,24,[(.int .i64),(.int .i64),(.int .i64)],(.struct [(0,3),(1,3),(2,3)])⟩),
 (112,⟨3,true,24,[(.int .i64),(.int .i64),(.int .i64)],(.struct [(0,3),(1,3),(2,3)])⟩),
 (113,⟨4,true,32,[(.int .i64),(.int .i64),(.int .i64),(.int .i64)],(.struct [(0,3),(1,3),(2,3),(3,3)])⟩),
 (114,⟨4,true,32,[(.int .i64),(.int .i64),(.int .i64),(.int .i64)],(.struct [(0,3),(1,3),(2,3),(3,3)])⟩),
 (116,⟨1,false,8,[.other],.other⟩),
 (118,⟨1,false,8,[.other],.other⟩),
 (130,⟨1,false,8,[.other],.other⟩),
 (132,⟨1,true,24,[.slice],(.struct [(0,22)])⟩),
 (133,⟨1,true,24,[.slice],(.struct [(0,22)])⟩),
 (135,⟨2,true,16,[(.int .i64),.bool],(.struct [(0,3),(1,4)])⟩),
 (136,⟨2,true,16,[(.int .i64),.bool],(.struct [(0,3),(1,4)])⟩),
 (149,⟨1,false,8,[.other],.other⟩),
 (150,⟨1,false,24,[.slice],(.slice 22)⟩),
 (151,⟨1,false,24,[.slice],(.slice 152)⟩),
 (152,⟨1,false,8,[(.int .u64)],(.int .u64)⟩),
 (153,⟨4,true,80,[.slice,.slice,.slice,(.int .u64)],(.struct [(0,150),(1,151),(2,22),(3,152)])⟩),
 (154,⟨4,true,80,[.slice,.slice,.slice,(.int .u64)],(.struct [(0,150),(1,151),(2,22),(3,152)])⟩),
 (174,⟨5,true,56,[(.int .i64),.slice,(.int .i64),(.int .i64),.bool],(.struct [(0,3),(1,22),(2,3),(3,3),(4,4)])⟩),
 (175,⟨5,true,56,[(.int .i64),.slice,(.int .i64),(.int .i64),.bool],(.struct [(0,3),(1,22),(2,3),(3,3),(4,4)])⟩),
 (178,⟨15,true,328,[.slice,.slice,(.int .i64),.slice,.slice,.slice,.slice,.slice,.slice,.slice,.slice,.slice,.slice,.slice,.bool],(.struct [(0,34),(6,35),(7,22),(8,41),(14,4)])⟩),
 (179,⟨15,true,328,[.slice,.slice,(.int .i64),.slice,.slice,.slice,.slice,.slice,.slice,.slice,.slice,.slice,.slice,.slice,.bool],(.struct [(0,34),(6,35),(7,22),(8,41),(14,4)])⟩),
 (190,⟨5,true,72,[(.int .i64),.slice,.slice,(.int .i64),(.int .i64)],(.struct [(0,3),(1,22),(2,22),(3,3),(4,3)])⟩),
 (191,⟨5,true,72,[(.int .i64),.slice,.slice,(.int .i64),(.int .i64)],(.struct [(0,3),(1,22),(2,22),(3,3),(4,3)])⟩),
 (194,⟨1,false,8,[.other],.other⟩),
 (196,⟨1,false,8,[.other],.other⟩),
 (197,⟨1,false,24,[.slice],(.slice 241)⟩),
 (202,⟨1,false,8,[.other],.other⟩),
 (203,⟨1,false,8,[.other],.other⟩),
 (205,⟨1,false,8,[.other],.other⟩),
 (208,⟨1,false,8,[.other],.other⟩),
 (210,⟨1,false,8,[.other],(.map 9 4)⟩),
 (218,⟨1,false,8,[.other],.other⟩),
 (219,⟨1,false,24,[.slice],(.slice 218)⟩),
 (221,⟨1,false,24,[.slice],(.slice 226)⟩),
 (225,⟨2,true,16,[(.int .i64),(.int .i64)],(.struct [(0,3),(1,3)])⟩),
 (226,⟨2,true,16,[(.int .i64),(.int .i64)],(.struct [(0,3),(1,3)])⟩),
 (232,⟨1,false,24,[.slice],(.slice 237)⟩),
 (236,⟨5,true,40,[(.int .i64),(.int .i64),(.int .i64),(.int .i64),.bool],(.struct [(0,3),(1,3),(2,3),(3,3),(4,4)])⟩),
 (237,⟨5,true,40,[(.int .i64),(.int .i64),(.int .i64),(.int .i64),.bool],(.struct [(0,3),(1,3),(2,3),(3,3),(4,4)])⟩),
 (240,⟨3,true,24,[(.int .i64),(.int .i64),(.int .i64)],(.struct [(0,3),(1,3),(2,3)])⟩),
 (241,⟨3,true,24,[(.int .i64),(.int .i64),(.int .i64)],(.struct [(0,3),(1,3),(2,3)])⟩),
 (248,⟨1,false,8,[.other],.other⟩),
 (256,⟨1,false,8,[.other],(.map 9 3)⟩),
 (261,⟨1,false,8,[.other],.other⟩),
 (263,⟨1,false,8,[(.int .u64)],(.int .u64)⟩),
 (269,⟨64,true,512,[(.int .i64),(.int .i64),(.int .i64),(.int .i64),(.int .i64),(.int .i64),(.int .i64),(.int .i64),(.int .i64),(.int .i64),(.int .i64),(.int .i64),(.int .i64),(.int .i64),(.int .i64),(.int .i64),(.int .i64),(.int .i64),(.int .i64),(.int .i64),(.int .i64),(.int .i64),(.int .i64),(.int .i64),(.int .i64),(.int .i64),(.int .i64),(.int .i64),(.int .i64),(.int .i64),(.int .i64),(.int .i64),(.int .i64),(.int .i64),(.int .i64),(.int .i64),(.int .i64),(.int .i64),(.int .i64),(.int .i64),(.int .i64),(.int .i64),(.int .i64),(.int .i64),(.int .i64),(.int .i64),(.int .i64),(.int .i64),(.int .i64),(.int .i64),(.int .i64),(.int .i64),(.int .i64),(.int .i64),(.int .i64),(.int .i64),(.int .i64),(.int .i64),(.int .i64),(.int .i64),(.int .i64),(.int .i64),(.int .i64),(.int .i64)],(.array 64 3)⟩),
 (270,⟨64,true,512,[(.int .i64),(.int .i64),(.int .i64),(.int .i64),(.int .i64),(.int .i64),(.int .i64),(.int .i64),(.int .i64),(.int .i64),(.int .i64),(.int .i64),(.int .i64),(.int .i64),(.int .i64),(.int .i64),(.int .i64),(.int .i64),(.int .i64),(.int .i64),(.int .i64),(.int .i64),(.int .i64),(.int .i64),(.int .i64),(.int .i64),(.int .i64),(.int .i64),(.int .i64),(.int .i64),(.int .i64),(.int .i64),(.int .i64),(.int .i64),(.int .i64),(.int .i64),(.int .i64),(.int .i64),(.int .i64),(.int .i64),(.int .i64),(.int .i64),(.int .i64),(.int .i64),(.int .i64),(.int .i64),(.int .i64),(.int .i64),(.int .i64),(.int .i64),(.int .i64),(.int .i64),(.int .i64),(.int .i64),(.int .i64),(.int .i64),(.int .i64),(.int .i64),(.int .i64),(.int .i64),(.int .i64),(.int .i64),(.int .i64),(.int .i64)],(.array 64 3)⟩),
 (276,⟨1,false,4,[(.int .u32)],(.int .u32)⟩),
 (283,⟨1,false,8,[.other],.other⟩)]
 eqs:=[(57,[(.int .i64),(.int .i64),(.int .i64)]),(226,[(.int .i64),(.int .i64)])]
 fns:=[(10,⟨[],true⟩),(11,⟨[0],true⟩),(12,⟨[],true⟩),(13,⟨[2],true⟩),(15,⟨[],true⟩),(16,⟨[],true⟩),(17,⟨[],true⟩),(18,⟨[],true⟩),(20,⟨[0],true⟩),(21,⟨[],true⟩),(22,⟨[1],true⟩),(23,⟨[],true⟩),(24,⟨[1],true⟩),(25,⟨[0],true⟩),(26,⟨[],true⟩),(27,⟨[2],true⟩),(30,⟨[0],false⟩),(31,⟨[2],true⟩),(32,⟨[2],true⟩),(33,⟨[],true⟩),(35,⟨[],true⟩),(40,⟨[],true⟩),(41,⟨[],true⟩),(42,⟨[0],true⟩),(43,⟨[0],true⟩),(46,⟨[],true⟩),(47,⟨[0],true⟩),(48,⟨[],true⟩),(49,⟨[],true⟩),(51,⟨[],true⟩),(54,⟨[0],false⟩),(55,⟨[0],false⟩),(56,⟨[0],false⟩),(57,⟨[],true⟩),(58,⟨[],true⟩),(59,⟨[],true⟩),(60,⟨[],true⟩),(65,⟨[],true⟩),(66,⟨[],true⟩),(67,⟨[1],true⟩),(73,⟨[],true⟩),(74,⟨[],true⟩),(75,⟨[0],true⟩),(79,⟨[0],true⟩),(80,⟨[0],true⟩),(81,⟨[0],true⟩),(82,⟨[0],true⟩),(83,⟨[0],true⟩),(84,⟨[0],false⟩),(85,⟨[0],false⟩),(86,⟨[0],true⟩),(87,⟨[0],true⟩),(89,⟨[],true⟩),(90,⟨[],true⟩),(91,⟨[],true⟩),(92,⟨[],true⟩),(93,⟨[],true⟩),(94,⟨[],true⟩),(95,⟨[],true⟩),(96,⟨[],true⟩),(97,⟨[],true⟩),(98,⟨[],true⟩),(99,⟨[],true⟩),(100,⟨[],true⟩),(101,⟨[],true⟩),(102,⟨[],true⟩),(103,⟨[],true⟩),(114,⟨[],true⟩),(116,⟨[],true⟩),(129,⟨[],true⟩),(132,⟨[],true⟩),(133,⟨[],true⟩),(134,⟨[],true⟩),(136,⟨[2],false⟩),(137,⟨[0,2,3],false⟩),(139,⟨[],true⟩),(140,⟨[],true⟩),(142,⟨[],true⟩),(147,⟨[],true⟩),(148,⟨[1,2,3,4],false⟩),(149,⟨[],true⟩),(163,⟨[],true⟩),(165,⟨[],true⟩),(176,⟨[],true⟩),(182,⟨[],true⟩),(185,⟨[],true⟩),(186,⟨[1],true⟩),(189,⟨[],true⟩),(190,⟨[],true⟩),(193,⟨[],true⟩),(198,⟨[],true⟩),(209,⟨[],true⟩),(211,⟨[1],false⟩),(212,⟨[],true⟩),(225,⟨[1],true⟩),(265,⟨[0],false⟩),(266,⟨[0],false⟩),(267,⟨[0],false⟩),(268,⟨[0],false⟩),(269,⟨[0],false⟩),(272,⟨[0],false⟩)]
 glob:=[(0,[iV (0:Int),iV (1:Int)])]
theorem iT:iy Tryz.prog cfg:=aj7 (by kernel_rfl) (by kernel_rfl) (by kernel_rfl)
abbrev S:=Ab.Spec Tryz.prog cfg
open Go.Ab Go.RowKit Go.Shelf
attribute [local go_sem] Oper.semAt_some
set_option maxRecDepth 100000 in
set_option maxHeartbeats 2000000 in
theorem am0 (F:Fence) (n:Nat) (h7:F.fn 229) (hro:F.round=none) (hn:1≤n) (l B O b off len cap:Nat) (hlen:len≤1000000) (Keep:World→Prop)
  (c0 c1 c2 c3 c4:Nat→Value) (v1:Nat→Value) (hv:∀i,v1 i=.agg #[c0 i,c1 i,c2 i,c3 i,c4 i])
  (hB:∀w,Keep w→w.cell? ⟨B,O,none⟩=some (.slice (some ⟨b,off,none⟩) len cap))
  (h0:∀w i,Keep w→i<len→w.cell? ⟨b,off+i*5,none⟩=some (c0 i)) (h1:∀w i,Keep w→i<len→w.cell? ⟨b,off+i*5+1,none⟩=some (c1 i)) (h2:∀w i,Keep w→i<len→w.cell? ⟨b,off+i*5+2,none⟩=some (c2 i))
  (h3:∀w i,Keep w→i<len→w.cell? ⟨b,off+i*5+3,none⟩=some (c3 i)) (h4:∀w i,Keep w→i<len→w.cell? ⟨b,off+i*5+4,none⟩=some (c4 i))
  (J:Nat→World→Prop) (Jx:World→Prop)
  (hY:∀k W,k<len→J k W→YieldAt F (n - 1) Tryz.prog l #[.int .i64 ((len - 1 - k:Nat):Int),v1 (len - 1 - k)] W fun e W'=>
    (e=.returned (.bool true)∧J (k+1) W'∧Keep W')∨(e=.returned (.bool false)∧Jx W'))
  (W:World) (hW:Keep W) (hJ:J 0 W):
  CallsIn F n Tryz.prog 229 #[.func (.yield l) #[] #[],.pointer (some ⟨B,O,none⟩)] W fun e W'=>(∃v,e=.returned v)∧(J len W'∨Jx W'):=by
 refine callsIn_of_wp Tryz.func229 rfl h7 ?_ hro;simp only [Tryz.ntmps229,List.size_toArray,List.length_cons,List.length_nil,Nat.reduceAdd,Nat.reduceSub,Array.replicate_succ,Array.replicate_zero,List.push_toArray,List.append_toArray,List.nil_append,List.cons_append];have hB0:=hB W hW;gi_wp2;gi_loopw [3] (fun i wr=>∃k:Nat,k≤len∧i=.int .i64 ((len:Int) - 1 - k)∧J k wr∧Keep wr)
  (fun i _=>(intOf i+1).toNat)
 case atStart=>exact ⟨0,Nat.zero_le _,by simp,hJ,hW⟩
 case round=>
  obtain ⟨k,hk,rfl,hJs,hkp⟩:=hrel
  by_cases hlt:k<len
  ·obtain ⟨fn,tmps,assign,body,hy,hR⟩:=hY k wr hlt hJs
   have hBr:=hB wr hkp
   obtain ⟨i,hi⟩:∃i:Nat,i=len - 1 - k:=⟨_,rfl⟩
   rw [← hi] at hy
   have hil:i<len:=by omega
   have hii:((len:Int) - 1 - k)=(i:Int):=by omega
   rw [hii]
   have e0:=h0 wr i hkp hil
   have e1:=h1 wr i hkp hil
   have e2:=h2 wr i hkp hil
   have e3:=h3 wr i hkp hil
   have e4:=h4 wr i hkp hil
   rw [hv] at hy
   have A:Aside (i+k+1=len):=by show i+k+1=len; omega
   have hi0:¬ ((i:Int)<0):=by omega
   have hi1:0≤(i:Int):=by omega
   clear hi hii hlt hk
   gi_wp2
   refine hR.mono ?_
   rintro e W3 (⟨rfl,hJ3,hk3⟩ | ⟨rfl,hJx3⟩)
   ·have A':=A.out
    gi_wp2
    go_roundw
    case rel=>exact ⟨k+1,by omega,by have:=A'; simp; omega,hJ3,hk3⟩
    case measure=>simp [intOf]
   ·gi_wp2
    refine bodyPost_ret (results_none rfl _ _ _) rfl ?_
    exact ⟨⟨_,rfl⟩,.inr hJx3⟩
  ·obtain rfl:k=len:=by omega
   have hneg:((k:Int) - 1 - k) = -1:=by omega
   rw [hneg]
   gi_wp2
   go_end0
   exact ⟨⟨_,rfl⟩,.inl hJs⟩
set_option maxRecDepth 100000 in
set_option maxHeartbeats 2000000 in
theorem aeZ (F:Fence) (n:Nat) (h7:F.fn 229) (hro:F.round=none) (l B O cap:Nat) (a:Option Addr) (J:World→Prop) (W:World) (hB:W.cell? ⟨B,O,none⟩=some (.slice a 0 cap)) (hJ:J W):
  CallsIn F n Tryz.prog 229 #[.func (.yield l) #[] #[],.pointer (some ⟨B,O,none⟩)] W fun e W'=>(∃v,e=.returned v)∧J W':=by
 refine callsIn_of_wp Tryz.func229 rfl h7 ?_ hro;simp only [Tryz.ntmps229,List.size_toArray,List.length_cons,List.length_nil,Nat.reduceAdd,Nat.reduceSub,Array.replicate_succ,Array.replicate_zero,List.push_toArray,List.append_toArray,List.nil_append,List.cons_append];gi_wp2;gi_loopw [3] (fun i wr=>i=.int .i64 (-1)∧J wr) (fun _ _=>0);case atStart=>exact ⟨by simp,hJ⟩
 case round=>
  obtain ⟨rfl,hJs⟩:=hrel
  gi_wp2
  go_end0
  exact ⟨⟨_,rfl⟩,hJs⟩
theorem QU {n n':Nat} {P:Program} {f:FuncId} {args:Array Value} {w:World} {R:Ending→World→Prop} (h:CallsIn (FW none) n P f args w R):CallsIn (FW none) n' P f args w R:=
 ⟨h.1,fun cs _=>h.2 cs (fun _ hd=>by cases hd)⟩
theorem VB (l:List ay) (hl:l.length≤1000000):Y5 Tryz.prog 229 [.ro [aU l]] l.length (fun k=>iV ((l.length - 1 - k:Nat):Int)) (fun k=>Cb (l.getD (l.length - 1 - k) au)):=by
 refine ⟨enters_of Tryz.func229 (by kernel_rfl) rfl,fun w I lb hI hlb hp=>?_⟩;have h0:=hp 0 (by simp);have aqw:lb=#[lb.getD 0 Go.undef]:=by
  have:lb.size=1:=hlb;apply Array.ext
  ·simp [this]
  ·intro i h1 h2;have:i=0:=by omega
   subst this;simp [h1]
 rw [aqw];generalize lb.getD 0 Go.undef=x at h0;clear aqw hp hlb;cases h0 with
 | ro B O vs hIB hm hr=>
  have hs:=hr 0 (by simp);have hm0:=hm 0 (by simp);have hs:iG w I (aU l) (vs 0):=hs;generalize vs 0=sv at hs hm0;cases hs with
  | @sl _ _ _ _ a cap b off cs hcap _ ha hes hcm h1 hcr=>
   by_cases hz:l.length=0
   ·refine ⟨fun _=>.bool true,fun _=>.bool true,fun k hk=>absurd hk om,fun y n J Jx W hW hY hJ=>?_⟩;have hBc:W.cell? ⟨B,O,none⟩=some (.slice a 0 cap):=by
     rw [cell?_of_heap (w:=w) (hW B hIB),← hz];exact hm0
    rw [hz];exact (aeZ (FW none) n trivial rfl y B O cap a (fun W=>J 0 W) W hBc hJ).mono fun e W' ⟨h1,h2⟩=>⟨h1,.inl h2⟩
   ·obtain ⟨ha1,U1⟩:=ha hz;subst ha1;refine ⟨fun k=>.int .i64 ((l.length - 1 - k:Nat):Int),fun k=>.agg #[cs (l.length - 1 - k) 0,cs (l.length - 1 - k) 1,cs (l.length - 1 - k) 2,cs (l.length - 1 - k) 3,cs (l.length - 1 - k) 4],fun k hk=>⟨.int _ _,?_⟩,fun y n J Jx W hW hY hJ=>?_⟩
    ·refine .agg rfl fun j hj=>?_;have hj:j<5:=hj;have:=hcr (l.length - 1 - k) j om hj;have e:nth (Cb (l.getD (l.length - 1 - k) au)).cells j=nth [iV (l.getD (l.length - 1 - k) au).aN,aj8 (l.getD (l.length - 1 - k) au).bJ,iV (l.getD (l.length - 1 - k) au).gB,iV (l.getD (l.length - 1 - k) au).gY,.bool (l.getD (l.length - 1 - k) au).fQ] j:=rfl;rcases (by omega:j=0∨j=1∨j=2∨j=3∨j=4) with rfl | rfl | rfl | rfl | rfl<;>exact this
    ·have key:∀W':World,(∀b,I b→W'.heap[b]? = w.heap[b]?)→∀i j,i<l.length→j<5→W'.cell? ⟨b,off+(i*5+j),none⟩=some (cs i j):=fun W' hW' i j hi hj=>by
      rw [cell?_of_heap (w:=w) (hW' b U1)];exact hcm i j hi hj
     refine QU (am0 (FW none) (n+1) trivial rfl om y B O b off l.length cap hl (fun W':World=>∀b,I b→W'.heap[b]? = w.heap[b]?) (fun i=>cs i 0) (fun i=>cs i 1) (fun i=>cs i 2) (fun i=>cs i 3) (fun i=>cs i 4) (fun i=>.agg #[cs i 0,cs i 1,cs i 2,cs i 3,cs i 4]) (fun _=>rfl)
      (fun W' hW'=>by rw [cell?_of_heap (w:=w) (hW' B hIB)]; exact hm0) (fun W' i h hi=>key W' h i 0 hi om) (fun W' i h hi=>key W' h i 1 hi om) (fun W' i h hi=>key W' h i 2 hi om) (fun W' i h hi=>key W' h i 3 hi om) (fun W' i h hi=>key W' h i 4 hi om)
      (fun k W1=>J k W1∧∀b,I b→W1.heap[b]? = w.heap[b]?) Jx ?_ W hW ⟨hJ,hW⟩ |>.mono ?_)
     ·rintro k W1 hk ⟨hJ1,hW1⟩;obtain ⟨fn,tmps,assign,body,hy,hR⟩:=hY k W1 hk hJ1;refine ⟨fn,tmps,assign,body,hy,hR.mono ?_⟩;rintro e W' (⟨rfl,h2,h3⟩ | ⟨rfl,h2⟩)
      ·have hW':∀b,I b→W'.heap[b]? = w.heap[b]? := fun b hb=>(h3 b hb).trans (hW1 b hb);exact .inl ⟨rfl,⟨h2,hW'⟩,hW'⟩
      ·exact .inr ⟨rfl,h2⟩
     ·rintro e W' ⟨h1,⟨h2,_⟩ | h2⟩
      ·exact ⟨h1,.inl h2⟩
      ·exact ⟨h1,.inr h2⟩
theorem aaY (l:List ay):S 190 [aU l] [] (.fn 229 [.ro [aU l]]) []:=by
 refine ah6 (ct:=[]) iT Tryz.func190 rfl rfl (Nat.le_of_ble_eq_true rfl) (by decide +kernel) (Nat.zero_le _) ?_;conv=>whnf
 exact ⟨⟨rfl,QK.refl _,trivial⟩,trivial⟩
open Go.ChangeShapes Go.WideShapes Go.ChangeAt Go.RowKit
set_option maxRecDepth 100000
theorem own:ownKnob Tryz.prog.godebug=none:=by kernel_rfl
theorem laidOut:laidOutB Tryz.prog=true:=by kernel_rfl
theorem ata:Tryz.prog.globalNamed "bringup/clock.off" = some 0:=by kernel_rfl
theorem atb:(Tryz.prog.globals[0]?).map (·.type)=some 226:=by kernel_rfl
theorem am1:Tryz.prog.cellsOf 226=2:=by kernel_rfl
theorem cells3:Tryz.prog.cellsOf 3=1:=by kernel_rfl
abbrev aln:List (String×DataW Unit):=[("bringup/clock.off", Rows.laid_bringup_clock_off)]
theorem am2 {W:World} (h:laidMetH Tryz.prog aln W):W.cell? ⟨0,0,none⟩=some (.int .i64 0)∧W.cell? ⟨0,1,none⟩=some (.int .i64 1):=by
 rw [MakeChecks.laidMetH_plain _ _ _ (by kernel_rfl)] at h;obtain ⟨ps,⟨g0,t0,cs0,f0,p0,q0,hg0,ht0,hv0,hd0,_⟩,_,_⟩:=h;obtain rfl:=Option.some.inj (ata.symm.trans hg0);obtain rfl:=Option.some.inj (atb.symm.trans ht0);obtain ⟨y0,y1,n,hx,hl,h0,h1⟩:=trod_struct2 Tryz.underlying226 hd0;rw [am1] at hl;simp only [Prod.mk.injEq,Rows.laid_bringup_clock_off,DataW.agg.injEq,List.cons.injEq] at hx;obtain ⟨k0,e1,e2,_⟩:=DataW.trod_int Tryz.underlying3 h0;obtain ⟨k1,e3,e4,_⟩:=DataW.trod_int Tryz.underlying3 h1;have hk0:k0=0:=by have:=hx.1.1; rw [e2] at this; simpa using this.symm
 have hk1:k1=1:=by have:=hx.1.2.1; rw [e4] at this; simpa using this.symm
 subst hk0; subst hk1;have c0:=World.var?_cell hg0 hv0 0;have c1:=World.var?_cell hg0 hv0 1;obtain ⟨l⟩:=cs0;match l,hl with
 | [a,b],_=>
  rw [cells3] at e1 e3
  simp at e1 e3
  subst e1; subst e3
  exact ⟨by simpa using c0,by simpa using c1⟩
def Old (W:World):Nat→Prop:=fun b=>b<W.heap.size
theorem atc {W:World} (h:laidMetH Tryz.prog aln W):Rel cfg (Lp W (Old W) (fun _=>none) 0) (hof []) (fun o=>o<0) W (Old W) (fun _=>none):=by
 obtain ⟨h0,h1⟩:=am2 h;exact {
  dom:=fun o=>by simp [hof]
  used:=fun o p h=>by cases h
  objs:=fun o ob p _ h=>by cases h
  inj:=fun o o' p p' b bo sz b' pQ sz' h=>by cases h
  pR:=fun o p b bo sz h=>by cases h
  lt:=fun o p b bo sz h=>by cases h
  Au:=fun b h=>h
  size:=Nat.le_refl _
  frame:=fun _ _ _=>rfl
  new:=fun o p b bo sz h=>by cases h
  glob:=fun g cs hg=>by
   have e:g=0∧cs=[.int .i64 0,.int .i64 1]:=by
    unfold cfg at hg
    simp only [Ab.look] at hg
    cases hb:Nat.beq 0 g with
    | true=>
     rw [hb] at hg
     have:=Nat.eq_of_beq_eq_true hb
     simp at hg
     exact ⟨this.symm,hg.symm⟩
    | false=>rw [hb] at hg; cases hg
   obtain ⟨rfl,rfl⟩:=e
   refine .ro 0 0 (fun j=>match j with | 0=>.int .i64 0 | _=>.int .i64 1) (World.block_lt_of_cell? _ _ h0) (fun j hj=>?_) (fun j hj=>?_)
   ·match j,hj with
    | 0,_=>exact h0
    | 1,_=>exact h1
   ·match j,hj with
    | 0,_=>exact .int _ _
    | 1,_=>exact .int _ _
  R9:=fun _ h=>h
  Ws:=fun _ h=>.inl h
  YF:=fun _ _=>.inl rfl
  Dm:=fun _ h=>h
  env:=⟨iF.refl _,fun _ _ h=>h.elim⟩
  maps:=fun o kd z f p b bo sz h=>by cases h }
theorem am3 {f:FuncId} {args:List AV} {W:World} {vals:Array Value} (hs:S f args [] (.bool true) []) (hL:laidMetH Tryz.prog aln W) (hl:vals.size=args.length) (hr:∀j,j<args.length→iG W (Old W) (nth args j) (vals.getD j Go.undef)):
  Calls Tryz.prog f vals W fun e W'=>e=.returned (.bool true)∧Below W.heap.size W W':=by
 obtain ⟨_,_,hc⟩:=hs;refine (hc W (Old W) (fun _=>none) vals (atc hL) hl (fun j hj=>.pure (hr j hj))).mono fun e W' h=>?_;obtain ⟨x,I',O',rfl,hR,hx⟩:=h;have hb:x=.bool true:=hx.lK;subst hb;refine ⟨rfl,⟨hR.env.same.os,hR.env.same.tape,hR.env.same.output,hR.size,fun k hk=>hR.frame k hk ?_⟩⟩;rintro ⟨o,p,bo,sz,h,_⟩;cases h
theorem agF {H:Type} {enc:TypeId×Value→H} {W:World} {v:Value} {d:DataW H} {ps:List MemPlace} {base:Nat} (hv:Value.okWide Tryz.prog W .any base 22 v) (h:DataW.Trod enc Tryz.prog W 0 (fun _=>true) true 22 v d ps):∃l:List Int,I64 l∧iG W (Old W) (aC l) v:=by
 obtain ⟨a0,len,cap,rfl⟩:=okWide_slice Tryz.underlying22 hv;obtain ⟨fuel,hf⟩:=h;rcases open_ints Tryz.underlying22 Tryz.underlying3 cells3 hf with ⟨hcs,hx⟩ | ⟨a,len',cap',zs,hcs,_,hl,hm,hz,hx,hcell,hwz⟩
 ·simp [Value.cells] at hcs;obtain ⟨rfl,rfl,rfl⟩:=hcs;refine ⟨[],(fun x hx=>by cases hx),?_⟩;exact .sl 0 0 (fun _ _=>Go.undef) (Nat.le_refl _) nofun (fun h=>absurd rfl h) (fun i hi=>by cases hi) (fun i j hi=>by cases hi) (fun i j hi=>by cases hi) (fun i j hi=>by cases hi)
 ·simp [Value.cells] at hcs;obtain ⟨rfl,rfl,rfl⟩:=hcs;simp only [if_true] at hz;refine ⟨zs.take len,fun x hx=>?_,?_⟩
  ·have:=hwz x (List.mem_of_mem_take hx);simp only [Lit.wf,Bool.and_eq_true,decide_eq_true_eq] at this;exact this
  ·have hlen:(zs.take len).length=len:=by simp; omega
   unfold aC aj8;rw [hlen];refine .sl a.block a.off (fun i _=>.int .i64 (zs.getD i 0)) hl nofun (fun hn=>?_) (fun i hi=>rfl) (fun i j hi hj=>?_) (fun i j hi hj=>rfl) (fun i j hi hj=>?_)
   ·have h0:=hcell 0 om;have hsp:=World.cell?_spot h0;have e:a.add 0=a:=by simp [Addr.add]
    rw [e] at hsp h0;refine ⟨by cases a; simp at hsp; subst hsp; rfl,World.block_lt_of_cell? _ _ h0⟩
   ·have hj0:j=0:=by omega
    subst hj0;have h0:=hcell 0 om;have hsp:=World.cell?_spot h0;have e:a.add 0=a:=by simp [Addr.add]
    rw [e] at hsp;have hi':=hcell i om;have e2:a.add i=⟨a.block,a.off+(i*1+0),none⟩:=by
     obtain ⟨b,off,sp⟩:=a;simp at hsp;subst hsp;rw [Addr.add_mid];simp
    rw [e2] at hi';exact hi'
   ·have hj0:j=0:=by omega
    subst hj0;have e:nth (bR iV 0 (zs.take len) i).cells 0=iV (zs.getD i 0):=by
     show iV ((zs.take len).getD i 0)=_;rw [getD_take zs 0 hi]
    rw [e];exact .int _ _
theorem z {p:Prop} (h:p:=by
 repeat' first
  | with_reducible exact trivial
  | with_reducible exact rfl
  | with_reducible refine And.intro ?_ ?_
  | ((conv=>whnf); first
   | with_reducible refine And.intro ?_ ?_
   | with_reducible refine Emb.mk ?_ ?_ ?_
   | with_reducible exact trivial)
  | exact rfl
  | exact fun _ _=>Le.refl _
  | exact fun _=>rfl
  | exact id
  | exact fun h=>Bool.noConfusion h
  | exact Le.refl _
  | exact QK.refl _
  | exact fun h=>absurd rfl h
  | exact fun _ h=>absurd h (Nat.not_lt_zero _)
  | exact akh (.refl _) rfl (Nat.lt_of_sub_pos (by exact Nat.zero_lt_succ _))
  | omega
  | (simp [iR]; done)
  | (simp [iR]; omega)
  | (simp [iR,Sg]; done)
  | (simp [iR,Sg]; omega)
  | refine ET ?_ ?_ ?_
  | refine j4 ?_ ?_ ?_ ?_
  | exact ams (fun _ _=>Le.refl _) (Le.refl _)
  | exact abq (fun _=>rfl)
  | exact lN om
  | exact gM _ _ _
  | exact Sy _ _
  | refine vZ ?_ ?_
  | refine Le.QS ?_
  | refine Le.sl ?_ ?_ ?_ ?_):p:=h
theorem dk {p:Prop} (h:p:=by decide +kernel):p:=h
theorem oz {p:Prop} (h:p:=by first | omega | (simp [iR]; done) | (simp [iR]; omega)):p:=h
theorem sr {n es:Nat} {f:Bool} {g:Nat→AV}:n=n∧(n≠0→es=es)∧(f=true→f=true)∧∀i,i<n→Le (g i) (g i):=⟨rfl,fun _=>rfl,id,fun _ _=>.refl _⟩
theorem sf {n es:Nat} {f:Bool} {g:Nat→AV}:n=n∧(n≠0→es=es)∧(false=true→f=true)∧∀i,i<n→Le (g i) (g i):=⟨rfl,fun _=>rfl,nofun,fun _ _=>.refl _⟩
theorem r4 {A B C D:Type} {a:A} {b:B} {c:C} {d:D}:a=a∧b=b∧c=c∧d=d:=⟨rfl,rfl,rfl,rfl⟩
theorem r2 {A B:Type} {a:A} {b:B}:a=a∧b=b:=⟨rfl,rfl⟩
theorem sn {R:Type} {p:Prop} {d:Decidable p} {m:M R} {r:R} {K:Prop} (hm:need p m r) (h:p→m r→K):p∧K:=⟨hm.1,h hm.1 hm.2⟩
theorem sq {A R B C : Type} {m : M A} {k : A → M R} {r : R} {p K : B → C → Prop} {a : A → B} {b : A → C} (hm : bnd m k r) (F : ∀ {v}, m v → p (a v) (b v)) (h : ∀ v, k v r → K (a v) (b v)) : ∃ a b, p a b ∧ K a b := iI hm fun v hv hm => ⟨a v, b v, F hv, h v hm⟩
theorem s2 {R:Type} {p q:Prop} {d:Decidable p} {d2:Decidable q} {m:M R} {r:R} {K:Prop} (hm:need p (need q m) r) (h:p→q→m r→K):p∧q∧K:=⟨hm.1,hm.2.1,h hm.1 hm.2.1 hm.2.2⟩
theorem si {R:Type} {c:Bool} {x y:M R} {r:R} {A B:Prop} (hm:(cond c x y) r) (h1:c=true→x r→A) (h2:c=false→y r→B):Yy c A B:=iU hm h1 h2
theorem sb {A R:Type} {m:M A} {k:A→M R} {r:R} {G:Prop} (hm:bnd m k r) (h:∀v,m v→k v r→G):G:=iI hm h
theorem cl {A B:Type} {p K:A→B→Prop} {a:A} {b:B} (h:p a b) (k:K a b):∃a b,p a b∧K a b:=⟨a,b,h,k⟩
theorem re {A B:Type} {P:List A→List B→Prop} (h:P [] []:=by exact z):∃a b,P a b:=⟨_,_,h⟩
theorem rt {A B:Type} {P:A→B→Prop} (a:A) (b:B) (h:P a b:=by exact z):∃a b,P a b:=⟨_,_,h⟩
theorem lc {A B C:Type} {p:A→Prop} {E:A→B→C→Prop} {a:A} (b:B) (c:C) (hm:p a) (h:E a b c:=by exact z):∃a b c,p a∧E a b c:=⟨a,b,c,hm,h⟩
theorem lce {A B C:Type} {p:A→Prop} {E:A→B→C→Prop} {a:A} (b:B) (c:C) (hm:p a) (h:E a b c):∃a b c,p a∧E a b c:=⟨a,b,c,hm,h⟩
theorem le {A B C:Type} {p:A→Prop} {E:A→List B→List C→Prop} {a:A} (hm:p a) (h:E a [] []:=by exact z):∃a b c,p a∧E a b c:=⟨a,_,_,hm,h⟩
theorem spc (ct:List Nat) {fn:Func} {f:FuncId} {c:Code} {args:List AV} {obs:List dY} {r:AV} {fO:List dY} (hf:Tryz.prog.funcs[f]? = some fn) (hb:fn.body=some c)
  (h:lD cfg (Ab.Spec Tryz.prog cfg) ct (Loops Tryz.prog cfg fn.ntmps none obs.length) c ⟨J8 args 0,I9.oK obs 0,obs.length⟩ (aj4 cfg fn.results.toList obs.length r fO))
  (hnm:(fn.name == "runtime.NumGoroutine")=false:=by exact rfl)
  (hN:args.length≤fn.ntmps:=by exact Nat.le_of_ble_eq_true rfl) (hok:iZ fn.ntmps c=true:=by decide +kernel) (hle:obs.length≤fO.length:=by exact Nat.le_of_ble_eq_true rfl):S f args obs r fO:=
 nD iT hf hb hnm hN hok hle h
theorem sp {fn:Func} {f:FuncId} {c:Code} {args:List AV} {obs:List dY} {r:AV} {fO:List dY} (hf:Tryz.prog.funcs[f]? = some fn) (hb:fn.body=some c)
  (h:lD cfg (Ab.Spec Tryz.prog cfg) [] (Loops Tryz.prog cfg fn.ntmps none obs.length) c ⟨J8 args 0,I9.oK obs 0,obs.length⟩ (aj4 cfg fn.results.toList obs.length r fO))
  (hnm:(fn.name == "runtime.NumGoroutine")=false:=by exact rfl)
  (hN:args.length≤fn.ntmps:=by exact Nat.le_of_ble_eq_true rfl) (hok:iZ fn.ntmps c=true:=by decide +kernel) (hle:obs.length≤fO.length:=by exact Nat.le_of_ble_eq_true rfl):S f args obs r fO:=
 nD iT hf hb hnm hN hok hle h
section
variable {N:Nat} {rr:Option Nat} {m:Nat}
variable {c:Code} {s:St} {K:Exit→St→Prop} {σ R:Type} {F:(σ→M R)→σ→M R} {x0:σ} {r:R}
theorem lfe (ct:List Nat) (hm:cZ F x0 r) (st:σ→St) (ρ0:List (Nat×Option Nat)) (os0:List Nat) (hE:QW m ρ0 os0 s (st x0))
  (round:∀(self:σ→M R) (x:σ),F self x r→lD cfg (Ab.Spec Tryz.prog cfg) ct (Loops Tryz.prog cfg N rr m) c (st x) (fun e s'=>match e with | .normal=>∃x' ρ os,self x' r∧QW m ρ os s' (st x') | e=>K e s'))
  (hok:iZ N c=true:=by decide +kernel):Loops Tryz.prog cfg N rr m (.loop c) s K:=u7 iT hok hm st ρ0 os0 hE round
theorem R3 (ct:List Nat) (hm:cZ F x0 r) (st:σ→St) (ρ0:List (Nat×Option Nat)) (os0:List Nat)
  (round:∀(self:σ→M R) (x:σ),F self x r→lD cfg (Ab.Spec Tryz.prog cfg) ct (Loops Tryz.prog cfg N rr m) c (st x) (fun e s'=>match e with | .normal=>∃x' ρ os,self x' r∧QW m ρ os s' (st x') | e=>K e s'))
  (hE:QW m ρ0 os0 s (st x0):=by exact z) (hok:iZ N c=true:=by decide +kernel):Loops Tryz.prog cfg N rr m (.loop c) s K:=u7 iT hok hm st ρ0 os0 hE round
theorem lf (hm:cZ F x0 r) (st:σ→St) (ρ0:List (Nat×Option Nat)) (os0:List Nat)
  (round:∀(self:σ→M R) (x:σ),F self x r→lD cfg (Ab.Spec Tryz.prog cfg) [] (Loops Tryz.prog cfg N rr m) c (st x) (fun e s'=>match e with | .normal=>∃x' ρ os,self x' r∧QW m ρ os s' (st x') | e=>K e s'))
  (hE:QW m ρ0 os0 s (st x0):=by exact z) (hok:iZ N c=true:=by decide +kernel):Loops Tryz.prog cfg N rr m (.loop c) s K:=u7 iT hok hm st ρ0 os0 hE round
theorem l0 (hm:cZ F x0 r) (st:σ→St)
  (round:∀(self:σ→M R) (x:σ),F self x r→lD cfg (Ab.Spec Tryz.prog cfg) [] (Loops Tryz.prog cfg N rr m) c (st x) (fun e s'=>match e with | .normal=>∃x' ρ os,self x' r∧QW m ρ os s' (st x') | e=>K e s'))
  (hE:QW m [] [] s (st x0):=by exact z) (hok:iZ N c=true:=by decide +kernel):Loops Tryz.prog cfg N rr m (.loop c) s K:=u7 iT hok hm st [] [] hE round
theorem ck (ct:List Nat) {x y:Code} {s:St} {K:Exit→St→Prop} (k:σ→M R) (r:R) (st:σ→St)
  (h1:lD cfg (Ab.Spec Tryz.prog cfg) ct (Loops Tryz.prog cfg N rr m) x s (fun e s'=>match e with | .normal=>∃x' ρ os,k x' r∧QW m ρ os s' (st x') | e=>K e s'))
  (h2:∀x',k x' r→lD cfg (Ab.Spec Tryz.prog cfg) ct (Loops Tryz.prog cfg N rr m) y (st x') K) (aom:iZ N x=true:=by decide +kernel) (aon:iZ N y=true:=by decide +kernel):Loops Tryz.prog cfg N rr m (.seq x y) s K:=Y6 iT aom aon k r st h1 h2
end
end Go.Proofs.YtccjmcmolnbiiaaGreatDoor
namespace Go.Proofs.YtccjmcmolnbiiaaGreatDoor
open Go.Ab
set_option maxRecDepth 100000
set_option maxHeartbeats 20000000
theorem RD {c_:aI} {r:Bool} (hm:F3 c_ r):S 152 [Mv c_] [] (.bool r) [] :=sp Tryz.func152 rfl<|by cases hm;exact re
theorem yV {s_:(List aI)} {r:Int} (hm:sN s_ r):S 199 [aZ s_,.fn 152 []] [] (iV r) [] :=sp Tryz.func199 rfl<|l0 hm (fun g1=>⟨[(0,aZ s_),(1,.fn 152 []),(7,iV (s_.length:Int)),(8,iV g1)],[],0⟩) <|fun aj g1 hm=>si hm (fun _ hm=>sn hm fun _ hm=>sq hm RD fun v3 hm=>si hm (fun _ hm=>by cases hm;exact re) fun _ hm=>sn hm fun _ hm=>le hm) fun _ hm=>by cases hm;exact re
theorem vQ {s_:(List aI)} {r:Bool} (hm:lG s_ r):S 151 [aZ s_,.fn 152 []] [] (.bool r) [] :=sp Tryz.func151 rfl<|sq hm yV fun v1 hm=>by cases hm;exact re
theorem iX {n_:Int} {vN:Int} {xO:Int} {r:Bool} (hm:jN n_ vN xO r):S 202 [iV n_,iV vN,iV xO] [] (.bool r) [] :=sp Tryz.func202 rfl<|by cases hm;exact re
theorem RF {p_:Int} {pK:Int} {r:Bool} (hm:zq p_ pK r):S 201 [iV p_,.ro [iV pK]] [] (.bool r) [] :=sp Tryz.func201 rfl<|sn hm fun _ hm=>sq hm iX fun v1 hm=>by cases hm;exact re
theorem EH {s_:(List Int)} {f_:Int} {r:Int} (hm:zQ s_ f_ r):S 130 [aC s_,.fn 201 [.ro [iV f_]]] [] (iV r) [] :=sp Tryz.func130 rfl<|l0 hm (fun g1=>⟨[(0,aC s_),(1,.fn 201 [.ro [iV f_]]),(7,iV (s_.length:Int)),(8,iV g1)],[],0⟩) <|fun aj g1 hm=>si hm (fun _ hm=>sn hm fun _ hm=>sq hm RF fun v3 hm=>si hm (fun _ hm=>by cases hm;exact re) fun _ hm=>sn hm fun _ hm=>le hm) fun _ hm=>by cases hm;exact re
theorem Bl {s_:(List Int)} {f_:Int} {r:Bool} (hm:nU s_ f_ r):S 200 [aC s_,.fn 201 [.ro [iV f_]]] [] (.bool r) [] :=sp Tryz.func200 rfl<|sq hm EH fun v1 hm=>by cases hm;exact re
theorem LH {s_:(List Int)} {v_:Int} {r:Int} (hm:slices_Index_int s_ v_ r):S 88 [aC s_,iV v_] [] (iV r) [] :=sp Tryz.func88 rfl<|l0 hm (fun g1=>⟨[(0,aC s_),(1,iV v_),(7,iV (s_.length:Int)),(8,iV g1)],[],0⟩) <|fun aj g1 hm=>si hm (fun _ hm=>sn hm fun _ hm=>si hm (fun _ hm=>by cases hm;exact re) fun _ hm=>sn hm fun _ hm=>le hm) fun _ hm=>by cases hm;exact re
theorem gF {s_:(List Int)} {v_:Int} {r:Bool} (hm:slices_Contains_int s_ v_ r):S 45 [aC s_,iV v_] [] (.bool r) [] :=sp Tryz.func45 rfl<|sq hm LH fun v1 hm=>by cases hm;exact re
theorem ny {l_:(List Int)} {vN:Int} {xO:Int} {r:Bool} (hm:mQ l_ vN xO r):S 203 [aC l_,iV vN,iV xO] [] (.bool r) [] :=sp Tryz.func203 rfl<|l0 hm (fun g1=>⟨[(0,aC l_),(1,iV vN),(2,iV xO),(9,aC l_),(10,iV (l_.length:Int)),(11,iV g1)],[],0⟩) <|fun aj g1 hm=>si hm (fun _ hm=>sn hm fun _ hm=>sq hm iX fun v5 hm=>sn hm fun _ hm=>sb hm fun v6 hv6 hm=>cl (fun q0=>((gF (hv6 q0)).le ⟨(.sl oz (fun _=>rfl) nofun (lN (f:=iV) (d:=0) (by first | omega | exact Nat.min_le_left _ _ | exact Nat.le_trans (Nat.min_le_left _ _) om | (simp; omega)))),.refl _,trivial⟩ trivial))<|si hm (fun _ hm=>by cases hm;exact re) fun _ hm=>sn hm fun _ hm=>le hm) fun _ hm=>by cases hm;exact re
theorem yA {s1_:(List Int)} {s2_:(List Int)} {r:Bool} (hm:slices_Equal_int s1_ s2_ r):S 204 [aC s1_,aC s2_] [] (.bool r) [] :=sp Tryz.func204 rfl<|si hm (fun _ hm=>by cases hm;exact re) fun _ hm=>l0 hm (fun g1=>⟨[(0,aC s1_),(1,aC s2_),(12,iV (s1_.length:Int)),(13,iV g1)],[],0⟩) <|fun aj g1 hm=>si hm (fun _ hm=>s2 hm fun _ _ hm=>si hm (fun _ hm=>by cases hm;exact re) fun _ hm=>sn hm fun _ hm=>le hm) fun _ hm=>by cases hm;exact re
theorem VD {c_:aI} {at_:Int} {r:Bool} (hm:Mw c_ at_ r):S 153 [Mv c_,iV at_] [] (.bool r) [] :=sp Tryz.func153 rfl<|sq hm Bl fun v1 hm=>sb hm fun v2 hv2 hm=>cl (fun q0=>(iX (hv2 q0)))<|sb hm fun v3 hv3 hm=>cl (fun q0=>(iX (hv3 q0)))<|si hm (fun _ hm=>by cases hm;exact re) fun _ hm=>si hm (fun _ hm=>sn hm fun _ hm=>sb hm fun v4 hv4 hm=>cl (fun q0=>(iX (hv4 q0)))<|by cases hm;exact re) fun _ hm=>si hm (fun _ hm=>si hm (fun _ hm=>sb hm fun v5 hv5 hm=>cl (fun q0=>(ny (hv5 q0)))<|by cases hm;exact re) fun _ hm=>si hm (fun _ hm=>sn hm fun _ hm=>sb hm fun v6 hv6 hm=>cl (fun q0=>(ny (hv6 q0)))<|by cases hm;exact re) fun _ hm=>si hm (fun _ hm=>si hm (fun _ hm=>sb hm fun v7 hv7 hm=>cl (fun q0=>((yA (hv7 q0)).le ⟨.refl _,(.sl rfl (fun _=>rfl) nofun (gM iV 0 [(0:Int),(1:Int)])),trivial⟩ trivial))<|by cases hm;exact re) fun c7 hm=>by
 refine ⟨.bool false,[],(fun q0=>absurd q0 (vac c7)),?_⟩
 (conv=>whnf)
 have hm:r=(((c_.aO.length:Int)==(1:Int))&&false):=hm
 subst hm
 refine ⟨[],[],?_⟩
 (conv=>whnf)
 exact ⟨⟨rfl,trivial,trivial⟩,rfl⟩) fun _ hm=>by cases hm;exact re) fun _ hm=>si hm (fun _ hm=>sb hm fun v8 CU hm=>cl (fun q0=>(ny (CU q0)))<|by cases hm;exact re) fun _ hm=>si hm (fun _ hm=>sn hm fun _ hm=>sb hm fun v9 hv9 hm=>cl (fun q0=>(ny (hv9 q0)))<|by cases hm;exact re) fun _ hm=>si hm (fun _ hm=>si hm (fun _ hm=>sb hm fun v10 EC hm=>cl (fun q0=>((yA (EC q0)).le ⟨.refl _,(.sl rfl (fun _=>rfl) nofun (gM iV 0 [(0:Int),(1:Int)])),trivial⟩ trivial))<|by cases hm;exact re) fun c11 hm=>by
 refine ⟨.bool false,[],(fun q0=>absurd q0 (vac c11)),?_⟩
 (conv=>whnf)
 have hm:r=(((c_.aO.length:Int)==(1:Int))&&false):=hm
 subst hm
 refine ⟨[],[],?_⟩
 (conv=>whnf)
 exact ⟨⟨rfl,trivial,trivial⟩,rfl⟩) fun _ hm=>by cases hm;exact re
theorem nZ {l_:(List aI)} {r:Int} (hm:qN l_ r):S 105 [aZ l_] [] (iV r) [] :=spc [21] Tryz.func105 rfl<|sb hm fun v1 hv1 hm=>cl (fun q0=>(vQ (hv1 q0)))<|si hm (fun _ hm=>by cases hm;exact re) fun _ hm=>R3 [21] hm (fun g1=>⟨[(0,aZ l_),(18,aZ l_),(19,iV (l_.length:Int)),(20,iV g1)],[],0⟩) [] [] <|fun aj g1 hm=>si hm (fun _ hm=>sn hm fun _ hm=>sq hm VD fun v4 hm=>si hm (fun _ hm=>by cases hm;exact re) fun _ hm=>sn hm fun _ hm=>le hm) fun _ hm=>sn hm fun _ hm=>R3 [21] hm (fun g2=>⟨[(5,iV g2.1),(6,.eH 0 0 g2.2.2.length false),(33,aZ l_),(34,iV (l_.length:Int)),(35,iV g2.2.1)],[(0,some (.row 1 g2.2.2.length (bR iV 0 g2.2.2)))],1⟩) [(0,some 32)] [] <|fun dK g2 hm=>si hm (fun _ hm=>sn hm fun _ hm=>R3 [21] hm (fun g7=>⟨[(5,iV g2.1),(6,.eH 0 0 g7.2.length false),(7,iV g2.2.1),(8,.ptr 1 0 0),(33,aZ l_),(34,iV (l_.length:Int)),(35,iV g2.2.1),(41,aC ((l_.getD g2.2.1.toNat aJ).aO)),(42,iV ((((l_.getD g2.2.1.toNat aJ).aO).length:Nat):Int)),(43,iV g7.1)],[(0,some (.row 1 g7.2.length (bR iV 0 g7.2))),(1,some (.box [iV ((l_.getD g2.2.1.toNat aJ).fZ),aC ((l_.getD g2.2.1.toNat aJ).aO),aC ((l_.getD g2.2.1.toNat aJ).aM),iV ((l_.getD g2.2.1.toNat aJ).Low),iV ((l_.getD g2.2.1.toNat aJ).fK)]))],2⟩) [(1,some 33)] [] <|fun mW g7 hm=>si hm (fun _ hm=>s2 hm fun _ _ hm=>s2 hm fun _ _ hm=>sn hm fun _ hm=>le hm) fun _ hm=>ck [21] (ug l_ g2 dK) r (fun g8=>⟨[(5,iV g2.1),(6,.eH 0 0 g8.length false),(7,iV g2.2.1),(8,.ptr 1 0 0),(33,aZ l_),(34,iV (l_.length:Int)),(35,iV g2.2.1)],[(0,some (.row 1 g8.length (bR iV 0 g8))),(1,some (.box [iV ((l_.getD g2.2.1.toNat aJ).fZ),aC ((l_.getD g2.2.1.toNat aJ).aO),aC ((l_.getD g2.2.1.toNat aJ).aM),iV ((l_.getD g2.2.1.toNat aJ).Low),iV ((l_.getD g2.2.1.toNat aJ).fK)]))],2⟩) (si hm (fun _ hm=>s2 hm fun _ _ hm=>sn hm fun _ hm=>le hm) fun _ hm=>le hm) fun g8 hm=>s2 hm fun _ _ hm=>si hm (fun _ hm=>by cases hm;exact re) fun _ hm=>sn hm fun _ hm=>le hm) fun _ hm=>by cases hm;exact re
theorem PG {s_:ay} {r:Bool} (hm:qO s_ r):S 155 [Cb s_] [] (.bool r) [] :=sp Tryz.func155 rfl<|by cases hm;exact re
theorem yX {s_:(List ay)} {r:Int} (hm:sO s_ r):S 205 [aU s_,.fn 155 []] [] (iV r) [] :=sp Tryz.func205 rfl<|l0 hm (fun g1=>⟨[(0,aU s_),(1,.fn 155 []),(7,iV (s_.length:Int)),(8,iV g1)],[],0⟩) <|fun aj g1 hm=>si hm (fun _ hm=>sn hm fun _ hm=>sq hm PG fun v3 hm=>si hm (fun _ hm=>by cases hm;exact re) fun _ hm=>sn hm fun _ hm=>le hm) fun _ hm=>by cases hm;exact re
theorem vR {s_:(List ay)} {r:Bool} (hm:lH s_ r):S 154 [aU s_,.fn 155 []] [] (.bool r) [] :=sp Tryz.func154 rfl<|sq hm yX fun v1 hm=>by cases hm;exact re
theorem iq {n_:Int} {vN:Int} {xO:Int} {r:Bool} (hm:iP n_ vN xO r):S 196 [iV n_,iV vN,iV xO] [] (.bool r) [] :=sp Tryz.func196 rfl<|by cases hm;exact re
theorem TM {s_:ay} {at_:Int} {r:Bool} (hm:Cc s_ at_ r):S 156 [Cb s_,iV at_] [] (.bool r) [] :=sp Tryz.func156 rfl<|sn hm fun _ hm=>sq hm iq fun v1 hm=>sb hm fun v2 hv2 hm=>cl (fun q0=>(iq (hv2 q0)))<|sb hm fun v3 hv3 hm=>cl (fun q0=>(iq (hv3 q0)))<|si hm (fun _ hm=>by cases hm;exact re) fun _ hm=>l0 hm (fun g1=>⟨[(2,.ptr 0 0 0),(42,aC s_.bJ),(43,iV (s_.bJ.length:Int)),(44,iV g1)],[(0,some (.box [iV s_.aN,aC s_.bJ,iV s_.gB,iV s_.gY,.bool s_.fQ]))],1⟩) <|fun aj g1 hm=>si hm (fun _ hm=>sn hm fun _ hm=>sq hm iq fun v6 hm=>s2 hm fun _ _ hm=>si hm (fun _ hm=>by cases hm;exact re) fun _ hm=>sn hm fun _ hm=>le hm) fun _ hm=>by cases hm;exact re
theorem qH {l_:(List ay)} {r:Int} (hm:oO l_ r):S 106 [aU l_] [] (iV r) [] :=sp Tryz.func106 rfl<|sb hm fun v1 hv1 hm=>cl (fun q0=>(vR (hv1 q0)))<|si hm (fun _ hm=>by cases hm;exact re) fun _ hm=>l0 hm (fun g1=>⟨[(12,aU l_),(13,iV (l_.length:Int)),(14,iV g1)],[],0⟩) <|fun aj g1 hm=>si hm (fun _ hm=>sn hm fun _ hm=>sq hm TM fun v4 hm=>si hm (fun _ hm=>by cases hm;exact re) fun _ hm=>sn hm fun _ hm=>le hm) fun _ hm=>by cases hm;exact re
theorem xI {s_:ByteArray} {r:Bool} (hm:yJ s_ r):S 146 [.str s_] [] (.bool r) [] :=sp Tryz.func146 rfl<|s2 hm fun _ _ hm=>si hm (fun _ hm=>by cases hm;exact re) fun _ hm=>l0 hm (fun g1=>⟨[(0,.str s_),(3,iV g1)],[],0⟩) <|fun aj g1 hm=>si hm (fun _ hm=>sn hm fun _ hm=>si hm (fun _ hm=>by cases hm;exact re) fun _ hm=>sn hm fun _ hm=>le hm) fun _ hm=>by cases hm;exact re
theorem tV {s_:(List ByteArray)} {v_:ByteArray} {r:Int} (hm:slices_Index_string s_ v_ r):S 50 [gG s_,.str v_] [] (iV r) [] :=sp Tryz.func50 rfl<|l0 hm (fun g1=>⟨[(0,gG s_),(1,.str v_),(7,iV (s_.length:Int)),(8,iV g1)],[],0⟩) <|fun aj g1 hm=>si hm (fun _ hm=>sn hm fun _ hm=>si hm (fun _ hm=>by cases hm;exact re) fun _ hm=>sn hm fun _ hm=>le hm) fun _ hm=>by cases hm;exact re
theorem qI {s_:(List ByteArray)} {v_:ByteArray} {r:Bool} (hm:slices_Contains_string s_ v_ r):S 206 [gG s_,.str v_] [] (.bool r) [] :=sp Tryz.func206 rfl<|sq hm tV fun v1 hm=>by cases hm;exact re
theorem XJ {ME:Int} {g_:cK} {r:Int} (hm:Ji ME g_ r):S 157 [iV ME,nT g_] [] (iV r) [] :=sp Tryz.func157 rfl<|si hm (fun _ hm=>by cases hm;exact re) fun _ hm=>si hm (fun _ hm=>by cases hm;exact re) fun _ hm=>l0 hm (fun g1=>⟨[(0,iV ME),(3,.ptr 0 0 0),(27,aC g_.bO),(28,iV (g_.bO.length:Int)),(29,iV g1)],[(0,some (.box [.str g_.vU,aC g_.bO,gG g_.ak]))],1⟩) <|fun aj g1 hm=>si hm (fun _ hm=>sn hm fun _ hm=>si hm (fun _ hm=>by cases hm;exact re) fun _ hm=>sn hm fun _ hm=>le hm) fun _ hm=>l0 hm (fun g2=>⟨[(3,.ptr 0 0 0),(7,iV g2)],[(0,some (.box [.str g_.vU,aC g_.bO,gG g_.ak]))],1⟩) <|fun dK g2 hm=>si hm (fun _ hm=>s2 hm fun _ _ hm=>sn hm fun _ hm=>si hm (fun _ hm=>by cases hm;exact re) fun _ hm=>sn hm fun _ hm=>le hm) fun _ hm=>l0 hm (fun g3=>⟨[(3,.ptr 0 0 0),(61,gG g_.ak),(62,iV (g_.ak.length:Int)),(63,iV g3)],[(0,some (.box [.str g_.vU,aC g_.bO,gG g_.ak]))],1⟩) <|fun jB g3 hm=>si hm (fun _ hm=>sn hm fun _ hm=>sq hm xI fun v3 hm=>si hm (fun _ hm=>by cases hm;exact re) fun _ hm=>sn hm fun _ hm=>le hm) fun _ hm=>l0 hm (fun g4=>⟨[(3,.ptr 0 0 0),(72,gG g_.ak),(73,iV (g_.ak.length:Int)),(74,iV g4)],[(0,some (.box [.str g_.vU,aC g_.bO,gG g_.ak]))],1⟩) <|fun jm g4 hm=>si hm (fun _ hm=>s2 hm fun _ _ hm=>sb hm fun v6 hv6 hm=>cl ((qI hv6).le ⟨(.sl oz (fun _=>rfl) nofun (lN (f:=AV.str) (d:=ByteArray.empty) (by first | omega | exact Nat.min_le_left _ _ | exact Nat.le_trans (Nat.min_le_left _ _) om | (simp; omega)))),.refl _,trivial⟩ trivial)<|si hm (fun _ hm=>by cases hm;exact re) fun _ hm=>sn hm fun _ hm=>le hm) fun _ hm=>by cases hm;exact re
theorem uF {p_:bn} {r:Int} (hm:uL p_ r):S 107 [lT p_] [] (iV r) [] :=sp Tryz.func107 rfl<|si hm (fun _ hm=>by cases hm;exact re) fun _ hm=>si hm (fun _ hm=>by cases hm;exact re) fun _ hm=>lf hm (fun g1=>⟨[(1,.ptr 0 0 0),(3,.mref 1),(21,bf p_.aD),(22,iV (p_.aD.length:Int)),(23,iV g1.1)],[(0,some (.box [iV p_.bO,bf p_.aD])),(1,some (.map .str [.bool] g1.2))],2⟩) [(1,some 112)] [] <|fun aj g1 hm=>si hm (fun _ hm=>sn hm fun _ hm=>sq hm xI fun v5 hm=>si hm (fun _ hm=>by cases hm;exact re) fun _ hm=>si hm (fun _ hm=>by cases hm;exact re) fun _ hm=>sq hm XJ fun v6 hm=>si hm (fun _ hm=>by cases hm;exact re) fun _ hm=>sn hm fun _ hm=>le hm) fun _ hm=>by cases hm;exact re
theorem yY {l_:(List d9)} {r:Int} (hm:vg l_ r):S 108 [dx l_] [] (iV r) [] :=sp Tryz.func108 rfl<|si hm (fun _ hm=>by cases hm;exact re) fun _ hm=>l0 hm (fun g1=>⟨[(11,dx l_),(12,iV (l_.length:Int)),(13,iV g1)],[],0⟩) <|fun aj g1 hm=>si hm (fun _ hm=>sn hm fun _ hm=>lf hm (fun g6=>⟨[(3,iV g1),(4,.ptr 0 0 0),(11,dx l_),(12,iV (l_.length:Int)),(13,iV g1),(19,aC ((l_.getD g1.toNat dh).dX)),(20,iV ((((l_.getD g1.toNat dh).dX).length:Nat):Int)),(21,iV g6)],[(0,some (.box [aC ((l_.getD g1.toNat dh).dX)]))],1⟩) [(0,some 32)] [] <|fun jE g6 hm=>si hm (fun _ hm=>sn hm fun _ hm=>si hm (fun _ hm=>by cases hm;exact re) fun _ hm=>sn hm fun _ hm=>le hm) fun _ hm=>l0 hm (fun g7=>⟨[(4,.ptr 0 0 0),(7,iV g7),(11,dx l_),(12,iV (l_.length:Int)),(13,iV g1)],[(0,some (.box [aC ((l_.getD g1.toNat dh).dX)]))],1⟩) <|fun mW g7 hm=>si hm (fun _ hm=>s2 hm fun _ _ hm=>sn hm fun _ hm=>si hm (fun _ hm=>by cases hm;exact re) fun _ hm=>sn hm fun _ hm=>le hm) fun _ hm=>sn hm fun _ hm=>le hm) fun _ hm=>by cases hm;exact re
theorem xJ {l_:(List dB)} {r:Int} (hm:rQ l_ r):S 109 [bU l_] [] (iV r) [] :=sp Tryz.func109 rfl<|si hm (fun _ hm=>by cases hm;exact re) fun _ hm=>l0 hm (fun g1=>⟨[(8,bU l_),(9,iV (l_.length:Int)),(10,iV g1)],[],0⟩) <|fun aj g1 hm=>si hm (fun _ hm=>sn hm fun _ hm=>si hm (fun _ hm=>by cases hm;exact re) fun _ hm=>sn hm fun _ hm=>le hm) fun _ hm=>by cases hm;exact re
theorem Iu {b_:aR} {r:Int} (hm:zR b_ r):S 53 [jy b_] [] (iV r) [] :=sp Tryz.func53 rfl<|sq hm nZ fun v1 hm=>si hm (fun _ hm=>by cases hm;exact re) fun _ hm=>sq hm qH fun v2 hm=>si hm (fun _ hm=>by cases hm;exact re) fun _ hm=>sq hm uF fun v3 hm=>si hm (fun _ hm=>by cases hm;exact re) fun _ hm=>sq hm yY fun v4 hm=>si hm (fun _ hm=>by cases hm;exact re) fun _ hm=>sq hm xJ fun v5 hm=>by cases hm;exact re
theorem PI {n_:aK} {r:(List bK)} (hm:Dq n_ r):S 58 [wu n_] [] (fB r) [] :=sp Tryz.func58 rfl<|by cases hm;exact re
theorem El {l_:(List aK)} {ah:(List Int)} {r:(List bK)} (hm:xW l_ ah r):S 57 [dM l_,aC ah,.fn 58 []] [] (fB r) [] :=sp Tryz.func57 rfl<|lf hm (fun g1=>⟨[(0,dM l_),(2,.fn 58 []),(7,.eH 0 0 g1.2.length false),(10,aC ah),(11,iV (ah.length:Int)),(12,iV g1.1)],[(0,some (.row 3 g1.2.length (bR yH dn g1.2)))],1⟩) [(0,none)] [] <|fun aj g1 hm=>si hm (fun _ hm=>sn hm fun _ hm=>si hm (fun _ hm=>sn hm fun _ hm=>sq hm PI fun v3 hm=>s2 hm fun _ _ hm=>lc [(0,some 153)] [] hm) fun _ hm=>sn hm fun _ hm=>le hm) fun _ hm=>by cases hm;exact rt [0] []
theorem TN {l_:(List aK)} {ah:(List Int)} {r:(List bK)} (hm:SB l_ ah r):S 21 [dM l_,aC ah] [] (fB r) [] :=sp Tryz.func21 rfl<|sq hm El fun v1 hm=>by cases hm;exact re
theorem RG {n_:aK} {r:(List aW)} (hm:F5 n_ r):S 60 [wu n_] [] (fJ r) [] :=sp Tryz.func60 rfl<|by cases hm;exact re
theorem EI {l_:(List aK)} {ah:(List Int)} {r:(List aW)} (hm:zS l_ ah r):S 59 [dM l_,aC ah,.fn 60 []] [] (fJ r) [] :=sp Tryz.func59 rfl<|lf hm (fun g1=>⟨[(0,dM l_),(2,.fn 60 []),(7,.eH 0 0 g1.2.length false),(10,aC ah),(11,iV (ah.length:Int)),(12,iV g1.1)],[(0,some (.row 4 g1.2.length (bR G5 dI g1.2)))],1⟩) [(0,none)] [] <|fun aj g1 hm=>si hm (fun _ hm=>sn hm fun _ hm=>si hm (fun _ hm=>sn hm fun _ hm=>sq hm RG fun v3 hm=>s2 hm fun _ _ hm=>lc [(0,some 153)] [] hm) fun _ hm=>sn hm fun _ hm=>le hm) fun _ hm=>by cases hm;exact rt [0] []
theorem VE {l_:(List aK)} {ah:(List Int)} {r:(List aW)} (hm:WJ l_ ah r):S 23 [dM l_,aC ah] [] (fJ r) [] :=sp Tryz.func23 rfl<|sq hm EI fun v1 hm=>by cases hm;exact re
theorem JY {n_:aK} {r:(List ByteArray)} (hm:wB n_ r):S 134 [wu n_] [] (gG r) [] :=sp Tryz.func134 rfl<|by cases hm;exact re
theorem Gr {l_:(List aK)} {ah:(List Int)} {r:(List ByteArray)} (hm:Bw l_ ah r):S 133 [dM l_,aC ah,.fn 134 []] [] (gG r) [] :=sp Tryz.func133 rfl<|lf hm (fun g1=>⟨[(0,dM l_),(2,.fn 134 []),(7,.eH 0 0 g1.2.length false),(10,aC ah),(11,iV (ah.length:Int)),(12,iV g1.1)],[(0,some (.row 1 g1.2.length (bR AV.str ByteArray.empty g1.2)))],1⟩) [(0,none)] [] <|fun aj g1 hm=>si hm (fun _ hm=>sn hm fun _ hm=>si hm (fun _ hm=>sn hm fun _ hm=>sq hm JY fun v3 hm=>s2 hm fun _ _ hm=>lc [(0,some 153)] [] hm) fun _ hm=>sn hm fun _ hm=>le hm) fun _ hm=>by cases hm;exact rt [0] []
theorem Oe {l_:(List aK)} {ah:(List Int)} {r:(List ByteArray)} (hm:Kj l_ ah r):S 89 [dM l_,aC ah] [] (gG r) [] :=sp Tryz.func89 rfl<|sq hm Gr fun v1 hm=>by cases hm;exact re
theorem PK {x_:bK} {pK:(List aI)} {r:Bool} (hm:qP x_ pK r):S 223 [yH x_,.ro [aZ pK]] [] (.bool r) [] :=sp Tryz.func223 rfl<|sn hm fun _ hm=>sq hm iX fun v1 hm=>sb hm fun v2 hv2 hm=>cl (fun q0=>(iX (hv2 q0)))<|sb hm fun v3 hv3 hm=>cl (fun q0=>(iX (hv3 q0)))<|by cases hm;exact re
theorem yZ {s_:(List bK)} {f_:(List aI)} {r:Int} (hm:sP s_ f_ r):S 241 [fB s_,.fn 223 [.ro [aZ f_]]] [] (iV r) [] :=sp Tryz.func241 rfl<|l0 hm (fun g1=>⟨[(0,fB s_),(1,.fn 223 [.ro [aZ f_]]),(7,iV (s_.length:Int)),(8,iV g1)],[],0⟩) <|fun aj g1 hm=>si hm (fun _ hm=>sn hm fun _ hm=>sq hm PK fun v3 hm=>si hm (fun _ hm=>by cases hm;exact re) fun _ hm=>sn hm fun _ hm=>le hm) fun _ hm=>by cases hm;exact re
theorem vS {s_:(List bK)} {f_:(List aI)} {r:Bool} (hm:lI s_ f_ r):S 222 [fB s_,.fn 223 [.ro [aZ f_]]] [] (.bool r) [] :=sp Tryz.func222 rfl<|sq hm yZ fun v1 hm=>by cases hm;exact re
theorem FI {l_:(List aI)} {m_:(List bK)} {r:Bool} (hm:wC l_ m_ r):S 184 [aZ l_,fB m_] [] (.bool r) [] :=sp Tryz.func184 rfl<|sq hm nZ fun v1 hm=>sb hm fun v2 hv2 hm=>cl (fun q0=>(vS (hv2 q0)))<|by cases hm;exact re
theorem TP {l_:(List aI)} {m_:(List bK)} {r:Int} (hm:Ce l_ m_ r):S 135 [aZ l_,fB m_] [] (iV r) [] :=sp Tryz.func135 rfl<|sq hm nZ fun v1 hm=>si hm (fun _ hm=>by cases hm;exact re) fun _ hm=>sq hm FI fun v2 hm=>si hm (fun _ hm=>by cases hm;exact re) fun _ hm=>by cases hm;exact re
theorem XK {l_:(List aI)} {m_:(List bK)} {r:(List jk)} (hm:Jk l_ m_ r):S 185 [aZ l_,fB m_] [] (G6 r) [] :=sp Tryz.func185 rfl<|lf hm (fun g1=>⟨[(0,aZ l_),(1,fB m_),(5,.eH 0 0 g1.2.length false),(10,fB m_),(11,iV (m_.length:Int)),(12,iV g1.1)],[(0,some (.row 5 g1.2.length (bR Yk wh g1.2)))],1⟩) [(0,none)] [] <|fun aj g1 hm=>si hm (fun _ hm=>s2 hm fun _ _ hm=>sn hm fun _ hm=>lc [(0,some 137)] [] hm) fun _ hm=>l0 hm (fun g2=>⟨[(1,fB m_),(5,.eH 0 0 g2.2.length false),(29,aZ l_),(30,iV (l_.length:Int)),(31,iV g2.1)],[(0,some (.row 5 g2.2.length (bR Yk wh g2.2)))],1⟩) <|fun dK g2 hm=>si hm (fun _ hm=>sn hm fun _ hm=>si hm (fun _ hm=>s2 hm fun _ _ hm=>sn hm fun _ hm=>lc [(0,some 177)] [] hm) fun _ hm=>sn hm fun _ hm=>le hm) fun _ hm=>by cases hm;exact rt [0] []
theorem uW {l_:(List aI)} {s_:(List Int)} {r:Bool} (hm:qj l_ s_ r):S 224 [aZ l_,aC s_] [] (.bool r) [] :=sp Tryz.func224 rfl<|si hm (fun _ hm=>by cases hm;exact re) fun _ hm=>l0 hm (fun g1=>⟨[(0,aZ l_),(12,aC s_),(13,iV (s_.length:Int)),(14,iV g1)],[],0⟩) <|fun aj g1 hm=>si hm (fun _ hm=>s2 hm fun _ _ hm=>sn hm fun _ hm=>sq hm iX fun v3 hm=>si hm (fun _ hm=>by cases hm;exact re) fun _ hm=>sn hm fun _ hm=>le hm) fun _ hm=>by cases hm;exact re
theorem FJ {l_:(List aI)} {s_:(List Int)} {jC:Int} {r:Int} (hm:wD l_ s_ jC r):S 242 [aZ l_,aC s_,iV jC] [] (iV r) [] :=sp Tryz.func242 rfl<|sn hm fun _ hm=>si hm (fun _ hm=>by cases hm;exact re) fun _ hm=>si hm (fun _ hm=>s2 hm fun _ _ hm=>sn hm fun _ hm=>by cases hm;exact re) fun _ hm=>sn hm fun _ hm=>by cases hm;exact re
theorem sG {a_:Int} {b_:Int} {r:Int} (hm:qQ a_ b_ r):S 253 [iV a_,iV b_] [] (iV r) [] :=sp Tryz.func253 rfl<|l0 hm (fun g1=>⟨[(0,iV g1.1),(1,iV g1.2)],[],0⟩) <|fun aj g1 hm=>si hm (fun _ hm=>sn hm fun _ hm=>le hm) fun _ hm=>by cases hm;exact re
theorem uG {r_:bI} {r:Bool} (hm:uM r_ r):S 245 [pW r_] [] (.bool r) [] :=sp Tryz.func245 rfl<|sb hm fun v1 hv1 hm=>cl (fun q0=>(sG (hv1 q0)))<|by cases hm;exact re
theorem VF {Po:Int} {Za:Int} {pK:Int} {r:(Int×Int)} (hm:EU Po Za pK r):S 252 [.ro [iV Po,iV Za],.ro [iV pK]] [] (.kH [iV r.1,iV r.2]) [] :=sp Tryz.func252 rfl<|sq hm sG fun v1 hm=>s2 hm fun _ _ hm=>sn hm fun _ hm=>by cases hm;exact re
theorem QF {wE:Int} {wF:Int} {r:(bI×Int)} (hm:MI wE wF r):S 256 [iV wE,iV wF] [] (.kH [pW r.1,iV r.2]) [] :=sp Tryz.func256 rfl<|si hm (fun _ hm=>by cases hm;exact re) fun _ hm=>sq hm sG fun v1 hm=>s2 hm fun _ _ hm=>sq hm uG fun v2 hm=>si hm (fun _ hm=>by cases hm;exact re) fun _ hm=>by cases hm;exact re
theorem VG {r_:bI} {k_:Int} {oP:Int} {oQ:Int} {oU:Int} {r:(bI×Int)} (hm:EW r_ k_ oP oQ oU r):S 251 [pW r_,iV k_,.fn 252 [.ro [iV oP,iV oQ],.ro [iV oU]]] [] (.kH [pW r.1,iV r.2]) [] :=sp Tryz.func251 rfl<|sq hm uG fun v1 hm=>si hm (fun _ hm=>by cases hm;exact re) fun _ hm=>si hm (fun _ hm=>by cases hm;exact re) fun _ hm=>sq hm VF fun v2 hm=>sq hm QF fun v3 hm=>by cases hm;exact re
theorem Og {r_:bI} {k_:Int} {r:(bI×Int)} (hm:He r_ k_ r):S 243 [pW r_,iV k_] [] (.kH [pW r.1,iV r.2]) [] :=sp Tryz.func243 rfl<|sq hm VG fun v1 hm=>by cases hm;exact re
theorem TQ {iM:Int} {AJ:Int} {uN:Int} {r:(Int×Int)} (hm:Cg iM AJ uN r):S 254 [.ro [iV iM],.ro [iV AJ,iV uN]] [] (.kH [iV r.1,iV r.2]) [] :=sp Tryz.func254 rfl<|sq hm sG fun v1 hm=>s2 hm fun _ _ hm=>si hm (fun _ hm=>by cases hm;exact re) fun _ hm=>s2 hm fun _ _ hm=>sn hm fun _ hm=>by cases hm;exact re
theorem PL {r_:bI} {k_:Int} {oP:Int} {oQ:Int} {oU:Int} {r:(bI×Int)} (hm:wG r_ k_ oP oQ oU r):S 251 [pW r_,iV k_,.fn 254 [.ro [iV oP],.ro [iV oQ,iV oU]]] [] (.kH [pW r.1,iV r.2]) [] :=sp Tryz.func251 rfl<|sq hm uG fun v1 hm=>si hm (fun _ hm=>by cases hm;exact re) fun _ hm=>si hm (fun _ hm=>by cases hm;exact re) fun _ hm=>sq hm TQ fun v2 hm=>sq hm QF fun v3 hm=>by cases hm;exact re
theorem Lc {r_:bI} {k_:Int} {r:(bI×Int)} (hm:Dr r_ k_ r):S 244 [pW r_,iV k_] [] (.kH [pW r.1,iV r.2]) [] :=sp Tryz.func244 rfl<|sq hm PL fun v1 hm=>by cases hm;exact re
theorem VH {l_:(List aI)} {dH:(List Int)} {r:(List bI)} (hm:EX l_ dH r):S 225 [aZ l_,.eH 0 0 dH.length false] [.row 1 dH.length (bR iV 0 dH)] (qM r) [.row 1 dH.length (bR iV 0 dH)] :=sp Tryz.func225 rfl<|sn hm fun _ hm=>lf hm (fun g1=>⟨[(0,aZ l_),(1,.eH 0 0 dH.length false),(5,.eH 1 0 g1.2.length false),(13,aZ l_),(14,iV (l_.length:Int)),(15,iV g1.1)],[(0,some (.row 1 dH.length (bR iV 0 dH))),(1,some (.row 2 g1.2.length (bR pW dV g1.2)))],2⟩) [(1,some 25)] [] <|fun aj g1 hm=>si hm (fun _ hm=>s2 hm fun _ _ hm=>sn hm fun _ hm=>sq hm FJ fun v7 hm=>si hm (fun _ hm=>s2 hm fun _ _ hm=>le hm) fun _ hm=>sn hm fun _ hm=>si hm (fun _ hm=>s2 hm fun _ _ hm=>le hm) fun _ hm=>si hm (fun _ hm=>sn hm fun _ hm=>sq hm Og fun v8 hm=>s2 hm fun _ _ hm=>le hm) fun _ hm=>si hm (fun _ hm=>sn hm fun _ hm=>sq hm Lc fun v9 hm=>s2 hm fun _ _ hm=>le hm) fun _ hm=>s2 hm fun _ _ hm=>sn hm fun _ hm=>le hm) fun _ hm=>by cases hm;exact rt [1] []
theorem VI {l_:(List aI)} {dH:(List Int)} {r:((List bI)×Int)} (hm:EY l_ dH r):S 186 [aZ l_,.eH 0 0 dH.length false] [.row 1 dH.length (bR iV 0 dH)] (.kH [qM r.1,iV r.2]) [.row 1 dH.length (bR iV 0 dH)] :=sp Tryz.func186 rfl<|sq hm nZ fun v1 hm=>si hm (fun _ hm=>by cases hm;exact re) fun _ hm=>sq hm uW fun v2 hm=>si hm (fun _ hm=>by cases hm;exact re) fun _ hm=>sq hm VH fun v3 hm=>by cases hm;exact re
theorem y7 {r_:bI} {Ch:Int} {nV:Int} {r:Bool} (hm:vk r_ Ch nV r):S 226 [pW r_,iV Ch,iV nV] [] (.bool r) [] :=sp Tryz.func226 rfl<|sq hm uG fun v1 hm=>si hm (fun _ hm=>by cases hm;exact re) fun _ hm=>s2 hm fun _ _ hm=>by cases hm;exact re
theorem EJ {b_:jk} {r_:bI} {r:Bool} (hm:mX b_ r_ r):S 187 [Yk b_,pW r_] [] (.bool r) [] :=sp Tryz.func187 rfl<|si hm (fun _ hm=>by cases hm;exact re) fun _ hm=>sq hm y7 fun v1 hm=>by cases hm;exact re
theorem LJ {dH:(List Int)} {r:(List Int)} (hm:slices_Clone_int dH r):S 47 [.eH 0 0 dH.length false] [.row 1 dH.length (bR iV 0 dH)] (.eH 1 0 r.length false) [.row 1 dH.length (bR iV 0 dH),.row 1 r.length (bR iV 0 r)] :=by
 obtain ⟨h1,hm⟩:=hm
 have hm:r=dH:=hm
 subst hm
 refine nD (ct:=[1]) iT Tryz.func47 rfl rfl (Nat.le_of_ble_eq_true rfl) dk (Nat.le_of_ble_eq_true rfl) ?_
 (conv=>whnf)
 refine QZ (ct:=[]) iT (iT.slice (t:=22) (e:=3) rfl rfl rfl).1 dk dk dk dk dk [(2,.sl 0 0 true fG),(0,.eH 0 0 r.length false)] [(0,some (.row 1 r.length (bR iV 0 r)))] 9 rfl rfl ?_ (fun hn=>?_) ?_
 ·exact rfl
 ·(conv=>whnf)
  have hn:r.length=0:=hn
  refine ⟨[],[(1,none)],?_⟩
  (conv=>whnf)
  exact ⟨⟨rfl,trivial,⟨⟨rfl,rfl,fun _ _=>.refl _⟩,hn,trivial⟩⟩,⟨rfl,rfl,rfl,rfl,rfl,hn⟩⟩
 ·(conv=>whnf)
  refine ⟨by rw [Nat.zero_add]; exact h1,?_⟩
  (conv=>whnf)
  refine ⟨[],[(1,some 25)],?_⟩
  (conv=>whnf)
  exact ⟨⟨rfl,trivial,⟨⟨rfl,rfl,fun _ _=>.refl _⟩,⟨rfl,Nat.zero_add _,j4 (l:=[]) rfl (fun _ h=>absurd h (Nat.not_lt_zero _)) rfl (fun _ _=>.refl _)⟩,trivial⟩⟩,⟨rfl,rfl,rfl,Nat.zero_add _,nofun⟩⟩
theorem PN {Yl:Int} {dH:(List Int)} {o1_:(List Int)} {o2_:Bool} {r:(Bool×(List Int)×Bool)} (hm:wH Yl dH o1_ o2_ r):S 137 [.eH 0 0 dH.length false,.int .u64 Yl,.ptr 1 0 0,.ptr 2 0 0] [.row 1 dH.length (bR iV 0 dH),.box [aC o1_],.box [.bool o2_]] (.bool r.1) [.row 1 dH.length (bR iV 0 dH),.box [aC r.2.1],.box [.bool r.2.2]] :=sp Tryz.func137 rfl<|si hm (fun _ hm=>sq hm LJ fun v1 hm=>by cases hm;exact rt [35] []) fun _ hm=>by cases hm;exact re
theorem TR {l_:(List aI)} {m_:(List bK)} {dH:(List Int)} {o1_:Bool} {r:((List Int)×Bool)} (hm:Ci l_ m_ dH o1_ r):S 136 [aZ l_,fB m_,.fn 137 [.ptr 0 0 0,.ptr 1 0 0]] [.box [aC dH],.box [.bool o1_]] (.kH []) [.box [aC r.1],.box [.bool r.2]] :=spc [14] Tryz.func136 rfl<|sq hm XK fun v1 hm=>sn hm fun _ hm=>R3 [14] hm (fun g1=>⟨[(0,aZ l_),(2,.fn 137 [.ptr 0 0 0,.ptr 1 0 0]),(6,G6 v1),(7,.eH 2 0 g1.2.2.length false)],[(0,some (.box [aC g1.1])),(1,some (.box [.bool g1.2.1])),(2,some (.row 1 g1.2.2.length (bR iV 0 g1.2.2)))],3⟩) [(2,some 50)] [] <|fun aj g1 hm=>sq hm VI fun v12 hm=>R3 [14] hm (fun g10=>⟨[(0,aZ l_),(2,.fn 137 [.ptr 0 0 0,.ptr 1 0 0]),(6,G6 v1),(7,.eH 2 0 g1.2.2.length false),(8,qM v12.1),(10,.int .u64 g10.1),(26,G6 v1),(27,iV (v1.length:Int)),(28,iV g10.2)],[(0,some (.box [aC g1.1])),(1,some (.box [.bool g1.2.1])),(2,some (.row 1 g1.2.2.length (bR iV 0 g1.2.2)))],3⟩) [] [] <|fun acs g10 hm=>si hm (fun _ hm=>s2 hm fun _ _ hm=>sq hm EJ fun v15 hm=>si hm (fun _ hm=>s2 hm fun _ _ hm=>le hm) fun _ hm=>sn hm fun _ hm=>le hm) fun _ hm=>sq hm PN fun v16 hm=>si hm (fun _ hm=>by cases hm;exact re) fun _ hm=>sn hm fun _ hm=>ck [14] (yK g1 aj v16) r (fun g12=>⟨[(0,aZ l_),(2,.fn 137 [.ptr 0 0 0,.ptr 1 0 0]),(6,G6 v1),(7,.eH 2 0 g1.2.2.length false),(13,iV g12)],[(0,some (.box [aC v16.2.1])),(1,some (.box [.bool v16.2.2])),(2,some (.row 1 g1.2.2.length (bR iV 0 g1.2.2)))],3⟩) (R3 [14] hm (fun g13=>⟨[(0,aZ l_),(2,.fn 137 [.ptr 0 0 0,.ptr 1 0 0]),(6,G6 v1),(7,.eH 2 0 g1.2.2.length false),(13,iV g13)],[(0,some (.box [aC v16.2.1])),(1,some (.box [.bool v16.2.2])),(2,some (.row 1 g1.2.2.length (bR iV 0 g1.2.2)))],3⟩) [] [] <|fun af8 g13 hm=>s2 hm fun _ _ hm=>sn hm fun _ hm=>si hm (fun _ hm=>sn hm fun _ hm=>le hm) fun _ hm=>le hm) fun g12 hm=>si hm (fun _ hm=>by cases hm;exact re) fun _ hm=>s2 hm fun _ _ hm=>s2 hm fun _ _ hm=>sn hm fun _ hm=>lce [] [] hm ⟨rfl,⟨sr,⟨rfl,r4,r4,trivial⟩,sr,⟨rfl,rfl,rfl,oz,nofun⟩,trivial⟩,⟨⟨sf,trivial⟩,⟨rfl,trivial⟩,⟨rfl,oz,(acp oz (ET (fun _ _=>.refl _) rfl (.refl _)) oz (Sy iV 0))⟩,trivial⟩⟩
theorem TS {l_:(List aI)} {m_:(List bK)} {r:((List Int)×Int)} (hm:Cj l_ m_ r):S 90 [aZ l_,fB m_] [] (.kH [aC r.1,iV r.2]) [] :=sp Tryz.func90 rfl<|sq hm TP fun v1 hm=>si hm (fun _ hm=>by cases hm;exact re) fun _ hm=>sb hm fun v2 hv2 hm=>cl ((TR hv2).le ⟨.refl _,.refl _,.refl _,trivial⟩ ⟨⟨(.sl rfl (fun h=>absurd rfl h) nofun (fun _ h=>absurd h (Nat.not_lt_zero _))),trivial⟩,kS _,trivial⟩)<|si hm (fun _ hm=>by cases hm;exact re) fun _ hm=>by cases hm;exact re
theorem PO {x_:aW} {pK:(List ay)} {r:Bool} (hm:qR x_ pK r):S 227 [G5 x_,.ro [aU pK]] [] (.bool r) [] :=sp Tryz.func227 rfl<|sn hm fun _ hm=>sq hm iq fun v1 hm=>sb hm fun v2 hv2 hm=>cl (fun q0=>(iq (hv2 q0)))<|sb hm fun v3 hv3 hm=>cl (fun q0=>(iq (hv3 q0)))<|sb hm fun v4 hv4 hm=>cl (fun q0=>(iq (hv4 q0)))<|by cases hm;exact re
theorem Am {s_:(List aW)} {f_:(List ay)} {r:Int} (hm:tJ s_ f_ r):S 231 [fJ s_,.fn 227 [.ro [aU f_]]] [] (iV r) [] :=sp Tryz.func231 rfl<|l0 hm (fun g1=>⟨[(0,fJ s_),(1,.fn 227 [.ro [aU f_]]),(7,iV (s_.length:Int)),(8,iV g1)],[],0⟩) <|fun aj g1 hm=>si hm (fun _ hm=>sn hm fun _ hm=>sq hm PO fun v3 hm=>si hm (fun _ hm=>by cases hm;exact re) fun _ hm=>sn hm fun _ hm=>le hm) fun _ hm=>by cases hm;exact re
theorem xK {s_:(List aW)} {f_:(List ay)} {r:Bool} (hm:lV s_ f_ r):S 194 [fJ s_,.fn 227 [.ro [aU f_]]] [] (.bool r) [] :=sp Tryz.func194 rfl<|sq hm Am fun v1 hm=>by cases hm;exact re
theorem FK {l_:(List ay)} {d_:(List aW)} {r:Bool} (hm:wI l_ d_ r):S 188 [aU l_,fJ d_] [] (.bool r) [] :=sp Tryz.func188 rfl<|sq hm qH fun v1 hm=>sb hm fun v2 hv2 hm=>cl (fun q0=>(xK (hv2 q0)))<|by cases hm;exact re
theorem TT {l_:(List ay)} {d_:(List aW)} {r:Int} (hm:Jl l_ d_ r):S 138 [aU l_,fJ d_] [] (iV r) [] :=sp Tryz.func138 rfl<|sq hm qH fun v1 hm=>si hm (fun _ hm=>by cases hm;exact re) fun _ hm=>sq hm FK fun v2 hm=>si hm (fun _ hm=>by cases hm;exact re) fun _ hm=>by cases hm;exact re
theorem Oh {x_:Int} {y_:Int} {r:(Int×Int)} (hm:Km x_ y_ r):S 247 [.int .u64 x_,.int .u64 y_] [] (.kH [.int .u64 r.1,.int .u64 r.2]) [] :=sp Tryz.func247 rfl<|s2 hm fun _ _ hm=>s2 hm fun _ _ hm=>sn hm fun _ hm=>by cases hm;exact re
theorem RH {x_:Int} {y_:Int} {r:(Int×Int)} (hm:zu x_ y_ r):S 228 [.int .u64 x_,.int .u64 y_] [] (.kH [.int .u64 r.1,.int .u64 r.2]) [] :=sp Tryz.func228 rfl<|sq hm Oh fun v1 hm=>by cases hm;exact re
theorem CX {x_:(List fT)} {Jm:Int} {r:(List fT)} (hm:lW x_ Jm r):S 189 [Sz x_,iV Jm] [] (.eH 0 0 r.length false) [.row 3 r.length (bR zo jL r)] :=spc [3,6] Tryz.func189 rfl<|ck [3,6] (mK x_ Jm) r (fun g1=>⟨[(0,Sz x_),(1,iV Jm)],[],0⟩) (by
 have c7:=hm.1
 have hm:=hm.2
 refine Sw (fun q=>Bool.noConfusion (c7.symm.trans q)) (fun _=>?_)
 (conv=>whnf)
 exact ⟨(),[],[],hm,⟨rfl,⟨sr,r2,trivial⟩,trivial⟩⟩) fun g1 hm=>sq hm RH fun v1 hm=>ck [3,6] (mJ x_ v1) r (fun g2=>⟨[(0,Sz x_),(6,.int .u64 v1.2)],[],0⟩) (by
 have c6:=hm.1
 have hm:=hm.2
 refine Sw (fun q=>Bool.noConfusion (c6.symm.trans q)) (fun _=>?_)
 (conv=>whnf)
 exact ⟨(),[],[],hm,⟨rfl,⟨sr,r2,trivial⟩,trivial⟩⟩) fun g2 hm=>sn hm fun _ hm=>lfe [3,6] hm (fun g3=>⟨[(7,.eH 0 0 g3.2.length false),(8,iV g3.1)],[(0,some (.row 3 g3.2.length (bR zo jL g3.2)))],1⟩) [(0,some 16)] [] ⟨rfl,⟨⟨rfl,rfl,rfl,oz,nofun⟩,r2,trivial⟩,⟨⟨rfl,oz,(acp oz (Sy zo jL) oz (lN (f:=zo) (d:=jL) (by first | omega | exact Nat.min_le_left _ _ | exact Nat.le_trans (Nat.min_le_left _ _) om | (simp; omega))))⟩,trivial⟩⟩ <|fun jB g3 hm=>si hm (fun _ hm=>s2 hm fun _ _ hm=>sn hm fun _ hm=>lce [] [] hm ⟨rfl,⟨⟨rfl,rfl,rfl,oz,nofun⟩,r2,trivial⟩,⟨⟨rfl,oz,(acp rfl (fun _ _=>.refl _) oz (lN (f:=zo) (d:=jL) (by first | omega | exact Nat.min_le_left _ _ | exact Nat.le_trans (Nat.min_le_left _ _) om | (simp; omega))))⟩,trivial⟩⟩) fun _ hm=>by cases hm;exact re
theorem lg {s_:(List ay)} {r:(List ay)} (hm:iQ s_ r):S 190 [aU s_] [] (.fn 229 [.ro [aU r]]) [] :=by
 have hm:r=s_:=hm
 subst hm
 exact aaY r
theorem y8 {l_:(List ay)} {d_:(List aW)} {r:(List Bool)} (hm:vo l_ d_ r):S 140 [aU l_,fJ d_] [] (aT r) [] :=spc [11] Tryz.func140 rfl<|sn hm fun _ hm=>R3 [11] hm (fun g1=>⟨[(0,aU l_),(5,.ptr 0 0 0),(13,fJ d_),(14,iV (d_.length:Int)),(15,iV g1.1)],[(0,some (.box [.eH 1 0 g1.2.length false])),(1,some (.row 1 g1.2.length (bR AV.bool false g1.2)))],2⟩) [(0,some 32),(1,some 24)] [] <|fun aj g1 hm=>si hm (fun _ hm=>s2 hm fun _ _ hm=>sn hm fun _ hm=>le hm) fun _ hm=>sq hm lg fun v1 hm=>by
 have h11:=hm.1
 have hm:=hm.2
 refine Va (ct:=[11]) (ct':=[11]) iT dk dk dk dk (VB v1 h11) rfl (by intro v hv; simp at hv; exact ⟨_,hv⟩) hm (fun g2=>⟨[(5,.ptr 0 0 0),(25,.fn 229 [.ro [aU v1]])],[(0,some (.box [.eH 1 0 g2.length false])),(1,some (.row 1 g2.length (bR AV.bool false g2)))],2⟩) (fun k2 g2=>⟨[(5,.ptr 0 0 0),(8,iV ((v1.length - 1 - k2:Nat):Int)),(9,.ptr 2 0 0)],[(0,some (.box [.eH 1 0 g2.length false])),(1,some (.row 1 g2.length (bR AV.bool false g2))),(2,some (.box [iV ((v1.getD (v1.length - 1 - k2) au).aN),aC ((v1.getD (v1.length - 1 - k2) au).bJ),iV ((v1.getD (v1.length - 1 - k2) au).gB),iV ((v1.getD (v1.length - 1 - k2) au).gY),.bool ((v1.getD (v1.length - 1 - k2) au).fQ)]))],3⟩) (fun _ _=>r2) [] ⟨rfl,⟨r4,⟨rfl,QK.refl _,trivial⟩,trivial⟩,⟨⟨⟨rfl,rfl,rfl,rfl,nofun⟩,trivial⟩,⟨rfl,rfl,(fun _ _=>.refl _)⟩,trivial⟩⟩ ?_ ?_ ?_
 ·intro k2 ll g2 hk
  refine ⟨Nat.le_of_ble_eq_true rfl,?_⟩
  (conv=>whnf)
  exact ⟨[(2,some 10)],⟨rfl,⟨r4,r2,r4,trivial⟩,⟨⟨⟨rfl,rfl,rfl,rfl,nofun⟩,trivial⟩,⟨rfl,rfl,(fun _ _=>.refl _)⟩,⟨r2,sr,r2,r2,rfl,trivial⟩,trivial⟩⟩⟩
 ·intro k2 ll dK g2 hk hm
  (conv=>whnf)
  refine Y6 (ct:=[11]) iT dk dk (AL v1 dK k2) r (fun g5=>⟨[(5,.ptr 0 0 0),(8,iV ((v1.length - 1 - k2:Nat):Int)),(9,.ptr 2 0 0)],[(0,some (.box [.eH 1 0 g5.length false])),(1,some (.row 1 g5.length (bR AV.bool false g5))),(2,some (.box [iV ((v1.getD (v1.length - 1 - k2) au).aN),aC ((v1.getD (v1.length - 1 - k2) au).bJ),iV ((v1.getD (v1.length - 1 - k2) au).gB),iV ((v1.getD (v1.length - 1 - k2) au).gY),.bool ((v1.getD (v1.length - 1 - k2) au).fQ)]))],3⟩) ?_ (fun g5 hm=>?_)
  ·(conv=>whnf)
   refine aY hm fun h28 hm=>?_
   (conv=>whnf)
   refine aY hm fun h29 hm=>?_
   (conv=>whnf)
   exact ⟨(g2.set (((v1.length - 1 - k2:Nat):Int).toNat) ((g2.getD (((v1.length - 1 - k2:Nat):Int).toNat) false)||(v1.getD (v1.length - 1 - k2) au).fQ)),[],[],hm,⟨rfl,⟨r4,r2,r4,trivial⟩,⟨⟨⟨rfl,rfl,rfl,oz,nofun⟩,trivial⟩,⟨rfl,oz,(ET (fun _ _=>.refl _) rfl (.refl _))⟩,⟨r2,sr,r2,r2,rfl,trivial⟩,trivial⟩⟩⟩
  ·(conv=>whnf)
   refine aY hm fun h26 hm=>?_
   (conv=>whnf)
   refine iU hm (fun c6 hm=>?_) (fun c6 hm=>?_)
   ·(conv=>whnf)
    refine aY hm fun h27 hm=>?_
    (conv=>whnf)
    exact ⟨(g5.set (((v1.getD (v1.length - 1 - k2) au).aN).toNat) true),[],hm,⟨rfl,⟨r4,⟨rfl,QK.refl _,trivial⟩,trivial⟩,⟨⟨⟨rfl,rfl,rfl,oz,nofun⟩,trivial⟩,⟨rfl,oz,(ET (fun _ _=>.refl _) rfl (.refl _))⟩,trivial⟩⟩⟩
   ·(conv=>whnf)
    exact ⟨g5,[],hm,⟨rfl,⟨r4,⟨rfl,QK.refl _,trivial⟩,trivial⟩,⟨⟨⟨rfl,rfl,rfl,rfl,nofun⟩,trivial⟩,⟨rfl,rfl,(fun _ _=>.refl _)⟩,trivial⟩⟩⟩
 ·intro g2 hm
  (conv=>whnf)
  have hm:r=g2:=hm
  subst hm
  refine ⟨[1],[],?_⟩
  (conv=>whnf)
  exact ⟨⟨rfl,trivial,trivial⟩,sf⟩
theorem Em {x_:Int} {r:Bool} (hm:cmp_isNaN_int x_ r):S 255 [iV x_] [] (.bool r) [] :=sp Tryz.func255 rfl<|by cases hm;exact re
theorem TU {x_:Int} {y_:Int} {r:Bool} (hm:cmp_Less_int x_ y_ r):S 248 [iV x_,iV y_] [] (.bool r) [] :=sp Tryz.func248 rfl<|sq hm Em fun v1 hm=>sb hm fun v2 hv2 hm=>cl (fun q0=>(Em (hv2 q0)))<|by cases hm;exact re
theorem yB {x_:Int} {r:Bool} (hm:yL x_ r):S 249 [iV x_] [] (.bool r) [] :=sp Tryz.func249 rfl<|by cases hm;exact re
theorem Bn {x_:(List Int)} {nL:Int} {r:(Int×Bool)} (hm:slices_BinarySearch_int x_ nL r):S 230 [aC x_,iV nL] [] (.kH [iV r.1,.bool r.2]) [] :=spc [8] Tryz.func230 rfl<|ck [8] (l6 x_ nL) r (fun g2=>⟨[(0,aC x_),(1,iV nL),(6,iV (x_.length:Int)),(7,iV g2)],[],0⟩) (R3 [8] hm (fun g3=>⟨[(0,aC x_),(1,iV nL),(6,iV (x_.length:Int)),(7,iV g3.1),(8,iV g3.2)],[],0⟩) [] [] <|fun jB g3 hm=>si hm (fun _ hm=>s2 hm fun _ _ hm=>sn hm fun _ hm=>sq hm TU fun v8 hm=>si hm (fun _ hm=>sn hm fun _ hm=>le hm) fun _ hm=>le hm) fun _ hm=>le hm) fun g2 hm=>s2 hm fun _ _ hm=>sb hm fun v4 hv4 hm=>cl (fun q0 q1=>(yB (hv4 q0 q1)))<|sb hm fun v5 hv5 hm=>cl (fun q0 q1 q2=>(yB (hv5 q0 q1 q2)))<|by cases hm;exact re
theorem TV {s_:ay} {SC:Int} {r:(Int×Bool)} (hm:Jo s_ SC r):S 191 [Cb s_,iV SC] [] (.kH [iV r.1,.bool r.2]) [] :=sp Tryz.func191 rfl<|sq hm Bn fun v1 hm=>by cases hm;exact re
theorem PS {l_:(List ay)} {d_:(List aW)} {r:((List fT)×(List Int)×Int)} (hm:wJ l_ d_ r):S 139 [aU l_,fJ d_] [] (.kH [Sz r.1,aC r.2.1,iV r.2.2]) [] :=sp Tryz.func139 rfl<|sb hm fun v1 hv1 hm=>cl ((CX hv1).le ⟨(.sl rfl (fun _=>rfl) nofun (gM zo jL [(⟨(0:Int),(-1:Int),(-1:Int)⟩:fT)])),.refl _,trivial⟩ trivial)<|sn hm fun _ hm=>lf hm (fun g1=>⟨[(0,aU l_),(1,fJ d_),(4,.ptr 0 0 0),(5,.ptr 1 0 0),(6,.ptr 2 0 0),(23,fJ d_),(24,iV (d_.length:Int)),(25,iV g1.1)],[(0,some (.box [.eH 3 0 g1.2.1.length false])),(1,some (.box [.eH 4 0 g1.2.2.length false])),(2,some (.box [iV (0:Int)])),(3,some (.row 3 g1.2.1.length (bR zo jL g1.2.1))),(4,some (.row 1 g1.2.2.length (bR iV 0 g1.2.2)))],5⟩) [(1,some 8),(2,some 16),(3,some 56),(4,some 80)] [] <|fun aj g1 hm=>si hm (fun _ hm=>s2 hm fun _ _ hm=>si hm (fun _ hm=>s2 hm fun _ _ hm=>le hm) fun _ hm=>sn hm fun _ hm=>le hm) fun _ hm=>sq hm y8 fun v2 hm=>sq hm lg fun v3 hm=>by
 have h17:=hm.1
 have hm:=hm.2
 refine Va (ct:=[]) (ct':=[]) iT dk dk dk dk (VB v3 h17) rfl (by intro v hv; simp at hv; exact ⟨_,hv⟩) hm (fun g2=>⟨[(4,.ptr 0 0 0),(5,.ptr 1 0 0),(6,.ptr 2 0 0),(9,.ptr 3 0 0),(52,.fn 229 [.ro [aU v3]])],[(0,some (.box [.eH 4 0 g2.1.length false])),(1,some (.box [.eH 5 0 g2.2.length false])),(2,some (.box [iV (0:Int)])),(3,some (.box [aT v2])),(4,some (.row 3 g2.1.length (bR zo jL g2.1))),(5,some (.row 1 g2.2.length (bR iV 0 g2.2)))],6⟩) (fun k2 g2=>⟨[(4,.ptr 0 0 0),(5,.ptr 1 0 0),(6,.ptr 2 0 0),(9,.ptr 3 0 0),(10,iV ((v3.length - 1 - k2:Nat):Int)),(11,.ptr 6 0 0)],[(0,some (.box [.eH 4 0 g2.1.length false])),(1,some (.box [.eH 5 0 g2.2.length false])),(2,some (.box [iV (0:Int)])),(3,some (.box [aT v2])),(4,some (.row 3 g2.1.length (bR zo jL g2.1))),(5,some (.row 1 g2.2.length (bR iV 0 g2.2))),(6,some (.box [iV ((v3.getD (v3.length - 1 - k2) au).aN),aC ((v3.getD (v3.length - 1 - k2) au).bJ),iV ((v3.getD (v3.length - 1 - k2) au).gB),iV ((v3.getD (v3.length - 1 - k2) au).gY),.bool ((v3.getD (v3.length - 1 - k2) au).fQ)]))],7⟩) (fun _ _=>r2) [(3,some 37),(4,some 3),(5,some 4)] ⟨rfl,⟨r4,r4,r4,r4,⟨rfl,QK.refl _,trivial⟩,trivial⟩,⟨⟨⟨rfl,rfl,rfl,rfl,nofun⟩,trivial⟩,⟨⟨rfl,rfl,rfl,rfl,nofun⟩,trivial⟩,⟨r2,trivial⟩,⟨sr,trivial⟩,⟨rfl,rfl,(fun _ _=>.refl _)⟩,⟨rfl,rfl,(fun _ _=>.refl _)⟩,trivial⟩⟩ ?_ ?_ ?_
 ·intro k2 ll g2 hk
  refine ⟨Nat.le_of_ble_eq_true rfl,?_⟩
  (conv=>whnf)
  exact ⟨[(6,some 14)],⟨rfl,⟨r4,r4,r4,r4,r2,r4,trivial⟩,⟨⟨⟨rfl,rfl,rfl,rfl,nofun⟩,trivial⟩,⟨⟨rfl,rfl,rfl,rfl,nofun⟩,trivial⟩,⟨r2,trivial⟩,⟨sr,trivial⟩,⟨rfl,rfl,(fun _ _=>.refl _)⟩,⟨rfl,rfl,(fun _ _=>.refl _)⟩,⟨r2,sr,r2,r2,rfl,trivial⟩,trivial⟩⟩⟩
 ·intro k2 ll dK g2 hk hm
  (conv=>whnf)
  refine aY hm fun h32 hm=>?_
  (conv=>whnf)
  refine iU hm (fun c13 hm=>?_) (fun c13 hm=>?_)
  ·(conv=>whnf)
   exact ⟨(g2.1,g2.2),[],hm,⟨rfl,⟨r4,r4,r4,r4,⟨rfl,QK.refl _,trivial⟩,trivial⟩,⟨⟨⟨rfl,rfl,rfl,rfl,nofun⟩,trivial⟩,⟨⟨rfl,rfl,rfl,rfl,nofun⟩,trivial⟩,⟨r2,trivial⟩,⟨sr,trivial⟩,⟨rfl,rfl,(fun _ _=>.refl _)⟩,⟨rfl,rfl,(fun _ _=>.refl _)⟩,trivial⟩⟩⟩
  ·(conv=>whnf)
   refine aY hm fun h33 hm=>?_
   (conv=>whnf)
   refine iI hm fun v6 hv6 hm=>?_
   refine ⟨_,_,(TV hv6),?_⟩
   (conv=>whnf)
   refine iU hm (fun c14 hm=>?_) (fun c14 hm=>?_)
   ·(conv=>whnf)
    have hm:r=(g2.1,g2.2,((v3.length - 1 - k2:Nat):Int)):=hm
    subst hm
    refine ⟨[4,5],[],?_⟩
    (conv=>whnf)
    exact ⟨⟨rfl,trivial,trivial⟩,(by (conv=>whnf); exact ⟨(by (conv=>whnf); exact sf),(by (conv=>whnf); exact ⟨(by (conv=>whnf); exact sf),(by (conv=>whnf); exact ⟨(by first | ((conv=>whnf); exact r2) | exact r2),trivial⟩)⟩)⟩)⟩
   ·(conv=>whnf)
    refine aY hm fun h34 hm=>?_
    (conv=>whnf)
    refine aY hm fun h35 hm=>?_
    (conv=>whnf)
    refine aY hm fun h36 hm=>?_
    (conv=>whnf)
    refine aY hm fun h37 hm=>?_
    (conv=>whnf)
    refine iU hm (fun c15 hm=>?_) (fun c15 hm=>?_)
    ·(conv=>whnf)
     refine aY hm fun h38 hm=>?_
     (conv=>whnf)
     exact ⟨((g2.1.set (((v3.getD (v3.length - 1 - k2) au).aN).toNat) (⟨((((v3.getD (v3.length - 1 - k2) au).bJ).getD v6.1.toNat 0)+(v3.getD (v3.length - 1 - k2) au).gB),(-1:Int),((v3.length - 1 - k2:Nat):Int)⟩:fT)),(g2.2.set (((v3.length - 1 - k2:Nat):Int).toNat) v6.1)),[],hm,⟨rfl,⟨r4,r4,r4,r4,⟨rfl,QK.refl _,trivial⟩,trivial⟩,⟨⟨⟨rfl,rfl,rfl,oz,nofun⟩,trivial⟩,⟨⟨rfl,rfl,rfl,oz,nofun⟩,trivial⟩,⟨r2,trivial⟩,⟨sr,trivial⟩,⟨rfl,oz,(ET (fun _ _=>.refl _) rfl (.refl _))⟩,⟨rfl,oz,(ET (fun _ _=>.refl _) rfl (.refl _))⟩,trivial⟩⟩⟩
    ·(conv=>whnf)
     exact ⟨(g2.1,(g2.2.set (((v3.length - 1 - k2:Nat):Int).toNat) v6.1)),[],hm,⟨rfl,⟨r4,r4,r4,r4,⟨rfl,QK.refl _,trivial⟩,trivial⟩,⟨⟨⟨rfl,rfl,rfl,rfl,nofun⟩,trivial⟩,⟨⟨rfl,rfl,rfl,oz,nofun⟩,trivial⟩,⟨r2,trivial⟩,⟨sr,trivial⟩,⟨rfl,rfl,(fun _ _=>.refl _)⟩,⟨rfl,oz,(ET (fun _ _=>.refl _) rfl (.refl _))⟩,trivial⟩⟩⟩
 ·intro g2 hm
  (conv=>whnf)
  have hm:r=(g2.1,g2.2,(-1:Int)):=hm
  subst hm
  refine ⟨[4,5],[],?_⟩
  (conv=>whnf)
  exact ⟨⟨rfl,trivial,trivial⟩,(by (conv=>whnf); exact ⟨(by (conv=>whnf); exact sf),(by (conv=>whnf); exact ⟨(by (conv=>whnf); exact sf),(by (conv=>whnf); exact ⟨(by first | ((conv=>whnf); exact r2) | exact r2),trivial⟩)⟩)⟩)⟩
theorem TW {l_:(List ay)} {r_:cO} {r:Bool} (hm:Cm l_ r_ r):S 192 [aU l_,Ay r_] [] (.bool r) [] :=sp Tryz.func192 rfl<|sq hm qH fun v1 hm=>si hm (fun _ hm=>by cases hm;exact re) fun _ hm=>l0 hm (fun g1=>⟨[(0,aU l_),(27,aC r_.dP),(28,iV (r_.dP.length:Int)),(29,iV g1)],[],0⟩) <|fun aj g1 hm=>si hm (fun _ hm=>s2 hm fun _ _ hm=>sn hm fun _ hm=>sq hm iq fun v4 hm=>si hm (fun _ hm=>by cases hm;exact re) fun _ hm=>sn hm fun _ hm=>le hm) fun _ hm=>by cases hm;exact re
theorem TY {l_:(List ay)} {d_:(List aW)} {r:(List Int)} (hm:Cn l_ d_ r):S 193 [aU l_,fJ d_] [] (aC r) [] :=sp Tryz.func193 rfl<|sn hm fun _ hm=>lf hm (fun g1=>⟨[(0,aU l_),(5,.ptr 0 0 0),(13,fJ d_),(14,iV (d_.length:Int)),(15,iV g1.1)],[(0,some (.box [.eH 1 0 g1.2.length false])),(1,some (.row 1 g1.2.length (bR iV 0 g1.2)))],2⟩) [(0,some 32),(1,some 24)] [] <|fun aj g1 hm=>si hm (fun _ hm=>s2 hm fun _ _ hm=>s2 hm fun _ _ hm=>sn hm fun _ hm=>le hm) fun _ hm=>sq hm lg fun v1 hm=>by
 have h17:=hm.1
 have hm:=hm.2
 refine Va (ct:=[]) (ct':=[]) iT dk dk dk dk (VB v1 h17) rfl (by intro v hv; simp at hv; exact ⟨_,hv⟩) hm (fun g2=>⟨[(5,.ptr 0 0 0),(30,.fn 229 [.ro [aU v1]])],[(0,some (.box [.eH 1 0 g2.length false])),(1,some (.row 1 g2.length (bR iV 0 g2)))],2⟩) (fun k2 g2=>⟨[(5,.ptr 0 0 0),(8,iV ((v1.length - 1 - k2:Nat):Int)),(9,.ptr 2 0 0)],[(0,some (.box [.eH 1 0 g2.length false])),(1,some (.row 1 g2.length (bR iV 0 g2))),(2,some (.box [iV ((v1.getD (v1.length - 1 - k2) au).aN),aC ((v1.getD (v1.length - 1 - k2) au).bJ),iV ((v1.getD (v1.length - 1 - k2) au).gB),iV ((v1.getD (v1.length - 1 - k2) au).gY),.bool ((v1.getD (v1.length - 1 - k2) au).fQ)]))],3⟩) (fun _ _=>r2) [] ⟨rfl,⟨r4,⟨rfl,QK.refl _,trivial⟩,trivial⟩,⟨⟨⟨rfl,rfl,rfl,rfl,nofun⟩,trivial⟩,⟨rfl,rfl,(fun _ _=>.refl _)⟩,trivial⟩⟩ ?_ ?_ ?_
 ·intro k2 ll g2 hk
  refine ⟨Nat.le_of_ble_eq_true rfl,?_⟩
  (conv=>whnf)
  exact ⟨[(2,some 10)],⟨rfl,⟨r4,r2,r4,trivial⟩,⟨⟨⟨rfl,rfl,rfl,rfl,nofun⟩,trivial⟩,⟨rfl,rfl,(fun _ _=>.refl _)⟩,⟨r2,sr,r2,r2,rfl,trivial⟩,trivial⟩⟩⟩
 ·intro k2 ll dK g2 hk hm
  (conv=>whnf)
  refine iU hm (fun c6 hm=>?_) (fun c6 hm=>?_)
  ·(conv=>whnf)
   refine aY hm fun h26 hm=>?_
   (conv=>whnf)
   refine aY hm fun h27 hm=>?_
   (conv=>whnf)
   refine aY hm fun h28 hm=>?_
   (conv=>whnf)
   refine aY hm fun h29 hm=>?_
   (conv=>whnf)
   exact ⟨(g2.set (((v1.getD (v1.length - 1 - k2) au).aN).toNat) ((g2.getD (((v1.getD (v1.length - 1 - k2) au).aN).toNat) 0)+(g2.getD (((v1.length - 1 - k2:Nat):Int).toNat) 0))),[],hm,⟨rfl,⟨r4,⟨rfl,QK.refl _,trivial⟩,trivial⟩,⟨⟨⟨rfl,rfl,rfl,oz,nofun⟩,trivial⟩,⟨rfl,oz,(ET (fun _ _=>.refl _) rfl (.refl _))⟩,trivial⟩⟩⟩
  ·(conv=>whnf)
   exact ⟨g2,[],hm,⟨rfl,⟨r4,⟨rfl,QK.refl _,trivial⟩,trivial⟩,⟨⟨⟨rfl,rfl,rfl,rfl,nofun⟩,trivial⟩,⟨rfl,rfl,(fun _ _=>.refl _)⟩,trivial⟩⟩⟩
 ·intro g2 hm
  (conv=>whnf)
  have hm:r=g2:=hm
  subst hm
  refine ⟨[1],[],?_⟩
  (conv=>whnf)
  exact ⟨⟨rfl,trivial,trivial⟩,sf⟩
theorem PU {x_:aW} {pK:(List ay)} {aik:(List Bool)} {Vb:(List Int)} {r:Bool} (hm:qV x_ pK aik Vb r):S 195 [G5 x_,.ro [aU pK],.ro [aT aik,aC Vb]] [] (.bool r) [] :=sp Tryz.func195 rfl<|s2 hm fun _ _ hm=>sn hm fun _ hm=>sq hm iq fun v1 hm=>by cases hm;exact re
theorem xL {s_:(List aW)} {AO:(List ay)} {Bz:(List Bool)} {BA:(List Int)} {r:Int} (hm:qA s_ AO Bz BA r):S 231 [fJ s_,.fn 195 [.ro [aU AO],.ro [aT Bz,aC BA]]] [] (iV r) [] :=sp Tryz.func231 rfl<|l0 hm (fun g1=>⟨[(0,fJ s_),(1,.fn 195 [.ro [aU AO],.ro [aT Bz,aC BA]]),(7,iV (s_.length:Int)),(8,iV g1)],[],0⟩) <|fun aj g1 hm=>si hm (fun _ hm=>sn hm fun _ hm=>sq hm PU fun v3 hm=>si hm (fun _ hm=>by cases hm;exact re) fun _ hm=>sn hm fun _ hm=>le hm) fun _ hm=>by cases hm;exact re
theorem tX {s_:(List aW)} {AO:(List ay)} {Bz:(List Bool)} {BA:(List Int)} {r:Bool} (hm:kE s_ AO Bz BA r):S 194 [fJ s_,.fn 195 [.ro [aU AO],.ro [aT Bz,aC BA]]] [] (.bool r) [] :=sp Tryz.func194 rfl<|sq hm xL fun v1 hm=>by cases hm;exact re
theorem FM {l_:(List ay)} {r_:cO} {d_:(List aW)} {r:Bool} (hm:wK l_ r_ d_ r):S 141 [aU l_,Ay r_,fJ d_] [] (.bool r) [] :=sp Tryz.func141 rfl<|sq hm TW fun v1 hm=>sb hm fun v2 hv2 hm=>cl (fun q0=>(FK (hv2 q0)))<|si hm (fun _ hm=>by cases hm;exact re) fun _ hm=>sq hm y8 fun v3 hm=>sq hm TY fun v4 hm=>lf hm (fun g1=>⟨[(2,fJ d_),(3,.ptr 0 0 0),(4,.ptr 1 0 0),(7,aT v3),(8,aC v4),(28,aU l_),(29,iV (l_.length:Int)),(30,iV g1)],[(0,some (.box [aU l_])),(1,some (.box [aT r_.On,aC r_.dP]))],2⟩) [(1,some 8)] [] <|fun aj g1 hm=>si hm (fun _ hm=>s2 hm fun _ _ hm=>si hm (fun _ hm=>sn hm fun _ hm=>si hm (fun _ hm=>by cases hm;exact re) fun _ hm=>sn hm fun _ hm=>le hm) fun _ hm=>s2 hm fun _ _ hm=>s2 hm fun _ _ hm=>s2 hm fun _ _ hm=>s2 hm fun _ _ hm=>si hm (fun _ hm=>by cases hm;exact re) fun _ hm=>sn hm fun _ hm=>le hm) fun _ hm=>sq hm tX fun v5 hm=>by cases hm;exact re
theorem T9 {l_:(List ay)} {d_:(List aW)} {r:(cO×Int)} (hm:Co l_ d_ r):S 91 [aU l_,fJ d_] [] (.kH [Ay r.1,iV r.2]) [] :=sp Tryz.func91 rfl<|sq hm TT fun v1 hm=>si hm (fun _ hm=>by cases hm;exact re) fun _ hm=>sq hm PS fun v2 hm=>sq hm y8 fun v3 hm=>sb hm fun v4 hv4 hm=>cl (fun q0=>(FM (hv4 q0)))<|si hm (fun _ hm=>by cases hm;exact re) fun _ hm=>by cases hm;exact re
theorem RI {n_:aK} {r:(List Int)} (hm:F6 n_ r):S 94 [wu n_] [] (aC r) [] :=sp Tryz.func94 rfl<|by cases hm;exact re
theorem LK {l_:(List aK)} {ah:(List Int)} {r:(List Int)} (hm:Ho l_ ah r):S 93 [dM l_,aC ah,.fn 94 []] [] (aC r) [] :=sp Tryz.func93 rfl<|lf hm (fun g1=>⟨[(0,dM l_),(2,.fn 94 []),(7,.eH 0 0 g1.2.length false),(10,aC ah),(11,iV (ah.length:Int)),(12,iV g1.1)],[(0,some (.row 1 g1.2.length (bR iV 0 g1.2)))],1⟩) [(0,none)] [] <|fun aj g1 hm=>si hm (fun _ hm=>sn hm fun _ hm=>si hm (fun _ hm=>sn hm fun _ hm=>sq hm RI fun v3 hm=>s2 hm fun _ _ hm=>lc [(0,some 153)] [] hm) fun _ hm=>sn hm fun _ hm=>le hm) fun _ hm=>by cases hm;exact rt [0] []
theorem Ua {l_:(List d9)} {fC:(List Int)} {r:(List Bool)} (hm:Cq l_ fC r):S 142 [dx l_,aC fC] [] (aT r) [] :=sp Tryz.func142 rfl<|sn hm fun _ hm=>lf hm (fun g1=>⟨[(0,dx l_),(5,.eH 0 0 g1.2.length false),(14,aC fC),(15,iV (fC.length:Int)),(16,iV g1.1)],[(0,some (.row 1 g1.2.length (bR AV.bool false g1.2)))],1⟩) [(0,some 24)] [] <|fun aj g1 hm=>si hm (fun _ hm=>s2 hm fun _ _ hm=>sn hm fun _ hm=>le hm) fun _ hm=>sn hm fun _ hm=>l0 hm (fun g2=>⟨[(0,dx l_),(5,.eH 0 0 g2.2.length false),(8,iV g2.1)],[(0,some (.row 1 g2.2.length (bR AV.bool false g2.2)))],1⟩) <|fun dK g2 hm=>si hm (fun _ hm=>sn hm fun _ hm=>l0 hm (fun g5=>⟨[(0,dx l_),(5,.eH 0 0 g5.2.length false),(8,iV g2.1),(35,aC ((l_.getD g2.1.toNat dh).dX)),(36,iV ((((l_.getD g2.1.toNat dh).dX).length:Nat):Int)),(37,iV g5.1)],[(0,some (.row 1 g5.2.length (bR AV.bool false g5.2)))],1⟩) <|fun j5 g5 hm=>si hm (fun _ hm=>s2 hm fun _ _ hm=>s2 hm fun _ _ hm=>sn hm fun _ hm=>le hm) fun _ hm=>sn hm fun _ hm=>le hm) fun _ hm=>by cases hm;exact rt [0] []
theorem Ub {l_:(List d9)} {fC:(List Int)} {r:((List Bool)×Int)} (hm:Cr l_ fC r):S 92 [dx l_,aC fC] [] (.kH [aT r.1,iV r.2]) [] :=sp Tryz.func92 rfl<|sq hm yY fun v1 hm=>si hm (fun _ hm=>by cases hm;exact re) fun _ hm=>l0 hm (fun g1=>⟨[(0,dx l_),(1,aC fC),(11,aC fC),(12,iV (fC.length:Int)),(13,iV g1)],[],0⟩) <|fun aj g1 hm=>si hm (fun _ hm=>sn hm fun _ hm=>si hm (fun _ hm=>by cases hm;exact re) fun _ hm=>sn hm fun _ hm=>le hm) fun _ hm=>sq hm Ua fun v2 hm=>by cases hm;exact re
theorem RJ {n_:aK} {r:(List Int)} (hm:F7 n_ r):S 96 [wu n_] [] (aC r) [] :=sp Tryz.func96 rfl<|si hm (fun _ hm=>by cases hm;exact re) fun _ hm=>by cases hm;exact rt [56] []
theorem Gs {l_:(List aK)} {ah:(List Int)} {r:(List Int)} (hm:BD l_ ah r):S 93 [dM l_,aC ah,.fn 96 []] [] (aC r) [] :=sp Tryz.func93 rfl<|lf hm (fun g1=>⟨[(0,dM l_),(2,.fn 96 []),(7,.eH 0 0 g1.2.length false),(10,aC ah),(11,iV (ah.length:Int)),(12,iV g1.1)],[(0,some (.row 1 g1.2.length (bR iV 0 g1.2)))],1⟩) [(0,none)] [] <|fun aj g1 hm=>si hm (fun _ hm=>sn hm fun _ hm=>si hm (fun _ hm=>sn hm fun _ hm=>sq hm RJ fun v3 hm=>s2 hm fun _ _ hm=>lc [(0,some 153)] [] hm) fun _ hm=>sn hm fun _ hm=>le hm) fun _ hm=>by cases hm;exact rt [0] []
theorem PV {l_:(List dB)} {eX:(List Int)} {r:Int} (hm:wL l_ eX r):S 143 [bU l_,aC eX] [] (iV r) [] :=sp Tryz.func143 rfl<|sq hm xJ fun v1 hm=>si hm (fun _ hm=>by cases hm;exact re) fun _ hm=>l0 hm (fun g1=>⟨[(0,bU l_),(10,aC eX),(11,iV (eX.length:Int)),(12,iV g1)],[],0⟩) <|fun aj g1 hm=>si hm (fun _ hm=>sn hm fun _ hm=>si hm (fun _ hm=>by cases hm;exact re) fun _ hm=>sn hm fun _ hm=>le hm) fun _ hm=>by cases hm;exact re
theorem ZV {l_:(List dB)} {eX:(List Int)} {r:((List Bool)×Int)} (hm:OQ l_ eX r):S 95 [bU l_,aC eX] [] (.kH [aT r.1,iV r.2]) [] :=spc [9] Tryz.func95 rfl<|sq hm PV fun v1 hm=>si hm (fun _ hm=>by cases hm;exact re) fun _ hm=>s2 hm fun _ _ hm=>R3 [9] hm (fun g1=>⟨[(0,bU l_),(1,aC eX),(7,.eH 0 0 g1.2.length false),(8,iV g1.1)],[(0,some (.row 1 g1.2.length (bR AV.bool false g1.2)))],1⟩) [(0,some 80)] [] <|fun aj g1 hm=>si hm (fun _ hm=>ck [9] (Jq l_ g1 aj) r (fun g4=>⟨[(0,bU l_),(1,aC eX),(7,.eH 0 0 g4.length false),(8,iV g1.1)],[(0,some (.row 1 g4.length (bR AV.bool false g4)))],1⟩) (s2 hm fun _ _ hm=>sb hm fun v7 hv7 hm=>cl (fun q0=>(gF (hv7 q0)))<|sn hm fun _ hm=>le hm) fun g4 hm=>s2 hm fun _ _ hm=>si hm (fun _ hm=>s2 hm fun _ _ hm=>sn hm fun _ hm=>le hm) fun _ hm=>sn hm fun _ hm=>le hm) fun _ hm=>by cases hm;exact rt [0] []
theorem sH {b_:aR} {l_:(List aK)} {ah:(List Int)} {jU:(List aS)} {r:((List Int)×(List Bool)×(List Int)×(List Bool)×(List Bool)×Int×Int×(List aS))} (hm:qW b_ l_ ah jU r):S 46 [jy b_,dM l_,aC ah,dO jU] [] (.kH [.agg [aC r.1,aT r.2.1,aC r.2.2.1,.eH 0 0 r.2.2.2.2.2.2.2.length false,aT r.2.2.2.1,aT r.2.2.2.2.1],iV r.2.2.2.2.2.1,iV r.2.2.2.2.2.2.1]) [.row 3 r.2.2.2.2.2.2.2.length (bR qz bH r.2.2.2.2.2.2.2)] :=sp Tryz.func46 rfl<|sq hm TN fun v1 hm=>sq hm VE fun v2 hm=>si hm (fun _ hm=>sq hm Oe fun v3 hm=>si hm (fun _ hm=>by cases hm;exact rt [] [(0,none)]) fun _ hm=>sq hm TS fun v4 hm=>si hm (fun _ hm=>by cases hm;exact rt [] [(0,none)]) fun _ hm=>sq hm T9 fun v5 hm=>si hm (fun _ hm=>by cases hm;exact rt [] [(0,none)]) fun _ hm=>lf hm (fun g1=>⟨[(1,dM l_),(2,aC ah),(4,.ptr 0 0 0),(8,.ptr 1 0 0),(16,.ptr 2 0 0),(64,dO jU),(65,iV (jU.length:Int)),(66,iV g1.1)],[(0,some (.box [aZ b_.bQ,aU b_.bB,iV b_.aQ.bO,bf b_.aQ.aD,dx b_.bg,bU b_.cB])),(1,some (.box [.sl 0 0 true fG,.sl 0 0 true fG,.sl 0 0 true fG,.sl 0 0 true fG,.sl 0 0 true fG,.sl 0 0 true fG])),(2,some (.box [aC v4.1,aT v5.1.On,aC v5.1.dP,.eH 3 0 g1.2.length false,.sl 0 0 true fG,.sl 0 0 true fG])),(3,some (.row 3 g1.2.length (bR qz bH g1.2)))],4⟩) [(1,some 8),(2,some 424),(3,none)] [] <|fun aj g1 hm=>si hm (fun _ hm=>sn hm fun _ hm=>sq hm gF fun v8 hm=>si hm (fun _ hm=>s2 hm fun _ _ hm=>lc [(3,some 108)] [] hm) fun _ hm=>sn hm fun _ hm=>le hm) fun _ hm=>sq hm LK fun v9 hm=>sq hm Ub fun v10 hm=>sq hm Gs fun v11 hm=>sq hm ZV fun v12 hm=>by cases hm;exact rt [] [(0,some 3)]) fun c1 hm=>by
 refine ⟨(fun q0=>absurd q0 (vac c1)),?_⟩
 (conv=>whnf)
 refine ⟨(fun q0=>absurd q0 (vac c1)),?_⟩
 (conv=>whnf)
 refine aY hm fun h13 hm=>?_
 (conv=>whnf)
 have hm:r=(([]:List Int),([]:List Bool),([]:List Int),([]:List Bool),([]:List Bool),(4:Int),(45:Int),([]:List aS)):=hm
 subst hm
 refine ⟨[],[(0,none)],?_⟩
 (conv=>whnf)
 exact ⟨⟨rfl,trivial,⟨rfl,trivial⟩⟩,⟨⟨⟨rfl,(fun h=>absurd rfl h),nofun,(fun _ h=>absurd h (Nat.not_lt_zero _))⟩,⟨rfl,(fun h=>absurd rfl h),nofun,(fun _ h=>absurd h (Nat.not_lt_zero _))⟩,⟨rfl,(fun h=>absurd rfl h),nofun,(fun _ h=>absurd h (Nat.not_lt_zero _))⟩,⟨rfl,rfl,rfl,rfl,rfl,rfl⟩,⟨rfl,(fun h=>absurd rfl h),nofun,(fun _ h=>absurd h (Nat.not_lt_zero _))⟩,⟨rfl,(fun h=>absurd rfl h),nofun,(fun _ h=>absurd h (Nat.not_lt_zero _))⟩,trivial⟩,r2,r2,trivial⟩⟩
theorem XL {b_:aR} {r:(bL×Int)} (hm:Zb b_ r):S 18 [jy b_] [] (.kH [lU r.1,iV r.2]) [] :=sp Tryz.func18 rfl<|sq hm Iu fun v1 hm=>si hm (fun _ hm=>by cases hm;exact re) fun _ hm=>sb hm fun v2 hv2 hm=>cl ((sH hv2).le ⟨.refl _,(.sl rfl (fun h=>absurd rfl h) nofun (fun _ h=>absurd h (Nat.not_lt_zero _))),(.sl rfl (fun h=>absurd rfl h) nofun (fun _ h=>absurd h (Nat.not_lt_zero _))),(.sl rfl (fun h=>absurd rfl h) nofun (fun _ h=>absurd h (Nat.not_lt_zero _))),trivial⟩ trivial)<|by cases hm;exact rt [72] []
theorem kM {x_:Int} {Ch:Int} {nV:Int} {r:Bool} (hm:pX x_ Ch nV r):S 207 [iV x_,iV Ch,iV nV] [] (.bool r) [] :=sp Tryz.func207 rfl<|by cases hm;exact re
theorem XM {b_:aR} {n_:aK} {iJ:Int} {r:Int} (hm:Jr b_ n_ iJ r):S 158 [jy b_,wu n_,iV iJ] [] (iV r) [] :=sp Tryz.func158 rfl<|si hm (fun _ hm=>by cases hm;exact re) fun _ hm=>lf hm (fun g1=>⟨[(2,iV iJ),(3,.ptr 0 0 0),(4,.ptr 1 0 0),(35,fB n_.bY),(36,iV (n_.bY.length:Int)),(37,iV g1)],[(0,some (.box [aZ b_.bQ,aU b_.bB,iV b_.aQ.bO,bf b_.aQ.aD,dx b_.bg,bU b_.cB])),(1,some (.box [fB n_.bY,fJ n_.fD,gG n_.ak,aC n_.bg,iV n_.fP,aC n_.bT]))],2⟩) [(1,some 8)] [] <|fun aj g1 hm=>si hm (fun _ hm=>s2 hm fun _ _ hm=>sq hm kM fun v3 hm=>si hm (fun _ hm=>by cases hm;exact re) fun _ hm=>sn hm fun _ hm=>le hm) fun _ hm=>l0 hm (fun g2=>⟨[(2,iV iJ),(3,.ptr 0 0 0),(4,.ptr 1 0 0),(68,fJ n_.fD),(69,iV (n_.fD.length:Int)),(70,iV g2)],[(0,some (.box [aZ b_.bQ,aU b_.bB,iV b_.aQ.bO,bf b_.aQ.aD,dx b_.bg,bU b_.cB])),(1,some (.box [fB n_.bY,fJ n_.fD,gG n_.ak,aC n_.bg,iV n_.fP,aC n_.bT]))],2⟩) <|fun dK g2 hm=>si hm (fun _ hm=>s2 hm fun _ _ hm=>sq hm kM fun v8 hm=>sb hm fun v9 hv9 hm=>cl (fun q0=>(kM (hv9 q0)))<|si hm (fun _ hm=>by cases hm;exact re) fun _ hm=>sn hm fun _ hm=>le hm) fun _ hm=>l0 hm (fun g3=>⟨[(2,iV iJ),(3,.ptr 0 0 0),(4,.ptr 1 0 0),(107,gG n_.ak),(108,iV (n_.ak.length:Int)),(109,iV g3)],[(0,some (.box [aZ b_.bQ,aU b_.bB,iV b_.aQ.bO,bf b_.aQ.aD,dx b_.bg,bU b_.cB])),(1,some (.box [fB n_.bY,fJ n_.fD,gG n_.ak,aC n_.bg,iV n_.fP,aC n_.bT]))],2⟩) <|fun jB g3 hm=>si hm (fun _ hm=>sn hm fun _ hm=>sq hm xI fun v12 hm=>si hm (fun _ hm=>by cases hm;exact re) fun _ hm=>sn hm fun _ hm=>le hm) fun _ hm=>l0 hm (fun g4=>⟨[(2,iV iJ),(3,.ptr 0 0 0),(4,.ptr 1 0 0),(118,aC n_.bg),(119,iV (n_.bg.length:Int)),(120,iV g4)],[(0,some (.box [aZ b_.bQ,aU b_.bB,iV b_.aQ.bO,bf b_.aQ.aD,dx b_.bg,bU b_.cB])),(1,some (.box [fB n_.bY,fJ n_.fD,gG n_.ak,aC n_.bg,iV n_.fP,aC n_.bT]))],2⟩) <|fun jm g4 hm=>si hm (fun _ hm=>s2 hm fun _ _ hm=>sq hm kM fun v15 hm=>si hm (fun _ hm=>by cases hm;exact re) fun _ hm=>sn hm fun _ hm=>le hm) fun _ hm=>sn hm fun _ hm=>sq hm kM fun v16 hm=>si hm (fun _ hm=>by cases hm;exact re) fun _ hm=>lf hm (fun g5=>⟨[(2,iV iJ),(4,.ptr 0 0 0),(141,aC n_.bT),(142,iV (n_.bT.length:Int)),(143,iV g5)],[(0,some (.box [fB n_.bY,fJ n_.fD,gG n_.ak,aC n_.bg,iV n_.fP,aC n_.bT]))],1⟩) [(0,some 1)] [] <|fun j5 g5 hm=>si hm (fun _ hm=>s2 hm fun _ _ hm=>sq hm kM fun v19 hm=>si hm (fun _ hm=>by cases hm;exact re) fun _ hm=>sn hm fun _ hm=>le hm) fun _ hm=>l0 hm (fun g6=>⟨[(4,.ptr 0 0 0),(17,iV g6)],[(0,some (.box [fB n_.bY,fJ n_.fD,gG n_.ak,aC n_.bg,iV n_.fP,aC n_.bT]))],1⟩) <|fun jE g6 hm=>si hm (fun _ hm=>s2 hm fun _ _ hm=>sn hm fun _ hm=>si hm (fun _ hm=>by cases hm;exact re) fun _ hm=>sn hm fun _ hm=>le hm) fun _ hm=>by cases hm;exact re
theorem Ld {b_:aR} {l_:(List aK)} {r:Int} (hm:Dv b_ l_ r):S 110 [jy b_,dM l_] [] (iV r) [] :=sp Tryz.func110 rfl<|sq hm Iu fun v1 hm=>si hm (fun _ hm=>by cases hm;exact re) fun _ hm=>si hm (fun _ hm=>by cases hm;exact re) fun _ hm=>l0 hm (fun g1=>⟨[(1,dM l_),(2,.ptr 0 0 0),(17,dM l_),(18,iV (l_.length:Int)),(19,iV g1)],[(0,some (.box [aZ b_.bQ,aU b_.bB,iV b_.aQ.bO,bf b_.aQ.aD,dx b_.bg,bU b_.cB]))],1⟩) <|fun aj g1 hm=>si hm (fun _ hm=>sn hm fun _ hm=>sq hm XM fun v4 hm=>si hm (fun _ hm=>by cases hm;exact re) fun _ hm=>sn hm fun _ hm=>le hm) fun _ hm=>by cases hm;exact re
theorem Iw {b_:aR} {l_:(List aK)} {ah:(List Int)} {r:Int} (hm:zT b_ l_ ah r):S 61 [jy b_,dM l_,aC ah] [] (iV r) [] :=sp Tryz.func61 rfl<|sq hm Ld fun v1 hm=>si hm (fun _ hm=>by cases hm;exact re) fun _ hm=>l0 hm (fun g1=>⟨[(1,dM l_),(2,aC ah),(16,aC ah),(17,iV (ah.length:Int)),(18,iV g1)],[],0⟩) <|fun aj g1 hm=>si hm (fun _ hm=>s2 hm fun _ _ hm=>sb hm fun v4 hv4 hm=>cl (fun q0=>((gF (hv4 q0)).le ⟨(.sl oz (fun _=>rfl) nofun (lN (f:=iV) (d:=0) (by first | omega | exact Nat.min_le_left _ _ | exact Nat.le_trans (Nat.min_le_left _ _) om | (simp; omega)))),.refl _,trivial⟩ trivial))<|si hm (fun _ hm=>by cases hm;exact re) fun _ hm=>sn hm fun _ hm=>le hm) fun _ hm=>by cases hm;exact re
theorem Oi {l_:(List aK)} {ah:(List Int)} {r:Bool} (hm:uh l_ ah r):S 210 [dM l_,aC ah] [] (.bool r) [] :=sp Tryz.func210 rfl<|l0 hm (fun g1=>⟨[(0,dM l_),(1,aC ah),(7,aC ah),(8,iV (ah.length:Int)),(9,iV g1)],[],0⟩) <|fun aj g1 hm=>si hm (fun _ hm=>s2 hm fun _ _ hm=>sq hm kM fun v5 hm=>sn hm fun _ hm=>sb hm fun v6 hv6 hm=>cl (fun q0=>((gF (hv6 q0)).le ⟨(.sl oz (fun _=>rfl) nofun (lN (f:=iV) (d:=0) (by first | omega | exact Nat.min_le_left _ _ | exact Nat.le_trans (Nat.min_le_left _ _) om | (simp; omega)))),.refl _,trivial⟩ trivial))<|si hm (fun _ hm=>by cases hm;exact re) fun _ hm=>sn hm fun _ hm=>le hm) fun _ hm=>by cases hm;exact re
theorem JZ {s_:gW} {r:Bool} (hm:qB s_ r):S 167 [Jh s_] [] (.bool r) [] :=sp Tryz.func167 rfl<|sq hm Oi fun v1 hm=>si hm (fun _ hm=>by cases hm;exact re) fun _ hm=>lf hm (fun g1=>⟨[(1,.ptr 0 0 0),(4,.ptr 1 0 0),(67,aZ s_.bD.bQ),(68,iV (s_.bD.bQ.length:Int)),(69,iV g1)],[(0,some (.box [aZ s_.bD.bQ,aU s_.bD.bB,iV s_.bD.aQ.bO,bf s_.bD.aQ.aD,dx s_.bD.bg,bU s_.bD.cB,dM s_.dA,aC s_.aP,aC s_.aV.dD,aT s_.aV.eZ.On,aC s_.aV.eZ.dP,dO s_.aV.dZ,aT s_.aV.eu,aT s_.aV.fA,.bool s_.jM])),(1,some (.box [aC s_.aV.dD,aT s_.aV.eZ.On,aC s_.aV.eZ.dP,dO s_.aV.dZ,aT s_.aV.eu,aT s_.aV.fA]))],2⟩) [(1,some 56)] [] <|fun aj g1 hm=>si hm (fun _ hm=>s2 hm fun _ _ hm=>sn hm fun _ hm=>sq hm kM fun v4 hm=>si hm (fun _ hm=>by cases hm;exact re) fun _ hm=>sn hm fun _ hm=>le hm) fun _ hm=>l0 hm (fun g2=>⟨[(1,.ptr 0 0 0),(87,dO s_.aV.dZ),(88,iV (s_.aV.dZ.length:Int)),(89,iV g2)],[(0,some (.box [aZ s_.bD.bQ,aU s_.bD.bB,iV s_.bD.aQ.bO,bf s_.bD.aQ.aD,dx s_.bD.bg,bU s_.bD.cB,dM s_.dA,aC s_.aP,aC s_.aV.dD,aT s_.aV.eZ.On,aC s_.aV.eZ.dP,dO s_.aV.dZ,aT s_.aV.eu,aT s_.aV.fA,.bool s_.jM]))],1⟩) <|fun dK g2 hm=>si hm (fun _ hm=>s2 hm fun _ _ hm=>sq hm kM fun v7 hm=>si hm (fun _ hm=>by cases hm;exact re) fun _ hm=>sn hm fun _ hm=>le hm) fun _ hm=>by cases hm;exact re
theorem BP {l_:(List aI)} {s_:(List Int)} {r:(List bI)} (hm:qX l_ s_ r):S 225 [aZ l_,aC s_] [] (qM r) [] :=sp Tryz.func225 rfl<|sn hm fun _ hm=>lf hm (fun g1=>⟨[(0,aZ l_),(1,aC s_),(5,.eH 0 0 g1.2.length false),(13,aZ l_),(14,iV (l_.length:Int)),(15,iV g1.1)],[(0,some (.row 2 g1.2.length (bR pW dV g1.2)))],1⟩) [(0,some 24)] [] <|fun aj g1 hm=>si hm (fun _ hm=>s2 hm fun _ _ hm=>sn hm fun _ hm=>sq hm FJ fun v7 hm=>si hm (fun _ hm=>s2 hm fun _ _ hm=>le hm) fun _ hm=>sn hm fun _ hm=>si hm (fun _ hm=>s2 hm fun _ _ hm=>le hm) fun _ hm=>si hm (fun _ hm=>sn hm fun _ hm=>sq hm Og fun v8 hm=>s2 hm fun _ _ hm=>le hm) fun _ hm=>si hm (fun _ hm=>sn hm fun _ hm=>sq hm Lc fun v9 hm=>s2 hm fun _ _ hm=>le hm) fun _ hm=>s2 hm fun _ _ hm=>sn hm fun _ hm=>le hm) fun _ hm=>by cases hm;exact rt [0] []
theorem RL {x_:bK} {pK:(List bI)} {r:Bool} (hm:tK x_ pK r):S 234 [yH x_,.ro [qM pK]] [] (.bool r) [] :=sp Tryz.func234 rfl<|s2 hm fun _ _ hm=>sb hm fun v1 hv1 hm=>cl (fun q0=>(y7 (hv1 q0)))<|by cases hm;exact re
theorem vT {s_:(List bK)} {f_:(List bI)} {r:Int} (hm:pY s_ f_ r):S 241 [fB s_,.fn 234 [.ro [qM f_]]] [] (iV r) [] :=sp Tryz.func241 rfl<|l0 hm (fun g1=>⟨[(0,fB s_),(1,.fn 234 [.ro [qM f_]]),(7,iV (s_.length:Int)),(8,iV g1)],[],0⟩) <|fun aj g1 hm=>si hm (fun _ hm=>sn hm fun _ hm=>sq hm RL fun v3 hm=>si hm (fun _ hm=>by cases hm;exact re) fun _ hm=>sn hm fun _ hm=>le hm) fun _ hm=>by cases hm;exact re
theorem tq {s_:(List bK)} {f_:(List bI)} {r:Bool} (hm:jY s_ f_ r):S 222 [fB s_,.fn 234 [.ro [qM f_]]] [] (.bool r) [] :=sp Tryz.func222 rfl<|sq hm vT fun v1 hm=>by cases hm;exact re
theorem VJ {l_:(List aI)} {s_:(List Int)} {m_:(List bK)} {r:Bool} (hm:E9 l_ s_ m_ r):S 211 [aZ l_,aC s_,fB m_] [] (.bool r) [] :=sp Tryz.func211 rfl<|sq hm FI fun v1 hm=>sb hm fun v2 hv2 hm=>cl (fun q0=>(uW (hv2 q0)))<|si hm (fun _ hm=>by cases hm;exact re) fun _ hm=>sq hm BP fun v3 hm=>lf hm (fun g1=>⟨[(2,fB m_),(7,.ptr 0 0 0),(23,aZ l_),(24,iV (l_.length:Int)),(25,iV g1)],[(0,some (.box [qM v3]))],1⟩) [(0,some 112)] [] <|fun aj g1 hm=>si hm (fun _ hm=>s2 hm fun _ _ hm=>sn hm fun _ hm=>sb hm fun v6 hv6 hm=>cl (fun q0=>(y7 (hv6 q0)))<|si hm (fun _ hm=>by cases hm;exact re) fun _ hm=>sn hm fun _ hm=>le hm) fun _ hm=>sq hm tq fun v7 hm=>by cases hm;exact re
theorem Iy {s_:gW} {r:Bool} (hm:oV s_ r):S 168 [Jh s_] [] (.bool r) [] :=sp Tryz.func168 rfl<|sb hm fun v1 hv1 hm=>cl ((VJ hv1).le ⟨.refl _,.refl _,(.sl rfl (fun h=>absurd rfl h) nofun (fun _ h=>absurd h (Nat.not_lt_zero _))),trivial⟩ trivial)<|by cases hm;exact re
theorem PW {l_:(List aI)} {s_:(List Int)} {r:((List bI)×Int)} (hm:wM l_ s_ r):S 186 [aZ l_,aC s_] [] (.kH [qM r.1,iV r.2]) [] :=sp Tryz.func186 rfl<|sq hm nZ fun v1 hm=>si hm (fun _ hm=>by cases hm;exact re) fun _ hm=>sq hm uW fun v2 hm=>si hm (fun _ hm=>by cases hm;exact re) fun _ hm=>sq hm BP fun v3 hm=>by cases hm;exact re
theorem Iz {s_:gW} {r:Bool} (hm:oW s_ r):S 169 [Jh s_] [] (.bool r) [] :=sp Tryz.func169 rfl<|sq hm PW fun v1 hm=>si hm (fun _ hm=>by cases hm;exact re) fun _ hm=>l0 hm (fun g1=>⟨[(1,.ptr 0 0 0),(3,qM v1.1),(23,aC s_.aP),(24,iV (s_.aP.length:Int)),(25,iV g1)],[(0,some (.box [aZ s_.bD.bQ,aU s_.bD.bB,iV s_.bD.aQ.bO,bf s_.bD.aQ.aD,dx s_.bD.bg,bU s_.bD.cB,dM s_.dA,aC s_.aP,aC s_.aV.dD,aT s_.aV.eZ.On,aC s_.aV.eZ.dP,dO s_.aV.dZ,aT s_.aV.eu,aT s_.aV.fA,.bool s_.jM]))],1⟩) <|fun aj g1 hm=>si hm (fun _ hm=>s2 hm fun _ _ hm=>l0 hm (fun g4=>⟨[(1,.ptr 0 0 0),(3,qM v1.1),(23,aC s_.aP),(24,iV (s_.aP.length:Int)),(25,iV g1),(34,fB ((s_.dA.getD ((s_.aP.getD g1.toNat 0).toNat) bq).bY)),(35,iV ((((s_.dA.getD ((s_.aP.getD g1.toNat 0).toNat) bq).bY).length:Nat):Int)),(36,iV g4)],[(0,some (.box [aZ s_.bD.bQ,aU s_.bD.bB,iV s_.bD.aQ.bO,bf s_.bD.aQ.aD,dx s_.bD.bg,bU s_.bD.cB,dM s_.dA,aC s_.aP,aC s_.aV.dD,aT s_.aV.eZ.On,aC s_.aV.eZ.dP,dO s_.aV.dZ,aT s_.aV.eu,aT s_.aV.fA,.bool s_.jM]))],1⟩) <|fun jm g4 hm=>si hm (fun _ hm=>s2 hm fun _ _ hm=>s2 hm fun _ _ hm=>si hm (fun _ hm=>by cases hm;exact re) fun _ hm=>sn hm fun _ hm=>le hm) fun _ hm=>sn hm fun _ hm=>le hm) fun _ hm=>by cases hm;exact re
theorem pI {s_:(List Bool)} {r:(List Bool)} (hm:lF s_ r):S 103 [aT s_] [] (.eH 0 0 r.length false) [.row 1 r.length (bR AV.bool false r)] :=by
 obtain ⟨h1,hm⟩:=hm
 have hm:r=s_:=hm
 subst hm
 refine nD (ct:=[1]) iT Tryz.func103 rfl rfl (Nat.le_of_ble_eq_true rfl) dk (Nat.le_of_ble_eq_true rfl) ?_
 (conv=>whnf)
 refine Y7 (ct:=[]) iT (iT.slice (t:=36) (e:=4) rfl rfl rfl).1 dk dk dk dk dk [(2,.sl 0 0 true fG),(0,aT r)] [] 8 rfl ?_ (fun hn=>?_) ?_
 ·exact rfl
 ·(conv=>whnf)
  have hn:r.length=0:=hn
  refine ⟨[],[(0,none)],?_⟩
  (conv=>whnf)
  exact ⟨⟨rfl,trivial,⟨hn,trivial⟩⟩,⟨rfl,rfl,rfl,rfl,rfl,hn⟩⟩
 ·(conv=>whnf)
  refine ⟨by rw [Nat.zero_add]; exact h1,?_⟩
  (conv=>whnf)
  refine ⟨[],[(0,some 24)],?_⟩
  (conv=>whnf)
  exact ⟨⟨rfl,trivial,⟨⟨rfl,Nat.zero_add _,j4 (l:=[]) rfl (fun _ h=>absurd h (Nat.not_lt_zero _)) rfl (fun _ _=>.refl _)⟩,trivial⟩⟩,⟨rfl,rfl,rfl,Nat.zero_add _,nofun⟩⟩
theorem nI {s_:(List Int)} {r:(List Int)} (hm:jS s_ r):S 47 [aC s_] [] (.eH 0 0 r.length false) [.row 1 r.length (bR iV 0 r)] :=by
 obtain ⟨h1,hm⟩:=hm
 have hm:r=s_:=hm
 subst hm
 refine nD (ct:=[1]) iT Tryz.func47 rfl rfl (Nat.le_of_ble_eq_true rfl) dk (Nat.le_of_ble_eq_true rfl) ?_
 (conv=>whnf)
 refine Y7 (ct:=[]) iT (iT.slice (t:=22) (e:=3) rfl rfl rfl).1 dk dk dk dk dk [(2,.sl 0 0 true fG),(0,aC r)] [] 8 rfl ?_ (fun hn=>?_) ?_
 ·exact rfl
 ·(conv=>whnf)
  have hn:r.length=0:=hn
  refine ⟨[],[(0,none)],?_⟩
  (conv=>whnf)
  exact ⟨⟨rfl,trivial,⟨hn,trivial⟩⟩,⟨rfl,rfl,rfl,rfl,rfl,hn⟩⟩
 ·(conv=>whnf)
  refine ⟨by rw [Nat.zero_add]; exact h1,?_⟩
  (conv=>whnf)
  refine ⟨[],[(0,some 24)],?_⟩
  (conv=>whnf)
  exact ⟨⟨rfl,trivial,⟨⟨rfl,Nat.zero_add _,j4 (l:=[]) rfl (fun _ h=>absurd h (Nat.not_lt_zero _)) rfl (fun _ _=>.refl _)⟩,trivial⟩⟩,⟨rfl,rfl,rfl,Nat.zero_add _,nofun⟩⟩
theorem Oj {r_:cO} {r:cO} (hm:Hr r_ r):S 101 [Ay r_] [] (Ay r) [] :=sp Tryz.func101 rfl<|sq hm pI fun v1 hm=>sq hm nI fun v2 hm=>by cases hm;exact rt [32,56] []
theorem EK {s_:gW} {r:Bool} (hm:mY s_ r):S 170 [Jh s_] [] (.bool r) [] :=sp Tryz.func170 rfl<|lf hm (fun g1=>⟨[(1,.ptr 0 0 0),(3,.eH 1 0 g1.2.length false),(7,aC s_.aP),(8,iV (s_.aP.length:Int)),(9,iV g1.1)],[(0,some (.box [aZ s_.bD.bQ,aU s_.bD.bB,iV s_.bD.aQ.bO,bf s_.bD.aQ.aD,dx s_.bD.bg,bU s_.bD.cB,dM s_.dA,aC s_.aP,aC s_.aV.dD,aT s_.aV.eZ.On,aC s_.aV.eZ.dP,dO s_.aV.dZ,aT s_.aV.eu,aT s_.aV.fA,.bool s_.jM])),(1,some (.row 4 g1.2.length (bR G5 dI g1.2)))],2⟩) [(1,none)] [] <|fun aj g1 hm=>si hm (fun _ hm=>s2 hm fun _ _ hm=>s2 hm fun _ _ hm=>lc [(1,some 90)] [] hm) fun _ hm=>sq hm Oj fun v1 hm=>sq hm FM fun v2 hm=>by cases hm;exact re
theorem VK {p_:bn} {l_:(List nE)} {r:((Nat→Int)×Int)} (hm:Fa p_ l_ r):S 235 [lT p_,Qc l_] [] (.kH [amu r.1,iV r.2]) [] :=sp Tryz.func235 rfl<|lf hm (fun g1=>⟨[(1,Qc l_),(2,.ptr 0 0 0),(4,.ptr 1 0 0),(6,.ptr 2 0 0),(13,iV g1.1)],[(0,some (.box [iV p_.bO,bf p_.aD])),(1,some (.row 1 64 (Lr iV g1.2.1))),(2,some (.row 1 64 (Lr iV g1.2.2)))],3⟩) [(1,some 8),(2,some 24)] [] <|fun aj g1 hm=>si hm (fun _ hm=>s2 hm fun _ _ hm=>le hm) fun _ hm=>sq hm uF fun v1 hm=>si hm (fun _ hm=>by cases hm;exact re) fun _ hm=>sn hm fun _ hm=>lf hm (fun g2=>⟨[(2,.ptr 0 0 0),(4,.ptr 1 0 0),(6,.ptr 2 0 0),(8,.eH 3 0 g2.2.2.length false),(27,Qc l_),(28,iV (l_.length:Int)),(29,iV g2.1)],[(0,some (.box [iV p_.bO,bf p_.aD])),(1,some (.row 1 64 (Lr iV g1.2.1))),(2,some (.row 1 64 (Lr iV g2.2.1))),(3,some (.row 1 g2.2.2.length (bR AV.bool false g2.2.2)))],4⟩) [(3,some 59)] [] <|fun dK g2 hm=>si hm (fun _ hm=>s2 hm fun _ _ hm=>si hm (fun _ hm=>by cases hm;exact re) fun _ hm=>sn hm fun _ hm=>si hm (fun _ hm=>by cases hm;exact re) fun _ hm=>s2 hm fun _ _ hm=>lf hm (fun g5=>⟨[(2,.ptr 0 0 0),(4,.ptr 1 0 0),(6,.ptr 2 0 0),(8,.eH 3 0 g5.2.2.length false),(10,.ptr 4 0 0),(27,Qc l_),(28,iV (l_.length:Int)),(29,iV g2.1),(79,aC ((p_.aD.getD (((l_.getD g2.1.toNat fV).dF).toNat) aG).bO)),(80,iV ((((p_.aD.getD (((l_.getD g2.1.toNat fV).dF).toNat) aG).bO).length:Nat):Int)),(81,iV g5.1)],[(0,some (.box [iV p_.bO,bf p_.aD])),(1,some (.row 1 64 (Lr iV g1.2.1))),(2,some (.row 1 64 (Lr iV g5.2.1))),(3,some (.row 1 g5.2.2.length (bR AV.bool false g5.2.2))),(4,some (.box [iV ((l_.getD g2.1.toNat fV).dF),iV ((l_.getD g2.1.toNat fV).gV)]))],5⟩) [(4,some 28)] [] <|fun j5 g5 hm=>si hm (fun _ hm=>s2 hm fun _ _ hm=>si hm (fun _ hm=>by cases hm;exact re) fun _ hm=>s2 hm fun _ _ hm=>le hm) fun _ hm=>sn hm fun _ hm=>le hm) fun _ hm=>by cases hm;exact re
theorem Gt {s_:Nat} {dH:(List Int)} {r:(List Int)} (hm:nM s_ dH r):S 47 [.eH 0 0 s_ false] [.row 1 dH.length (bR iV 0 dH)] (.eH 1 0 r.length false) [.row 1 dH.length (bR iV 0 dH),.row 1 r.length (bR iV 0 r)] :=by
 obtain ⟨⟨h0,h1⟩,hm⟩:=hm
 have hm:r=dH.take s_:=hm
 have hl:r.length=s_:=by rw [hm,List.length_take]; omega
 refine nD (ct:=[1]) iT Tryz.func47 rfl rfl (Nat.le_of_ble_eq_true rfl) dk (Nat.le_of_ble_eq_true rfl) ?_
 (conv=>whnf)
 refine QZ (ct:=[]) iT (iT.slice (t:=22) (e:=3) rfl rfl rfl).1 dk dk dk dk dk [(2,.sl 0 0 true fG),(0,.eH 0 0 s_ false)] [(0,some (.row 1 dH.length (bR iV 0 dH)))] 9 rfl rfl ?_ (fun hn=>?_) ?_
 ·exact rfl
 ·(conv=>whnf)
  have hn:r.length=0:=hl.trans hn
  refine ⟨[],[(1,none)],?_⟩
  (conv=>whnf)
  exact ⟨⟨rfl,trivial,⟨⟨rfl,rfl,fun _ _=>.refl _⟩,hn,trivial⟩⟩,⟨rfl,rfl,rfl,rfl,rfl,hn⟩⟩
 ·(conv=>whnf)
  refine ⟨by rw [Nat.zero_add]; exact h1,?_⟩
  (conv=>whnf)
  refine ⟨[],[(1,some 25)],?_⟩
  (conv=>whnf)
  subst hm
  exact ⟨⟨rfl,trivial,⟨⟨rfl,rfl,fun _ _=>.refl _⟩,⟨rfl,(Nat.zero_add _).trans hl.symm,j4 (l:=[]) rfl (fun _ h=>absurd h (Nat.not_lt_zero _)) hl.symm (lN (f:=iV) (d:=0) h0)⟩,trivial⟩⟩,⟨rfl,rfl,rfl,(Nat.zero_add _).trans hl.symm,nofun⟩⟩
theorem VL {p_:bn} {l_:(List nE)} {r:((List Int)×Int)} (hm:Fb p_ l_ r):S 212 [lT p_,Qc l_] [] (.kH [aC r.1,iV r.2]) [] :=spc [4,6] Tryz.func212 rfl<|sq hm VK fun v1 hm=>ck [4,6] (Dx p_) r (fun g1=>⟨[(2,.ptr 0 0 0),(6,.ptr 1 0 0)],[(0,some (.box [iV p_.bO,bf p_.aD])),(1,some (.row 1 64 (Lr iV g1)))],2⟩) (si hm (fun _ hm=>by cases hm;exact re) fun _ hm=>lce [(1,some 72)] [] hm ⟨rfl,⟨r4,r4,trivial⟩,⟨⟨r2,sr,trivial⟩,⟨rfl,rfl,(abq (f:=iV) (X:=v1.1) (n:=64) (fun _=>rfl))⟩,trivial⟩⟩) fun g1 hm=>sn hm fun _ hm=>sb hm fun v2 hv2 hm=>cl ((Gt hv2).le ⟨.refl _,trivial⟩ ⟨⟨rfl,oz,(amt (f:=iV) (X:=g1))⟩,trivial⟩)<|by cases hm;exact rt [26] []
theorem LM {s_:gW} {r:Bool} (hm:rR s_ r):S 171 [Jh s_] [] (.bool r) [] :=sp Tryz.func171 rfl<|lf hm (fun g1=>⟨[(1,.ptr 0 0 0),(3,.eH 1 0 g1.2.length false),(10,dO s_.aV.dZ),(11,iV (s_.aV.dZ.length:Int)),(12,iV g1.1)],[(0,some (.box [aZ s_.bD.bQ,aU s_.bD.bB,iV s_.bD.aQ.bO,bf s_.bD.aQ.aD,dx s_.bD.bg,bU s_.bD.cB,dM s_.dA,aC s_.aP,aC s_.aV.dD,aT s_.aV.eZ.On,aC s_.aV.eZ.dP,dO s_.aV.dZ,aT s_.aV.eu,aT s_.aV.fA,.bool s_.jM])),(1,some (.row 2 g1.2.length (bR amv fV g1.2)))],2⟩) [(1,none)] [] <|fun aj g1 hm=>si hm (fun _ hm=>s2 hm fun _ _ hm=>sn hm fun _ hm=>lc [(1,some 74)] [] hm) fun _ hm=>sq hm VL fun v1 hm=>by cases hm;exact re
theorem En {s_:gW} {r:Bool} (hm:mD s_ r):S 172 [Jh s_] [] (.bool r) [] :=sp Tryz.func172 rfl<|l0 hm (fun g1=>⟨[(1,.ptr 0 0 0),(11,aC s_.aP),(12,iV (s_.aP.length:Int)),(13,iV g1)],[(0,some (.box [aZ s_.bD.bQ,aU s_.bD.bB,iV s_.bD.aQ.bO,bf s_.bD.aQ.aD,dx s_.bD.bg,bU s_.bD.cB,dM s_.dA,aC s_.aP,aC s_.aV.dD,aT s_.aV.eZ.On,aC s_.aV.eZ.dP,dO s_.aV.dZ,aT s_.aV.eu,aT s_.aV.fA,.bool s_.jM]))],1⟩) <|fun aj g1 hm=>si hm (fun _ hm=>sn hm fun _ hm=>lf hm (fun g6=>⟨[(1,.ptr 0 0 0),(4,iV (s_.aP.getD g1.toNat 0)),(5,.mref 1),(11,aC s_.aP),(12,iV (s_.aP.length:Int)),(13,iV g1),(20,dO s_.aV.dZ),(21,iV (s_.aV.dZ.length:Int)),(22,iV g6.1)],[(0,some (.box [aZ s_.bD.bQ,aU s_.bD.bB,iV s_.bD.aQ.bO,bf s_.bD.aQ.aD,dx s_.bD.bg,bU s_.bD.cB,dM s_.dA,aC s_.aP,aC s_.aV.dD,aT s_.aV.eZ.On,aC s_.aV.eZ.dP,dO s_.aV.dZ,aT s_.aV.eu,aT s_.aV.fA,.bool s_.jM])),(1,some (.map .str [(.int .i64)] g6.2))],2⟩) [(1,some 33)] [] <|fun jE g6 hm=>si hm (fun _ hm=>sn hm fun _ hm=>si hm (fun _ hm=>s2 hm fun _ _ hm=>s2 hm fun _ _ hm=>le hm) fun _ hm=>sn hm fun _ hm=>le hm) fun _ hm=>sn hm fun _ hm=>l0 hm (fun g7=>⟨[(1,.ptr 0 0 0),(5,.mref 1),(11,aC s_.aP),(12,iV (s_.aP.length:Int)),(13,iV g1),(54,gG ((s_.dA.getD ((s_.aP.getD g1.toNat 0).toNat) bq).ak)),(55,iV ((((s_.dA.getD ((s_.aP.getD g1.toNat 0).toNat) bq).ak).length:Nat):Int)),(56,iV g7.1)],[(0,some (.box [aZ s_.bD.bQ,aU s_.bD.bB,iV s_.bD.aQ.bO,bf s_.bD.aQ.aD,dx s_.bD.bg,bU s_.bD.cB,dM s_.dA,aC s_.aP,aC s_.aV.dD,aT s_.aV.eZ.On,aC s_.aV.eZ.dP,dO s_.aV.dZ,aT s_.aV.eu,aT s_.aV.fA,.bool s_.jM])),(1,some (.map .str [(.int .i64)] g7.2))],2⟩) <|fun mW g7 hm=>si hm (fun _ hm=>s2 hm fun _ _ hm=>si hm (fun _ hm=>by cases hm;exact re) fun _ hm=>sn hm fun _ hm=>le hm) fun _ hm=>sn hm fun _ hm=>le hm) fun _ hm=>by cases hm;exact re
theorem Uc {l_:(List d9)} {dL:(List Bool)} {r:Bool} (hm:Ct l_ dL r):S 236 [dx l_,aT dL] [] (.bool r) [] :=sp Tryz.func236 rfl<|si hm (fun _ hm=>by cases hm;exact re) fun _ hm=>l0 hm (fun g1=>⟨[(1,aT dL),(14,dx l_),(15,iV (l_.length:Int)),(16,iV g1)],[],0⟩) <|fun aj g1 hm=>si hm (fun _ hm=>sn hm fun _ hm=>l0 hm (fun g4=>⟨[(1,aT dL),(5,iV g1),(14,dx l_),(15,iV (l_.length:Int)),(16,iV g1),(22,aC ((l_.getD g1.toNat dh).dX)),(23,iV ((((l_.getD g1.toNat dh).dX).length:Nat):Int)),(24,iV g4)],[],0⟩) <|fun jm g4 hm=>si hm (fun _ hm=>s2 hm fun _ _ hm=>sn hm fun _ hm=>si hm (fun _ hm=>by cases hm;exact re) fun _ hm=>sn hm fun _ hm=>le hm) fun _ hm=>sn hm fun _ hm=>le hm) fun _ hm=>by cases hm;exact re
theorem Ud {l_:(List d9)} {dL:(List Bool)} {r:Bool} (hm:Cu l_ dL r):S 213 [dx l_,aT dL] [] (.bool r) [] :=sp Tryz.func213 rfl<|sq hm yY fun v1 hm=>sb hm fun v2 hv2 hm=>cl (fun q0=>(Uc (hv2 q0)))<|by cases hm;exact re
theorem EL {MV:Int} {AJ:(List aI)} {uN:(List ay)} {Zc:Int} {Zd:(List cK)} {Ze:(List d9)} {Zf:(List dB)} {F8:(List aK)} {Zg:(List Int)} {Zh:(List Int)} {Zi:(List Bool)} {MW:(List Int)} {MX:(List aS)} {Dy:(List Bool)} {Dz:(List Bool)} {MZ:Bool} {r:Bool} (hm:kT MV AJ uN Zc Zd Ze Zf F8 Zg Zh Zi MW MX Dy Dz MZ r):S 214 [iV MV,.ro [aZ AJ,aU uN,iV Zc,bf Zd,dx Ze,bU Zf,dM F8,aC Zg,aC Zh,aT Zi,aC MW,dO MX,aT Dy,aT Dz,.bool MZ]] [] (.bool r) [] :=sp Tryz.func214 rfl<|sn hm fun _ hm=>by cases hm;exact re
theorem Bo {s_:(List Int)} {AO:(List aI)} {Bz:(List ay)} {BA:Int} {Q6:(List cK)} {Q7:(List d9)} {Q8:(List dB)} {Ls:(List aK)} {Q9:(List Int)} {Ra:(List Int)} {Rb:(List Bool)} {uO:(List Int)} {uP:(List aS)} {rT:(List Bool)} {rU:(List Bool)} {uQ:Bool} {r:Int} (hm:vw s_ AO Bz BA Q6 Q7 Q8 Ls Q9 Ra Rb uO uP rT rU uQ r):S 130 [aC s_,.fn 214 [.ro [aZ AO,aU Bz,iV BA,bf Q6,dx Q7,bU Q8,dM Ls,aC Q9,aC Ra,aT Rb,aC uO,dO uP,aT rT,aT rU,.bool uQ]]] [] (iV r) [] :=sp Tryz.func130 rfl<|l0 hm (fun g1=>⟨[(0,aC s_),(1,.fn 214 [.ro [aZ AO,aU Bz,iV BA,bf Q6,dx Q7,bU Q8,dM Ls,aC Q9,aC Ra,aT Rb,aC uO,dO uP,aT rT,aT rU,.bool uQ]]),(7,iV (s_.length:Int)),(8,iV g1)],[],0⟩) <|fun aj g1 hm=>si hm (fun _ hm=>sn hm fun _ hm=>sq hm EL fun v3 hm=>si hm (fun _ hm=>by cases hm;exact re) fun _ hm=>sn hm fun _ hm=>le hm) fun _ hm=>by cases hm;exact re
theorem xR {s_:(List Int)} {AO:(List aI)} {Bz:(List ay)} {BA:Int} {Q6:(List cK)} {Q7:(List d9)} {Q8:(List dB)} {Ls:(List aK)} {Q9:(List Int)} {Ra:(List Int)} {Rb:(List Bool)} {uO:(List Int)} {uP:(List aS)} {rT:(List Bool)} {rU:(List Bool)} {uQ:Bool} {r:Bool} (hm:l7 s_ AO Bz BA Q6 Q7 Q8 Ls Q9 Ra Rb uO uP rT rU uQ r):S 200 [aC s_,.fn 214 [.ro [aZ AO,aU Bz,iV BA,bf Q6,dx Q7,bU Q8,dM Ls,aC Q9,aC Ra,aT Rb,aC uO,dO uP,aT rT,aT rU,.bool uQ]]] [] (.bool r) [] :=sp Tryz.func200 rfl<|sq hm Bo fun v1 hm=>by cases hm;exact re
theorem IB {s_:gW} {r:Bool} (hm:oZ s_ r):S 173 [Jh s_] [] (.bool r) [] :=sp Tryz.func173 rfl<|sq hm Ud fun v1 hm=>si hm (fun _ hm=>by cases hm;exact re) fun _ hm=>l0 hm (fun g1=>⟨[(1,.ptr 0 0 0),(14,aC s_.aP),(15,iV (s_.aP.length:Int)),(16,iV g1)],[(0,some (.box [aZ s_.bD.bQ,aU s_.bD.bB,iV s_.bD.aQ.bO,bf s_.bD.aQ.aD,dx s_.bD.bg,bU s_.bD.cB,dM s_.dA,aC s_.aP,aC s_.aV.dD,aT s_.aV.eZ.On,aC s_.aV.eZ.dP,dO s_.aV.dZ,aT s_.aV.eu,aT s_.aV.fA,.bool s_.jM]))],1⟩) <|fun aj g1 hm=>si hm (fun _ hm=>s2 hm fun _ _ hm=>sq hm xR fun v4 hm=>si hm (fun _ hm=>by cases hm;exact re) fun _ hm=>sn hm fun _ hm=>le hm) fun _ hm=>by cases hm;exact re
theorem Ue {l_:(List dB)} {qC:(List Bool)} {r:Bool} (hm:Cv l_ qC r):S 237 [bU l_,aT qC] [] (.bool r) [] :=sp Tryz.func237 rfl<|si hm (fun _ hm=>by cases hm;exact re) fun _ hm=>l0 hm (fun g1=>⟨[(1,aT qC),(12,bU l_),(13,iV (l_.length:Int)),(14,iV g1)],[],0⟩) <|fun aj g1 hm=>si hm (fun _ hm=>s2 hm fun _ _ hm=>s2 hm fun _ _ hm=>si hm (fun _ hm=>by cases hm;exact re) fun _ hm=>sn hm fun _ hm=>le hm) fun _ hm=>by cases hm;exact re
theorem Uf {l_:(List dB)} {qC:(List Bool)} {r:Bool} (hm:Cw l_ qC r):S 215 [bU l_,aT qC] [] (.bool r) [] :=sp Tryz.func215 rfl<|sq hm xJ fun v1 hm=>sb hm fun v2 hv2 hm=>cl (fun q0=>(Ue (hv2 q0)))<|by cases hm;exact re
theorem Eo {m_:Int} {AJ:(List aI)} {uN:(List ay)} {Zc:Int} {Zd:(List cK)} {Ze:(List d9)} {Zf:(List dB)} {F8:(List aK)} {Zg:(List Int)} {Zh:(List Int)} {Zi:(List Bool)} {MW:(List Int)} {MX:(List aS)} {Dy:(List Bool)} {Dz:(List Bool)} {MZ:Bool} {r:Bool} (hm:j6 m_ AJ uN Zc Zd Ze Zf F8 Zg Zh Zi MW MX Dy Dz MZ r):S 216 [iV m_,.ro [aZ AJ,aU uN,iV Zc,bf Zd,dx Ze,bU Zf,dM F8,aC Zg,aC Zh,aT Zi,aC MW,dO MX,aT Dy,aT Dz,.bool MZ]] [] (.bool r) [] :=sp Tryz.func216 rfl<|s2 hm fun _ _ hm=>by cases hm;exact re
theorem Bp {s_:(List Int)} {AO:(List aI)} {Bz:(List ay)} {BA:Int} {Q6:(List cK)} {Q7:(List d9)} {Q8:(List dB)} {Ls:(List aK)} {Q9:(List Int)} {Ra:(List Int)} {Rb:(List Bool)} {uO:(List Int)} {uP:(List aS)} {rT:(List Bool)} {rU:(List Bool)} {uQ:Bool} {r:Int} (hm:vB s_ AO Bz BA Q6 Q7 Q8 Ls Q9 Ra Rb uO uP rT rU uQ r):S 130 [aC s_,.fn 216 [.ro [aZ AO,aU Bz,iV BA,bf Q6,dx Q7,bU Q8,dM Ls,aC Q9,aC Ra,aT Rb,aC uO,dO uP,aT rT,aT rU,.bool uQ]]] [] (iV r) [] :=sp Tryz.func130 rfl<|l0 hm (fun g1=>⟨[(0,aC s_),(1,.fn 216 [.ro [aZ AO,aU Bz,iV BA,bf Q6,dx Q7,bU Q8,dM Ls,aC Q9,aC Ra,aT Rb,aC uO,dO uP,aT rT,aT rU,.bool uQ]]),(7,iV (s_.length:Int)),(8,iV g1)],[],0⟩) <|fun aj g1 hm=>si hm (fun _ hm=>sn hm fun _ hm=>sq hm Eo fun v3 hm=>si hm (fun _ hm=>by cases hm;exact re) fun _ hm=>sn hm fun _ hm=>le hm) fun _ hm=>by cases hm;exact re
theorem xS {s_:(List Int)} {AO:(List aI)} {Bz:(List ay)} {BA:Int} {Q6:(List cK)} {Q7:(List d9)} {Q8:(List dB)} {Ls:(List aK)} {Q9:(List Int)} {Ra:(List Int)} {Rb:(List Bool)} {uO:(List Int)} {uP:(List aS)} {rT:(List Bool)} {rU:(List Bool)} {uQ:Bool} {r:Bool} (hm:l8 s_ AO Bz BA Q6 Q7 Q8 Ls Q9 Ra Rb uO uP rT rU uQ r):S 200 [aC s_,.fn 216 [.ro [aZ AO,aU Bz,iV BA,bf Q6,dx Q7,bU Q8,dM Ls,aC Q9,aC Ra,aT Rb,aC uO,dO uP,aT rT,aT rU,.bool uQ]]] [] (.bool r) [] :=sp Tryz.func200 rfl<|sq hm Bp fun v1 hm=>by cases hm;exact re
theorem Gu {s_:gW} {r:Bool} (hm:nN s_ r):S 174 [Jh s_] [] (.bool r) [] :=sp Tryz.func174 rfl<|sq hm Uf fun v1 hm=>si hm (fun _ hm=>by cases hm;exact re) fun _ hm=>sq hm xS fun v2 hm=>by cases hm;exact re
theorem IC {s_:gW} {r:Int} (hm:o8 s_ r):S 120 [Jh s_] [] (iV r) [] :=sp Tryz.func120 rfl<|by
 refine aef 9 ?_
 refine oN (ct:=[]) iT dk ?_
 (conv=>whnf)
 refine aY hm fun h1 hm=>?_
 (conv=>whnf)
 refine iI hm fun v1 hv1 hm=>?_
 refine ⟨_,_,(JZ hv1),?_⟩
 (conv=>whnf)
 refine iU hm (fun c1 hm=>?_) (fun c1 hm=>?_)
 ·(conv=>whnf)
  refine aY hm fun h2 hm=>?_
  (conv=>whnf)
  have hm:r=((0:Int)+(1:Int)):=hm
  subst hm
  refine ⟨[],[],?_⟩
  (conv=>whnf)
  exact ⟨⟨rfl,trivial,trivial⟩,r2⟩
 ·(conv=>whnf)
  refine aY hm fun h3 hm=>?_
  (conv=>whnf)
  refine oN (ct:=[]) iT dk ?_
  (conv=>whnf)
  refine aY hm fun h4 hm=>?_
  (conv=>whnf)
  refine iI hm fun v2 hv2 hm=>?_
  refine ⟨_,_,(Iy hv2),?_⟩
  (conv=>whnf)
  refine iU hm (fun c2 hm=>?_) (fun c2 hm=>?_)
  ·(conv=>whnf)
   refine aY hm fun h5 hm=>?_
   (conv=>whnf)
   have hm:r=(((0:Int)+(1:Int))+(1:Int)):=hm
   subst hm
   refine ⟨[],[],?_⟩
   (conv=>whnf)
   exact ⟨⟨rfl,trivial,trivial⟩,r2⟩
  ·(conv=>whnf)
   refine aY hm fun h6 hm=>?_
   (conv=>whnf)
   refine oN (ct:=[]) iT dk ?_
   (conv=>whnf)
   refine aY hm fun h7 hm=>?_
   (conv=>whnf)
   refine iI hm fun v3 hv3 hm=>?_
   refine ⟨_,_,(Iz hv3),?_⟩
   (conv=>whnf)
   refine iU hm (fun c3 hm=>?_) (fun c3 hm=>?_)
   ·(conv=>whnf)
    refine aY hm fun h8 hm=>?_
    (conv=>whnf)
    have hm:r=((((0:Int)+(1:Int))+(1:Int))+(1:Int)):=hm
    subst hm
    refine ⟨[],[],?_⟩
    (conv=>whnf)
    exact ⟨⟨rfl,trivial,trivial⟩,r2⟩
   ·(conv=>whnf)
    refine aY hm fun h9 hm=>?_
    (conv=>whnf)
    refine oN (ct:=[]) iT dk ?_
    (conv=>whnf)
    refine aY hm fun h10 hm=>?_
    (conv=>whnf)
    refine iI hm fun v4 hv4 hm=>?_
    refine ⟨_,_,(EK hv4),?_⟩
    (conv=>whnf)
    refine iU hm (fun c4 hm=>?_) (fun c4 hm=>?_)
    ·(conv=>whnf)
     refine aY hm fun h11 hm=>?_
     (conv=>whnf)
     have hm:r=(((((0:Int)+(1:Int))+(1:Int))+(1:Int))+(1:Int)):=hm
     subst hm
     refine ⟨[],[],?_⟩
     (conv=>whnf)
     exact ⟨⟨rfl,trivial,trivial⟩,r2⟩
    ·(conv=>whnf)
     refine aY hm fun h12 hm=>?_
     (conv=>whnf)
     refine oN (ct:=[]) iT dk ?_
     (conv=>whnf)
     refine aY hm fun h13 hm=>?_
     (conv=>whnf)
     refine iI hm fun v5 hv5 hm=>?_
     refine ⟨_,_,(LM hv5),?_⟩
     (conv=>whnf)
     refine iU hm (fun c5 hm=>?_) (fun c5 hm=>?_)
     ·(conv=>whnf)
      refine aY hm fun h14 hm=>?_
      (conv=>whnf)
      have hm:r=((((((0:Int)+(1:Int))+(1:Int))+(1:Int))+(1:Int))+(1:Int)):=hm
      subst hm
      refine ⟨[],[],?_⟩
      (conv=>whnf)
      exact ⟨⟨rfl,trivial,trivial⟩,r2⟩
     ·(conv=>whnf)
      refine aY hm fun h15 hm=>?_
      (conv=>whnf)
      refine oN (ct:=[]) iT dk ?_
      (conv=>whnf)
      refine aY hm fun h16 hm=>?_
      (conv=>whnf)
      refine iI hm fun v6 hv6 hm=>?_
      refine ⟨_,_,(En hv6),?_⟩
      (conv=>whnf)
      refine iU hm (fun c6 hm=>?_) (fun c6 hm=>?_)
      ·(conv=>whnf)
       refine aY hm fun h17 hm=>?_
       (conv=>whnf)
       have hm:r=(((((((0:Int)+(1:Int))+(1:Int))+(1:Int))+(1:Int))+(1:Int))+(1:Int)):=hm
       subst hm
       refine ⟨[],[],?_⟩
       (conv=>whnf)
       exact ⟨⟨rfl,trivial,trivial⟩,r2⟩
      ·(conv=>whnf)
       refine aY hm fun h18 hm=>?_
       (conv=>whnf)
       refine oN (ct:=[]) iT dk ?_
       (conv=>whnf)
       refine aY hm fun h19 hm=>?_
       (conv=>whnf)
       refine iI hm fun v7 hv7 hm=>?_
       refine ⟨_,_,(IB hv7),?_⟩
       (conv=>whnf)
       refine iU hm (fun c7 hm=>?_) (fun c7 hm=>?_)
       ·(conv=>whnf)
        refine aY hm fun h20 hm=>?_
        (conv=>whnf)
        have hm:r=((((((((0:Int)+(1:Int))+(1:Int))+(1:Int))+(1:Int))+(1:Int))+(1:Int))+(1:Int)):=hm
        subst hm
        refine ⟨[],[],?_⟩
        (conv=>whnf)
        exact ⟨⟨rfl,trivial,trivial⟩,r2⟩
       ·(conv=>whnf)
        refine aY hm fun h21 hm=>?_
        (conv=>whnf)
        refine oN (ct:=[]) iT dk ?_
        (conv=>whnf)
        refine aY hm fun h22 hm=>?_
        (conv=>whnf)
        refine iI hm fun v8 CU hm=>?_
        refine ⟨_,_,(Gu CU),?_⟩
        (conv=>whnf)
        refine iU hm (fun c8 hm=>?_) (fun c8 hm=>?_)
        ·(conv=>whnf)
         refine aY hm fun h23 hm=>?_
         (conv=>whnf)
         have hm:r=(((((((((0:Int)+(1:Int))+(1:Int))+(1:Int))+(1:Int))+(1:Int))+(1:Int))+(1:Int))+(1:Int)):=hm
         subst hm
         refine ⟨[],[],?_⟩
         (conv=>whnf)
         exact ⟨⟨rfl,trivial,trivial⟩,r2⟩
        ·(conv=>whnf)
         refine aY hm fun h24 hm=>?_
         (conv=>whnf)
         refine oN (ct:=[]) iT dk ?_
         (conv=>whnf)
         have hm:r=(0:Int):=hm
         subst hm
         refine ⟨[],[],?_⟩
         (conv=>whnf)
         exact ⟨⟨rfl,trivial,trivial⟩,r2⟩
theorem Ug {b_:aR} {l_:(List aK)} {ah:(List Int)} {g_:bL} {gN:Bool} {r:Int} (hm:Cx b_ l_ ah g_ gN r):S 68 [jy b_,dM l_,aC ah,lU g_,.bool gN] [] (iV r) [] :=sp Tryz.func68 rfl<|sq hm Ld fun v1 hm=>si hm (fun _ hm=>by cases hm;exact re) fun _ hm=>sq hm IC fun v2 hm=>by cases hm;exact re
theorem y9 {b_:aR} {l_:(List aK)} {ah:(List Int)} {g_:bL} {r:Bool} (hm:vC b_ l_ ah g_ r):S 28 [jy b_,dM l_,aC ah,lU g_] [] (.bool r) [] :=sp Tryz.func28 rfl<|sq hm Ug fun v1 hm=>by cases hm;exact re
theorem FN {b_:aR} {l_:(List aK)} {ah:(List Int)} {g_:bL} {bN:Int} {r:Int} (hm:Js b_ l_ ah g_ bN r):S 44 [jy b_,dM l_,aC ah,lU g_,iV bN] [] (iV r) [] :=sp Tryz.func44 rfl<|sq hm Iw fun v1 hm=>si hm (fun _ hm=>by cases hm;exact re) fun _ hm=>sq hm y9 fun v2 hm=>si hm (fun _ hm=>by cases hm;exact re) fun _ hm=>si hm (fun _ hm=>by cases hm;exact re) fun _ hm=>by cases hm;exact re
theorem VN {b_:aR} {jU:(List aS)} {WK:(List ByteArray)} {r:((List ByteArray)×(List Int))} (hm:WL b_ jU WK r):S 48 [jy b_,dO jU,gG WK] [] (.kH [gG r.1,aC r.2]) [] :=sp Tryz.func48 rfl<|lf hm (fun g1=>⟨[(2,gG WK),(3,.ptr 0 0 0),(6,.eH 1 0 g1.2.1.length false),(7,.eH 2 0 g1.2.2.length false),(10,dO jU),(11,iV (jU.length:Int)),(12,iV g1.1)],[(0,some (.box [aZ b_.bQ,aU b_.bB,iV b_.aQ.bO,bf b_.aQ.aD,dx b_.bg,bU b_.cB])),(1,some (.row 1 g1.2.1.length (bR AV.str ByteArray.empty g1.2.1))),(2,some (.row 1 g1.2.2.length (bR iV 0 g1.2.2)))],3⟩) [(1,none),(2,none)] [] <|fun aj g1 hm=>si hm (fun _ hm=>s2 hm fun _ _ hm=>s2 hm fun _ _ hm=>s2 hm fun _ _ hm=>lc [(1,some 171),(2,some 227)] [] hm) fun _ hm=>sn hm fun _ hm=>by cases hm;exact rt [27,2] []
theorem Ol {f_:ByteArray} {r:Bool} (hm:KF f_ r):S 145 [.str f_] [] (.bool r) [] :=sp Tryz.func145 rfl<|sq hm xI fun v1 hm=>by cases hm;exact re
theorem Bq {s_:(List ByteArray)} {r:Int} (hm:vD s_ r):S 197 [gG s_,.fn 145 []] [] (iV r) [] :=sp Tryz.func197 rfl<|l0 hm (fun g1=>⟨[(0,gG s_),(1,.fn 145 []),(7,iV (s_.length:Int)),(8,iV g1)],[],0⟩) <|fun aj g1 hm=>si hm (fun _ hm=>sn hm fun _ hm=>sq hm Ol fun v3 hm=>si hm (fun _ hm=>by cases hm;exact re) fun _ hm=>sn hm fun _ hm=>le hm) fun _ hm=>by cases hm;exact re
theorem xU {s_:(List ByteArray)} {r:Bool} (hm:qY s_ r):S 144 [gG s_,.fn 145 []] [] (.bool r) [] :=sp Tryz.func144 rfl<|sq hm Bq fun v1 hm=>by cases hm;exact re
theorem VO {p_:bn} {eY:ByteArray} {r:(List Int)} (hm:WM p_ eY r):S 198 [lT p_,.str eY] [] (aC r) [] :=sp Tryz.func198 rfl<|sq hm uF fun v1 hm=>si hm (fun _ hm=>by cases hm;exact re) fun _ hm=>lf hm (fun g1=>⟨[(1,.str eY),(5,.eH 0 0 g1.2.length false),(12,bf p_.aD),(13,iV (p_.aD.length:Int)),(14,iV g1.1)],[(0,some (.row 1 g1.2.length (bR iV 0 g1.2)))],1⟩) [(0,none)] [] <|fun aj g1 hm=>si hm (fun _ hm=>sn hm fun _ hm=>sq hm qI fun v4 hm=>si hm (fun _ hm=>s2 hm fun _ _ hm=>lc [(0,some 113)] [] hm) fun _ hm=>sn hm fun _ hm=>le hm) fun _ hm=>by cases hm;exact rt [0] []
theorem Om {p_:bn} {eY:ByteArray} {r:(List Int)} (hm:KG p_ eY r):S 147 [lT p_,.str eY] [] (aC r) [] :=sp Tryz.func147 rfl<|sq hm VO fun v1 hm=>by cases hm;exact re
theorem RN {p_:bn} {l_:(List ByteArray)} {fH:(List Int)} {r:(eP×Int)} (hm:Qj p_ l_ fH r):S 97 [lT p_,gG l_,aC fH] [] (.kH [Y8 r.1,iV r.2]) [] :=sp Tryz.func97 rfl<|sq hm uF fun v1 hm=>sb hm fun v2 hv2 hm=>cl (fun q0=>(xU (hv2 q0)))<|si hm (fun _ hm=>by cases hm;exact re) fun _ hm=>lf hm (fun g1=>⟨[(1,gG l_),(2,aC fH),(3,.ptr 0 0 0),(6,.ptr 1 0 0),(8,.ptr 2 0 0),(31,gG l_),(32,iV (l_.length:Int)),(33,iV g1.1)],[(0,some (.box [iV p_.bO,bf p_.aD])),(1,some (.box [.sl 0 0 true fG,.sl 0 0 true fG,.sl 0 0 true fG,.int .u64 (0:Int)])),(2,some (.box [.eH 3 0 g1.2.length false,.sl 0 0 true fG,.sl 0 0 true fG,.int .u64 (0:Int)])),(3,some (.row 1 g1.2.length (bR aC [] g1.2)))],4⟩) [(1,some 8),(2,some 120),(3,none)] [] <|fun aj g1 hm=>si hm (fun _ hm=>sn hm fun _ hm=>sq hm Om fun v5 hm=>s2 hm fun _ _ hm=>lc [(3,some 84)] [] hm) fun _ hm=>lf hm (fun g2=>⟨[(1,gG l_),(2,aC fH),(6,.ptr 0 0 0),(8,.ptr 1 0 0),(47,bf p_.aD),(48,iV (p_.aD.length:Int)),(49,iV g2.1)],[(0,some (.box [.sl 0 0 true fG,.sl 0 0 true fG,.sl 0 0 true fG,.int .u64 (0:Int)])),(1,some (.box [.eH 2 0 g1.2.length false,.eH 3 0 g2.2.length false,.sl 0 0 true fG,.int .u64 (0:Int)])),(2,some (.row 1 g1.2.length (bR aC [] g1.2))),(3,some (.row 1 g2.2.length (bR (AV.int .u64) 0 g2.2)))],4⟩) [(0,some 1),(1,some 2),(2,some 3),(3,none)] [] <|fun dK g2 hm=>si hm (fun _ hm=>sn hm fun _ hm=>l0 hm (fun g5=>⟨[(1,gG l_),(2,aC fH),(6,.ptr 0 0 0),(8,.ptr 1 0 0),(13,.int .u64 g5.1),(47,bf p_.aD),(48,iV (p_.aD.length:Int)),(49,iV g2.1),(54,aC ((p_.aD.getD g2.1.toNat aG).bO)),(55,iV ((((p_.aD.getD g2.1.toNat aG).bO).length:Nat):Int)),(56,iV g5.2)],[(0,some (.box [.sl 0 0 true fG,.sl 0 0 true fG,.sl 0 0 true fG,.int .u64 (0:Int)])),(1,some (.box [.eH 2 0 g1.2.length false,.eH 3 0 g2.2.length false,.sl 0 0 true fG,.int .u64 (0:Int)])),(2,some (.row 1 g1.2.length (bR aC [] g1.2))),(3,some (.row 1 g2.2.length (bR (AV.int .u64) 0 g2.2)))],4⟩) <|fun j5 g5 hm=>si hm (fun _ hm=>s2 hm fun _ _ hm=>sn hm fun _ hm=>le hm) fun _ hm=>s2 hm fun _ _ hm=>lc [(3,some 44)] [] hm) fun _ hm=>si hm (fun _ hm=>by cases hm;exact re) fun _ hm=>l0 hm (fun g6=>⟨[(2,aC fH),(6,.ptr 0 0 0),(8,.ptr 1 0 0),(78,aC fH),(79,iV (fH.length:Int)),(80,iV g6.1)],[(0,some (.box [.sl 0 0 true fG,.sl 0 0 true fG,.sl 0 0 true fG,.int .u64 (0:Int)])),(1,some (.box [.eH 2 0 g1.2.length false,.eH 3 0 g2.2.length false,.sl 0 0 true fG,.int .u64 g6.2])),(2,some (.row 1 g1.2.length (bR aC [] g1.2))),(3,some (.row 1 g2.2.length (bR (AV.int .u64) 0 g2.2)))],4⟩) <|fun jE g6 hm=>si hm (fun _ hm=>s2 hm fun _ _ hm=>sq hm gF fun v8 hm=>sn hm fun _ hm=>si hm (fun _ hm=>by cases hm;exact re) fun _ hm=>s2 hm fun _ _ hm=>le hm) fun _ hm=>by cases hm;exact rt [2,3] []
theorem EM {x_:eP} {r:(List Int)} (hm:zV x_ r):S 99 [Y8 x_] [] (aC r) [] :=sp Tryz.func99 rfl<|lf hm (fun g1=>⟨[(1,.ptr 0 0 0),(3,.eH 1 0 g1.2.length false),(4,iV g1.1)],[(0,some (.box [yI x_.gU,WI x_.wo,aC x_.yG,.int .u64 x_.Dp])),(1,some (.row 1 g1.2.length (bR iV 0 g1.2)))],2⟩) [(1,none)] [] <|fun aj g1 hm=>si hm (fun _ hm=>s2 hm fun _ _ hm=>lc [(1,some 66)] [] hm) fun _ hm=>by cases hm;exact rt [1] []
theorem Ep:∀(n:Nat) (iM:(Int×(List Int)×eP×(List Int))) (r:(Bool×Nat×(List Int)×eP×(List Int))),itM jo n iM r→S 148 [.int .u64 iM.1,.ptr 0 0 0,.ptr 1 0 0,.ptr 2 0 0,.ptr 3 0 0] [.box [.eH 4 0 iM.2.2.2.length false],.box [aC iM.2.1],.box [yI iM.2.2.1.gU,WI iM.2.2.1.wo,aC iM.2.2.1.yG,.int .u64 iM.2.2.1.Dp],.box [.fn 148 [.ptr 0 0 0,.ptr 1 0 0,.ptr 2 0 0,.ptr 3 0 0]],.row 1 iM.2.2.2.length (bR iV 0 iM.2.2.2)] (.bool r.1) [.box [.eH 5 0 r.2.1 false],.box [aC r.2.2.1],.box [yI r.2.2.2.1.gU,WI r.2.2.2.1.wo,aC r.2.2.2.1.yG,.int .u64 r.2.2.2.1.Dp],.box [.fn 148 [.ptr 0 0 0,.ptr 1 0 0,.ptr 2 0 0,.ptr 3 0 0]],ang,.row 1 r.2.2.2.2.length (bR iV 0 r.2.2.2.2)] :=by
 intro n
 induction n with
 | zero=>intro iM r hm; exact hm.elim
 | succ n ih=>
   intro iM r hm
   have hm:jo (itM jo n) iM r:=hm
   generalize itM jo n=AP at hm ih
   refine nD (ct:=[8]) iT Tryz.func148 rfl rfl (Nat.le_of_ble_eq_true rfl) dk (Nat.le_of_ble_eq_true rfl) ?_
   (conv=>whnf)
   refine iU hm (fun c1 hm=>?_) (fun c1 hm=>?_)
   · (conv=>whnf)
     have hm:r=(true,iM.2.2.2.length,iM.2.1,iM.2.2.1,iM.2.2.2):=hm
     subst hm
     refine ⟨[],[(5,some 4)],?_⟩
     (conv=>whnf)
     exact ⟨⟨rfl,trivial,⟨⟨⟨rfl,rfl,rfl,rfl,nofun⟩,trivial⟩,⟨sf,trivial⟩,⟨sf,sf,sf,r2,trivial⟩,⟨⟨rfl,r4,r4,r4,r4,trivial⟩,trivial⟩,⟨rfl,rfl,(fun _ _=>.refl _)⟩,trivial⟩⟩,rfl⟩
   · (conv=>whnf)
     refine aY hm fun h1 hm=>?_
     (conv=>whnf)
     refine aY hm fun h2 hm=>?_
     (conv=>whnf)
     refine u7 (ct:=[8]) iT dk hm (fun g1=>⟨[(0,.int .u64 iM.1),(1,.ptr 0 0 0),(3,.ptr 2 0 0),(4,.ptr 3 0 0),(22,aC (iM.2.2.1.gU.getD ((iM.2.1.getD ((iM.2.2.2.length:Int).toNat) 0).toNat) [])),(23,iV (((iM.2.2.1.gU.getD ((iM.2.1.getD ((iM.2.2.2.length:Int).toNat) 0).toNat) []).length:Nat):Int)),(24,iV g1.1)],[(0,some (.box [.eH 5 0 g1.2.1 false])),(1,some (.box [aC g1.2.2.1])),(2,some (.box [yI g1.2.2.2.1,WI g1.2.2.2.2.1,aC g1.2.2.2.2.2.1,.int .u64 g1.2.2.2.2.2.2.1])),(3,some (.box [.fn 148 [.ptr 0 0 0,.ptr 1 0 0,.ptr 2 0 0,.ptr 3 0 0]])),(5,some (.row 1 g1.2.2.2.2.2.2.2.length (bR iV 0 g1.2.2.2.2.2.2.2)))],6⟩) [(5,some 4)] [] ⟨rfl,⟨r2,r4,r4,r4,sr,r2,r2,trivial⟩,⟨⟨⟨rfl,rfl,rfl,rfl,nofun⟩,trivial⟩,⟨sf,trivial⟩,⟨sf,sf,sf,r2,trivial⟩,⟨⟨rfl,r4,r4,r4,r4,trivial⟩,trivial⟩,⟨rfl,rfl,(fun _ _=>.refl _)⟩,trivial⟩⟩ ?_
     intro aj g1 hm
     (conv=>whnf)
     have h33:=hm.1
     have hm:=hm.2
     refine iU hm (fun c8 hm=>?_) (fun c8 hm=>?_)
     · (conv=>whnf)
       refine aY hm fun h23 hm=>?_
       (conv=>whnf)
       refine aY hm fun h24 hm=>?_
       (conv=>whnf)
       refine iU hm (fun c9 hm=>?_) (fun c9 hm=>?_)
       · (conv=>whnf)
         refine aY hm fun h25 hm=>?_
         (conv=>whnf)
         exact ⟨((g1.1+(1:Int)),g1.2.1,g1.2.2.1,g1.2.2.2.1,g1.2.2.2.2.1,g1.2.2.2.2.2.1,g1.2.2.2.2.2.2.1,g1.2.2.2.2.2.2.2),[],[],hm,⟨rfl,⟨r2,r4,r4,r4,sr,r2,r2,trivial⟩,⟨⟨⟨rfl,rfl,rfl,rfl,nofun⟩,trivial⟩,⟨sf,trivial⟩,⟨sf,sf,sf,r2,trivial⟩,⟨⟨rfl,r4,r4,r4,r4,trivial⟩,trivial⟩,⟨rfl,rfl,(fun _ _=>.refl _)⟩,trivial⟩⟩⟩
       · (conv=>whnf)
         refine Y6 (ct:=[8]) iT dk dk (qZ AP iM g1 aj) r (fun g4=>⟨[(0,.int .u64 iM.1),(1,.ptr 0 0 0),(3,.ptr 2 0 0),(4,.ptr 3 0 0),(8,iV ((iM.2.2.1.gU.getD ((iM.2.1.getD ((iM.2.2.2.length:Int).toNat) 0).toNat) []).getD g1.1.toNat 0)),(22,aC (iM.2.2.1.gU.getD ((iM.2.1.getD ((iM.2.2.2.length:Int).toNat) 0).toNat) [])),(23,iV (((iM.2.2.1.gU.getD ((iM.2.1.getD ((iM.2.2.2.length:Int).toNat) 0).toNat) []).length:Nat):Int)),(24,iV g1.1)],[(0,some (.box [.eH 5 0 g4.length false])),(1,some (.box [aC g1.2.2.1])),(2,some (.box [yI g1.2.2.2.1,WI g1.2.2.2.2.1,aC g1.2.2.2.2.2.1,.int .u64 g1.2.2.2.2.2.2.1])),(3,some (.box [.fn 148 [.ptr 0 0 0,.ptr 1 0 0,.ptr 2 0 0,.ptr 3 0 0]])),(5,some (.row 1 g4.length (bR iV 0 g4)))],6⟩) ?_ (fun g4 hm=>?_)
         · (conv=>whnf)
           refine aY hm fun h32 hm=>?_
           (conv=>whnf)
           exact ⟨((g1.2.2.2.2.2.2.2.take (g1.2.1))++([((iM.2.2.1.gU.getD ((iM.2.1.getD ((iM.2.2.2.length:Int).toNat) 0).toNat) []).getD g1.1.toNat 0)]:List Int)),[(5,some 126)],[],hm,⟨rfl,⟨r2,r4,r4,r4,r2,sr,r2,r2,trivial⟩,⟨⟨⟨rfl,rfl,rfl,oz,nofun⟩,trivial⟩,⟨sr,trivial⟩,⟨sr,sr,sr,r2,trivial⟩,⟨⟨rfl,r4,r4,r4,r4,trivial⟩,trivial⟩,⟨rfl,oz,(j4 oz (lN (f:=iV) (d:=0) (by first | omega | exact Nat.min_le_left _ _ | exact Nat.le_trans (Nat.min_le_left _ _) om | (simp; omega))) rfl (gM iV 0 [((iM.2.2.1.gU.getD ((iM.2.1.getD ((iM.2.2.2.length:Int).toNat) 0).toNat) []).getD g1.1.toNat 0)]))⟩,trivial⟩⟩⟩
         · (conv=>whnf)
           refine aY hm fun h27 hm=>?_
           (conv=>whnf)
           refine iI hm fun v3 hv3 hm=>?_
           refine ⟨_,_,(ih _ _ hv3),?_⟩
           (conv=>whnf)
           have h28:=hm.1
           have hm:=hm.2
           refine iU hm (fun c10 hm=>?_) (fun c10 hm=>?_)
           · (conv=>whnf)
             have hm:r=(true,v3.2.1,v3.2.2.1,v3.2.2.2.1,v3.2.2.2.2):=hm
             subst hm
             refine ⟨[],[(5,some 70)],?_⟩
             (conv=>whnf)
             exact ⟨⟨rfl,trivial,⟨⟨⟨rfl,rfl,rfl,rfl,nofun⟩,trivial⟩,⟨sf,trivial⟩,⟨sf,sf,sf,r2,trivial⟩,⟨⟨rfl,r4,r4,r4,r4,trivial⟩,trivial⟩,⟨rfl,rfl,(fun _ _=>.refl _)⟩,trivial⟩⟩,rfl⟩
           · (conv=>whnf)
             refine aY hm fun h29 hm=>?_
             (conv=>whnf)
             refine aY hm fun h30 hm=>?_
             (conv=>whnf)
             refine aY hm fun h31 hm=>?_
             (conv=>whnf)
             exact ⟨((g1.1+(1:Int)),(((v3.2.1:Nat):Int) - (1:Int)).toNat,v3.2.2.1,v3.2.2.2.1.gU,v3.2.2.2.1.wo,v3.2.2.2.1.yG,v3.2.2.2.1.Dp,v3.2.2.2.2),[(5,some 70)],[],hm,⟨rfl,⟨r2,r4,r4,r4,sr,r2,r2,trivial⟩,⟨⟨⟨rfl,rfl,rfl,rfl,nofun⟩,trivial⟩,⟨sf,trivial⟩,⟨sf,sf,sf,r2,trivial⟩,⟨⟨rfl,r4,r4,r4,r4,trivial⟩,trivial⟩,⟨rfl,rfl,(fun _ _=>.refl _)⟩,trivial⟩⟩⟩
     · (conv=>whnf)
       have hm:r=(false,g1.2.1,g1.2.2.1,(⟨g1.2.2.2.1,g1.2.2.2.2.1,g1.2.2.2.2.2.1,g1.2.2.2.2.2.2.1⟩:eP),g1.2.2.2.2.2.2.2):=hm
       subst hm
       refine ⟨[],[],?_⟩
       (conv=>whnf)
       exact ⟨⟨rfl,trivial,⟨⟨⟨rfl,rfl,rfl,rfl,nofun⟩,trivial⟩,⟨sf,trivial⟩,⟨sf,sf,sf,r2,trivial⟩,⟨⟨rfl,r4,r4,r4,r4,trivial⟩,trivial⟩,⟨rfl,rfl,(fun _ _=>.refl _)⟩,trivial⟩⟩,rfl⟩
theorem Br {Zl:Int} {o1_:(List Int)} {o2_:eP} {o4_:(List Int)} {r:(Bool×Nat×(List Int)×eP×(List Int))} (hm:vE Zl o1_ o2_ o4_ r):S 148 [.int .u64 Zl,.ptr 0 0 0,.ptr 1 0 0,.ptr 2 0 0,.ptr 3 0 0] [.box [.eH 4 0 o4_.length false],.box [aC o1_],.box [yI o2_.gU,WI o2_.wo,aC o2_.yG,.int .u64 o2_.Dp],.box [.fn 148 [.ptr 0 0 0,.ptr 1 0 0,.ptr 2 0 0,.ptr 3 0 0]],.row 1 o4_.length (bR iV 0 o4_)] (.bool r.1) [.box [.eH 5 0 r.2.1 false],.box [aC r.2.2.1],.box [yI r.2.2.2.1.gU,WI r.2.2.2.1.wo,aC r.2.2.2.1.yG,.int .u64 r.2.2.2.1.Dp],.box [.fn 148 [.ptr 0 0 0,.ptr 1 0 0,.ptr 2 0 0,.ptr 3 0 0]],ang,.row 1 r.2.2.2.2.length (bR iV 0 r.2.2.2.2)] :=by
 obtain ⟨n,hm⟩:=hm
 exact Ep n (Zl,o1_,o2_,o4_) r hm
theorem Er {x_:eP} {OT:(List Int)} {r:((List Int)×Bool)} (hm:yc x_ OT r):S 98 [Y8 x_,aC OT] [] (.kH [aC r.1,.bool r.2]) [] :=sp Tryz.func98 rfl<|sn hm fun _ hm=>sb hm fun v1 hv1 hm=>cl ((Br hv1).le ⟨.refl _,.refl _,.refl _,.refl _,.refl _,trivial⟩ ⟨kS _,kS _,kS _,kS _,⟨rfl,rfl,(fun _ h=>absurd h (Nat.not_lt_zero _))⟩,trivial⟩)<|by
 have h2:=hm.1
 have hm:=hm.2
 have hm:r=((v1.2.2.2.2.take (v1.2.1)),v1.1):=hm
 subst hm
 refine ⟨[120],[],?_⟩
 (conv=>whnf)
 exact ⟨⟨rfl,trivial,trivial⟩,(by (conv=>whnf); exact ⟨(by (conv=>whnf); exact ⟨oz,(fun _=>rfl),nofun,(lN (f:=iV) (d:=0) (by first | omega | exact Nat.min_le_left _ _ | exact Nat.le_trans (Nat.min_le_left _ _) om | (simp; omega)))⟩),(by (conv=>whnf); exact ⟨(by first | ((conv=>whnf); exact rfl) | exact rfl),trivial⟩)⟩)⟩
theorem IE {n_:Int} {r:(Nat×(List Int))} (hm:DL n_ r):S 149 [.sl 0 0 true fG,iV n_] [] (.eH 0 0 r.1 false) [.row 1 r.2.length (bR iV 0 r.2)] :=spc [3] Tryz.func149 rfl<|ck [3] (yg n_) r (fun g1=>⟨[(0,.sl 0 0 true fG),(1,iV n_)],[],0⟩) (by
 have c3:=hm.1
 have hm:=hm.2
 refine Sw (fun q=>Bool.noConfusion (c3.symm.trans q)) (fun _=>?_)
 (conv=>whnf)
 exact ⟨(),[],[],hm,⟨rfl,⟨sr,r2,trivial⟩,trivial⟩⟩) fun g1 hm=>s2 hm fun _ _ hm=>si hm (fun _ hm=>s2 hm fun _ _ hm=>sn hm fun _ hm=>by cases hm;exact rt [] [(0,some 120)]) fun _ hm=>by cases hm;exact rt [] [(0,none)]
theorem J2 {jA:(List (List Int))} {r:(List Int)} (hm:Fe jA r):S 100 [yI jA] [] (aC r) [] :=sp Tryz.func100 rfl<|l0 hm (fun g1=>⟨[(0,yI jA),(3,iV g1.1),(9,yI jA),(10,iV (jA.length:Int)),(11,iV g1.2)],[],0⟩) <|fun aj g1 hm=>si hm (fun _ hm=>s2 hm fun _ _ hm=>by
 have c6:=hm.1
 have hm:=hm.2
 refine Sw (fun q=>Bool.noConfusion (c6.symm.trans q)) (fun _=>?_)
 (conv=>whnf)
 refine aY hm fun h9 hm=>?_
 (conv=>whnf)
 exact ⟨((g1.1+(((jA.getD g1.2.toNat []).length:Nat):Int)),(g1.2+(1:Int))),[],[],hm,⟨rfl,⟨sr,r2,sr,r2,r2,trivial⟩,trivial⟩⟩) fun _ hm=>sq hm IE fun v1 hm=>by
 have h10:=hm.1
 have hm:=hm.2
 refine u7 (ct:=[]) iT dk hm (fun g2=>⟨[(6,.eH 0 0 g2.1 false),(25,yI jA),(26,iV (jA.length:Int)),(27,iV g2.2.1)],[(0,some (.row 1 g2.2.2.length (bR iV 0 g2.2.2)))],1⟩) [(0,some 16)] [] ⟨rfl,⟨⟨rfl,rfl,rfl,rfl,nofun⟩,sr,r2,r2,trivial⟩,⟨⟨rfl,rfl,(fun _ _=>.refl _)⟩,trivial⟩⟩ ?_
 intro dK g2 hm
 (conv=>whnf)
 have h20:=hm.1
 have hm:=hm.2
 refine iU hm (fun c9 hm=>?_) (fun c9 hm=>?_)
 ·(conv=>whnf)
  refine aY hm fun h17 hm=>?_
  (conv=>whnf)
  refine aY hm fun h18 hm=>?_
  (conv=>whnf)
  refine aY hm fun h19 hm=>?_
  (conv=>whnf)
  exact ⟨((g2.1+(jA.getD g2.2.1.toNat []).length),(g2.2.1+(1:Int)),((g2.2.2.take (g2.1))++(jA.getD g2.2.1.toNat []))),[(0,some 49)],[],hm,⟨rfl,⟨⟨rfl,rfl,rfl,rfl,nofun⟩,sr,r2,r2,trivial⟩,⟨⟨rfl,oz,(j4 oz (lN (f:=iV) (d:=0) (by first | omega | exact Nat.min_le_left _ _ | exact Nat.le_trans (Nat.min_le_left _ _) om | (simp; omega))) rfl (fun _ _=>.refl _))⟩,trivial⟩⟩⟩
 ·(conv=>whnf)
  have hm:r=(g2.2.2.take (g2.1)):=hm
  subst hm
  refine ⟨[0],[],?_⟩
  (conv=>whnf)
  exact ⟨⟨rfl,trivial,trivial⟩,⟨oz,(fun _=>rfl),nofun,(lN (f:=iV) (d:=0) (by first | omega | exact Nat.min_le_left _ _ | exact Nat.le_trans (Nat.min_le_left _ _) om | (simp; omega)))⟩⟩
theorem PX {p_:bn} {l_:(List ByteArray)} {fH:(List Int)} {r:((List Int)×Int)} (hm:M4 p_ l_ fH r):S 49 [lT p_,gG l_,aC fH] [] (.kH [aC r.1,iV r.2]) [] :=sp Tryz.func49 rfl<|sq hm RN fun v1 hm=>si hm (fun _ hm=>by cases hm;exact re) fun _ hm=>sq hm EM fun v2 hm=>sq hm Er fun v3 hm=>si hm (fun _ hm=>by cases hm;exact re) fun _ hm=>sb hm fun v4 hv4 hm=>cl ((J2 hv4).le ⟨(.sl rfl (fun _=>rfl) nofun (gM aC [] [fH,v3.1])),trivial⟩ trivial)<|by cases hm;exact re
theorem Es {s_:(List aS)} {r:(List aS)} (hm:yh s_ r):S 102 [dO s_] [] (.eH 0 0 r.length false) [.row 3 r.length (bR qz bH r)] :=by
 obtain ⟨h1,hm⟩:=hm
 have hm:r=s_:=hm
 subst hm
 refine nD (ct:=[1]) iT Tryz.func102 rfl rfl (Nat.le_of_ble_eq_true rfl) dk (Nat.le_of_ble_eq_true rfl) ?_
 (conv=>whnf)
 refine Y7 (ct:=[]) iT (iT.slice (t:=39) (e:=57) rfl rfl rfl).1 dk dk dk dk dk [(2,.sl 0 0 true fG),(0,dO r)] [] 8 rfl ?_ (fun hn=>?_) ?_
 ·exact rfl
 ·(conv=>whnf)
  have hn:r.length=0:=hn
  refine ⟨[],[(0,none)],?_⟩
  (conv=>whnf)
  exact ⟨⟨rfl,trivial,⟨hn,trivial⟩⟩,⟨rfl,rfl,rfl,rfl,rfl,hn⟩⟩
 ·(conv=>whnf)
  refine ⟨by rw [Nat.zero_add]; exact h1,?_⟩
  (conv=>whnf)
  refine ⟨[],[(0,some 24)],?_⟩
  (conv=>whnf)
  exact ⟨⟨rfl,trivial,⟨⟨rfl,Nat.zero_add _,j4 (l:=[]) rfl (fun _ h=>absurd h (Nat.not_lt_zero _)) rfl (fun _ _=>.refl _)⟩,trivial⟩⟩,⟨rfl,rfl,rfl,Nat.zero_add _,nofun⟩⟩
theorem ZW {g_:bL} {r:bL} (hm:abt g_ r):S 51 [lU g_] [] (lU r) [] :=sp Tryz.func51 rfl<|sq hm nI fun v1 hm=>sq hm Oj fun v2 hm=>sq hm Es fun v3 hm=>sq hm pI fun v4 hm=>sq hm pI fun v5 hm=>by cases hm;exact rt [32,80,104,128] []
theorem Uh {b_:aR} {l_:(List aK)} {ah:(List Int)} {g_:bL} {bN:Int} {r:(bL×Int×Int)} (hm:SI b_ l_ ah g_ bN r):S 13 [jy b_,dM l_,aC ah,lU g_,iV bN] [] (.kH [lU r.1,iV r.2.1,iV r.2.2]) [] :=spc [13] Tryz.func13 rfl<|sq hm FN fun v1 hm=>si hm (fun _ hm=>by cases hm;exact re) fun _ hm=>sq hm gF fun v2 hm=>si hm (fun _ hm=>by cases hm;exact re) fun _ hm=>ck [13] (Hu b_ l_ ah bN) r (fun g2=>⟨[(1,dM l_),(2,aC ah),(4,iV bN),(5,.ptr 0 0 0),(10,.ptr 1 0 0),(14,dO g2)],[(0,some (.box [aZ b_.bQ,aU b_.bB,iV b_.aQ.bO,bf b_.aQ.aD,dx b_.bg,bU b_.cB])),(1,some (.box [.sl 0 0 true fG,.sl 0 0 true fG,.sl 0 0 true fG,.sl 0 0 true fG,.sl 0 0 true fG,.sl 0 0 true fG]))],2⟩) (R3 [13] hm (fun g4=>⟨[(1,dM l_),(2,aC ah),(4,iV bN),(5,.ptr 0 0 0),(10,.ptr 1 0 0),(14,.eH 2 0 g4.2.length false),(41,dO g_.dZ),(42,iV (g_.dZ.length:Int)),(43,iV g4.1)],[(0,some (.box [aZ b_.bQ,aU b_.bB,iV b_.aQ.bO,bf b_.aQ.aD,dx b_.bg,bU b_.cB])),(1,some (.box [.sl 0 0 true fG,.sl 0 0 true fG,.sl 0 0 true fG,.sl 0 0 true fG,.sl 0 0 true fG,.sl 0 0 true fG])),(2,some (.row 3 g4.2.length (bR qz bH g4.2)))],3⟩) [(1,some 16),(2,none)] [] <|fun jm g4 hm=>si hm (fun _ hm=>sn hm fun _ hm=>sq hm gF fun v16 hm=>si hm (fun _ hm=>s2 hm fun _ _ hm=>lc [(2,some 99)] [] hm) fun _ hm=>sn hm fun _ hm=>le hm) fun _ hm=>lc [] [2] hm) fun g2 hm=>sq hm nI fun v6 hm=>sn hm fun _ hm=>sb hm fun v7 hv7 hm=>cl ((sH hv7).le ⟨.refl _,.refl _,(.sl oz (fun _=>rfl) nofun (j4 rfl (fun _ _=>.refl _) rfl (gM iV 0 [bN]))),.refl _,trivial⟩ trivial)<|si hm (fun _ hm=>by cases hm;exact re) fun _ hm=>sn hm fun _ hm=>sq hm VN fun v8 hm=>sq hm PX fun v9 hm=>si hm (fun _ hm=>by cases hm;exact re) fun _ hm=>sn hm fun _ hm=>lfe [13] hm (fun g3=>⟨[(4,iV bN),(5,.ptr 0 0 0),(10,.ptr 1 0 0),(17,.ptr 2 0 0),(20,gG v8.1),(21,aC v8.2),(99,aC g3.1),(100,iV (((v9.1.length - (v8.2.length:Int).toNat):Nat):Int)),(101,iV g3.2.1)],[(0,some (.box [aZ b_.bQ,aU b_.bB,iV b_.aQ.bO,bf b_.aQ.aD,dx b_.bg,bU b_.cB])),(1,some (.box [.sl 0 0 true fG,.sl 0 0 true fG,.sl 0 0 true fG,.sl 0 0 true fG,.sl 0 0 true fG,.sl 0 0 true fG])),(2,some (.box [aC v7.1,aT v7.2.1,aC v7.2.2.1,.eH 3 0 g3.2.2.length false,aT v7.2.2.2.1,aT v7.2.2.2.2.1])),(3,some (.row 3 g3.2.2.length (bR qz bH g3.2.2)))],4⟩) [(2,some 106),(3,some 66)] [] ⟨rfl,⟨r2,r4,r4,r4,sr,sr,⟨oz,(fun _=>rfl),nofun,(aii (a:=(v8.2.length:Int).toNat) (N:=v9.1.length) (fun _ _=>.refl _) (by first | omega | (simp; omega)))⟩,r2,r2,trivial⟩,⟨⟨sr,sr,r2,sr,sr,sr,trivial⟩,⟨sr,sr,sr,sr,sr,sr,trivial⟩,⟨sr,sr,sr,⟨rfl,rfl,rfl,rfl,nofun⟩,sr,sr,trivial⟩,⟨rfl,rfl,(fun _ _=>.refl _)⟩,trivial⟩⟩ <|fun jB g3 hm=>si hm (fun _ hm=>s2 hm fun _ _ hm=>s2 hm fun _ _ hm=>sq hm tV fun v12 hm=>s2 hm fun _ _ hm=>lc [(3,some 244)] [] hm) fun _ hm=>sq hm ZW fun v13 hm=>by cases hm;exact re
theorem Gv {dH:(List Int)} {r:(List Int)} (hm:BG dH r):S 47 [.eH 0 0 dH.length true] [.row 1 dH.length (bR iV 0 dH)] (.eH 1 0 r.length false) [.row 1 dH.length (bR iV 0 dH),.row 1 r.length (bR iV 0 r)] :=by
 obtain ⟨h1,hm⟩:=hm
 have hm:r=dH:=hm
 subst hm
 refine nD (ct:=[1]) iT Tryz.func47 rfl rfl (Nat.le_of_ble_eq_true rfl) dk (Nat.le_of_ble_eq_true rfl) ?_
 (conv=>whnf)
 refine QZ (ct:=[]) iT (iT.slice (t:=22) (e:=3) rfl rfl rfl).1 dk dk dk dk dk [(2,.sl 0 0 true fG),(0,.eH 0 0 r.length true)] [(0,some (.row 1 r.length (bR iV 0 r)))] 9 rfl rfl ?_ (fun hn=>?_) ?_
 ·exact rfl
 ·(conv=>whnf)
  have hn:r.length=0:=hn
  refine ⟨[],[(1,none)],?_⟩
  (conv=>whnf)
  exact ⟨⟨rfl,trivial,⟨⟨rfl,rfl,fun _ _=>.refl _⟩,hn,trivial⟩⟩,⟨rfl,rfl,rfl,rfl,rfl,hn⟩⟩
 ·(conv=>whnf)
  refine ⟨by rw [Nat.zero_add]; exact h1,?_⟩
  (conv=>whnf)
  refine ⟨[],[(1,some 25)],?_⟩
  (conv=>whnf)
  exact ⟨⟨rfl,trivial,⟨⟨rfl,rfl,fun _ _=>.refl _⟩,⟨rfl,Nat.zero_add _,j4 (l:=[]) rfl (fun _ h=>absurd h (Nat.not_lt_zero _)) rfl (fun _ _=>.refl _)⟩,trivial⟩⟩,⟨rfl,rfl,rfl,Nat.zero_add _,nofun⟩⟩
theorem BQ {m_:Int} {pK:Int} {r:Bool} (hm:DN m_ pK r):S 76 [iV m_,.ro [iV pK]] [] (.bool r) [] :=sp Tryz.func76 rfl<|by cases hm;exact re
theorem Bt {s_:(List Int)} {f_:Int} {r:Int} (hm:vF s_ f_ r):S 130 [aC s_,.fn 76 [.ro [iV f_]]] [] (iV r) [] :=sp Tryz.func130 rfl<|l0 hm (fun g1=>⟨[(0,aC s_),(1,.fn 76 [.ro [iV f_]]),(7,iV (s_.length:Int)),(8,iV g1)],[],0⟩) <|fun aj g1 hm=>si hm (fun _ hm=>sn hm fun _ hm=>sq hm BQ fun v3 hm=>si hm (fun _ hm=>by cases hm;exact re) fun _ hm=>sn hm fun _ hm=>le hm) fun _ hm=>by cases hm;exact re
theorem Et {aeg:Int} {dH:(List Int)} {r:(Nat×(List Int))} (hm:yj aeg dH r):S 75 [.eH 0 0 dH.length false,.fn 76 [.ro [iV aeg]]] [.row 1 dH.length (bR iV 0 dH)] (.eH 0 0 r.1 false) [.row 1 r.2.length (bR iV 0 r.2)] :=sp Tryz.func75 rfl<|sq hm Bt fun v1 hm=>si hm (fun _ hm=>by cases hm;exact re) fun _ hm=>sn hm fun _ hm=>l0 hm (fun g1=>⟨[(0,.eH 0 0 g1.2.2.length false),(1,.fn 76 [.ro [iV aeg]]),(5,iV g1.1),(6,iV g1.2.1)],[(0,some (.row 1 g1.2.2.length (bR iV 0 g1.2.2)))],1⟩) <|fun aj g1 hm=>si hm (fun _ hm=>sn hm fun _ hm=>sq hm BQ fun v4 hm=>si hm (fun _ hm=>s2 hm fun _ _ hm=>sn hm fun _ hm=>le hm) fun _ hm=>sn hm fun _ hm=>le hm) fun _ hm=>s2 hm fun _ _ hm=>by cases hm;exact rt [] [] (by (conv=>whnf);exact ⟨⟨rfl,trivial,⟨⟨rfl,oz,(acp rfl (fun _ _=>.refl _) oz (Sy iV 0))⟩,trivial⟩⟩,⟨rfl,rfl,rfl,rfl,nofun⟩⟩)
theorem Ui {b_:aR} {l_:(List aK)} {g_:bL} {bN:Int} {dH:(List Int)} {r:(bL×Int)} (hm:SK b_ l_ g_ bN dH r):S 32 [jy b_,dM l_,.eH 0 0 dH.length true,lU g_,iV bN] [.row 1 dH.length (bR iV 0 dH)] (.kH [lU r.1,iV r.2]) [.row 1 dH.length (bR iV 0 dH)] :=sp Tryz.func32 rfl<|sb hm fun v1 hv1 hm=>cl ((FN hv1).le ⟨.refl _,.refl _,(.sl rfl (fun _=>rfl) nofun (fun _ _=>.refl _)),.refl _,.refl _,trivial⟩ trivial)<|si hm (fun _ hm=>by cases hm;exact re) fun _ hm=>sb hm fun v2 hv2 hm=>cl ((gF hv2).le ⟨(.sl rfl (fun _=>rfl) nofun (fun _ _=>.refl _)),.refl _,trivial⟩ trivial)<|si hm (fun _ hm=>by cases hm;exact re) fun _ hm=>sq hm Gv fun v3 hm=>sq hm Et fun v4 hm=>by
 have h1:=hm.1
 have hm:=hm.2
 refine iI hm fun v5 hv5 hm=>?_
 refine ⟨_,_,((sH hv5).le ⟨.refl _,.refl _,(.sl oz (fun _=>rfl) nofun (lN (f:=iV) (d:=0) (by first | omega | exact Nat.min_le_left _ _ | exact Nat.le_trans (Nat.min_le_left _ _) om | (simp; omega)))),.refl _,trivial⟩ trivial),?_⟩
 (conv=>whnf)
 have hm:r=((⟨v5.1,(⟨v5.2.1,v5.2.2.1⟩:cO),v5.2.2.2.2.2.2.2,v5.2.2.2.1,v5.2.2.2.2.1⟩:bL),v5.2.2.2.2.2.2.1):=hm
 subst hm
 refine ⟨[225],[],?_⟩
 (conv=>whnf)
 exact ⟨⟨rfl,trivial,⟨⟨rfl,rfl,(fun _ _=>.refl _)⟩,trivial⟩⟩,(by (conv=>whnf); exact ⟨(by (conv=>whnf); exact ⟨(by (conv=>whnf); exact sf),(by (conv=>whnf); exact ⟨(by (conv=>whnf); exact sf),(by (conv=>whnf); exact ⟨(by (conv=>whnf); exact sf),(by (conv=>whnf); exact ⟨(by (conv=>whnf); exact sf),(by (conv=>whnf); exact ⟨(by (conv=>whnf); exact sf),(by (conv=>whnf); exact ⟨(by (conv=>whnf); exact sf),trivial⟩)⟩)⟩)⟩)⟩)⟩),(by (conv=>whnf); exact ⟨(by first | ((conv=>whnf); exact r2) | exact r2),trivial⟩)⟩)⟩
theorem Bu  {r:Bool} (hm:yN r):S 9 [] [] (.bool r) [] :=sp Tryz.func9 rfl<|sb hm fun v1 hv1 hm=>cl ((XL hv1).le ⟨(Le.QS ⟨(.sl rfl (fun h=>absurd rfl h) nofun (fun _ h=>absurd h (Nat.not_lt_zero _))),(.sl rfl (fun h=>absurd rfl h) nofun (fun _ h=>absurd h (Nat.not_lt_zero _))),(.refl _),(.sl rfl (fun h=>absurd rfl h) nofun (fun _ h=>absurd h (Nat.not_lt_zero _))),(.sl rfl (fun h=>absurd rfl h) nofun (fun _ h=>absurd h (Nat.not_lt_zero _))),(.sl rfl (fun h=>absurd rfl h) nofun (fun _ h=>absurd h (Nat.not_lt_zero _))),trivial⟩),trivial⟩ trivial)<|sb hm fun v2 hv2 hm=>cl ((Uh hv2).le ⟨(Le.QS ⟨(.sl rfl (fun h=>absurd rfl h) nofun (fun _ h=>absurd h (Nat.not_lt_zero _))),(.sl rfl (fun h=>absurd rfl h) nofun (fun _ h=>absurd h (Nat.not_lt_zero _))),(.refl _),(.sl rfl (fun h=>absurd rfl h) nofun (fun _ h=>absurd h (Nat.not_lt_zero _))),(.sl rfl (fun h=>absurd rfl h) nofun (fun _ h=>absurd h (Nat.not_lt_zero _))),(.sl rfl (fun h=>absurd rfl h) nofun (fun _ h=>absurd h (Nat.not_lt_zero _))),trivial⟩),(.sl rfl (fun _=>rfl) nofun (vZ (Le.QS ⟨(.sl rfl (fun h=>absurd rfl h) nofun (fun _ h=>absurd h (Nat.not_lt_zero _))),(.sl rfl (fun h=>absurd rfl h) nofun (fun _ h=>absurd h (Nat.not_lt_zero _))),(.sl rfl (fun h=>absurd rfl h) nofun (fun _ h=>absurd h (Nat.not_lt_zero _))),(.sl rfl (fun h=>absurd rfl h) nofun (fun _ h=>absurd h (Nat.not_lt_zero _))),(.refl _),(.sl rfl (fun h=>absurd rfl h) nofun (fun _ h=>absurd h (Nat.not_lt_zero _))),trivial⟩) (fun _ h=>absurd h (Nat.not_lt_zero _)))),(.sl rfl (fun h=>absurd rfl h) nofun (fun _ h=>absurd h (Nat.not_lt_zero _))),.refl _,.refl _,trivial⟩ trivial)<|sb hm fun v3 hv3 hm=>cl ((Ui hv3).le ⟨(Le.QS ⟨(.sl rfl (fun h=>absurd rfl h) nofun (fun _ h=>absurd h (Nat.not_lt_zero _))),(.sl rfl (fun h=>absurd rfl h) nofun (fun _ h=>absurd h (Nat.not_lt_zero _))),(.refl _),(.sl rfl (fun h=>absurd rfl h) nofun (fun _ h=>absurd h (Nat.not_lt_zero _))),(.sl rfl (fun h=>absurd rfl h) nofun (fun _ h=>absurd h (Nat.not_lt_zero _))),(.sl rfl (fun h=>absurd rfl h) nofun (fun _ h=>absurd h (Nat.not_lt_zero _))),trivial⟩),(.sl rfl (fun _=>rfl) nofun (vZ (Le.QS ⟨(.sl rfl (fun h=>absurd rfl h) nofun (fun _ h=>absurd h (Nat.not_lt_zero _))),(.sl rfl (fun h=>absurd rfl h) nofun (fun _ h=>absurd h (Nat.not_lt_zero _))),(.sl rfl (fun h=>absurd rfl h) nofun (fun _ h=>absurd h (Nat.not_lt_zero _))),(.sl rfl (fun h=>absurd rfl h) nofun (fun _ h=>absurd h (Nat.not_lt_zero _))),(.refl _),(.sl rfl (fun h=>absurd rfl h) nofun (fun _ h=>absurd h (Nat.not_lt_zero _))),trivial⟩) (fun _ h=>absurd h (Nat.not_lt_zero _)))),.refl _,.refl _,.refl _,trivial⟩ ⟨⟨rfl,rfl,(gM iV 0 [(0:Int)])⟩,trivial⟩)<|si hm (fun _ hm=>si hm (fun _ hm=>sb hm fun v4 hv4 hm=>cl (fun q0=>((y9 (hv4 q0)).le ⟨(Le.QS ⟨(.sl rfl (fun h=>absurd rfl h) nofun (fun _ h=>absurd h (Nat.not_lt_zero _))),(.sl rfl (fun h=>absurd rfl h) nofun (fun _ h=>absurd h (Nat.not_lt_zero _))),(.refl _),(.sl rfl (fun h=>absurd rfl h) nofun (fun _ h=>absurd h (Nat.not_lt_zero _))),(.sl rfl (fun h=>absurd rfl h) nofun (fun _ h=>absurd h (Nat.not_lt_zero _))),(.sl rfl (fun h=>absurd rfl h) nofun (fun _ h=>absurd h (Nat.not_lt_zero _))),trivial⟩),(.sl rfl (fun _=>rfl) nofun (vZ (Le.QS ⟨(.sl rfl (fun h=>absurd rfl h) nofun (fun _ h=>absurd h (Nat.not_lt_zero _))),(.sl rfl (fun h=>absurd rfl h) nofun (fun _ h=>absurd h (Nat.not_lt_zero _))),(.sl rfl (fun h=>absurd rfl h) nofun (fun _ h=>absurd h (Nat.not_lt_zero _))),(.sl rfl (fun h=>absurd rfl h) nofun (fun _ h=>absurd h (Nat.not_lt_zero _))),(.refl _),(.sl rfl (fun h=>absurd rfl h) nofun (fun _ h=>absurd h (Nat.not_lt_zero _))),trivial⟩) (fun _ h=>absurd h (Nat.not_lt_zero _)))),(.sl rfl (fun _=>rfl) nofun (gM iV 0 [(0:Int)])),.refl _,trivial⟩ trivial))<|by cases hm;exact re) fun c2 hm=>by
 refine ⟨.bool false,[],(fun q0=>absurd q0 (vac c2)),?_⟩
 (conv=>whnf)
 have hm:r=(((((v1.2==(0:Int))&&(v2.2.2==(0:Int)))&&(v2.2.1==(0:Int)))&&(v3.2==(0:Int)))&&false):=hm
 subst hm
 refine ⟨[],[],?_⟩
 (conv=>whnf)
 exact ⟨⟨rfl,trivial,trivial⟩,rfl⟩) fun c1 hm=>si hm (fun _ hm=>by
 refine ⟨.bool false,[],(fun q0=>absurd q0 (vac c1)),?_⟩
 (conv=>whnf)
 have hm:r=(((((v1.2==(0:Int))&&(v2.2.2==(0:Int)))&&(v2.2.1==(0:Int)))&&(v3.2==(0:Int)))&&false):=hm
 subst hm
 refine ⟨[],[],?_⟩
 (conv=>whnf)
 exact ⟨⟨rfl,trivial,trivial⟩,rfl⟩) fun _ hm=>by
 refine ⟨.bool false,[],(fun q0=>absurd q0 (vac c1)),?_⟩
 (conv=>whnf)
 have hm:r=(((((v1.2==(0:Int))&&(v2.2.2==(0:Int)))&&(v2.2.1==(0:Int)))&&(v3.2==(0:Int)))&&false):=hm
 subst hm
 refine ⟨[],[],?_⟩
 (conv=>whnf)
 exact ⟨⟨rfl,trivial,trivial⟩,rfl⟩
theorem ZX {l_:(List Int)} {r:((List Int)×Int)} (hm:OU l_ r):S 10 [aC l_] [] (.ptr 0 0 0) [.box [aC r.1,iV r.2]] :=sp Tryz.func10 rfl<|sn hm fun _ hm=>by cases hm;exact rt [] [(0,some 56)]
theorem ZY {x_:Int} {n_:Int} {r:Int} (hm:OV x_ n_ r):S 70 [iV x_,iV n_] [] (iV r) [] :=sp Tryz.func70 rfl<|si hm (fun _ hm=>by cases hm;exact re) fun _ hm=>s2 hm fun _ _ hm=>sn hm fun _ hm=>by cases hm;exact re
theorem bZ {n_:Int} {dH:dz} {r:(Int×dz)} (hm:eD n_ dH r):S 30 [.ptr 0 0 0,iV n_] [.box [aC dH.L,iV dH.At]] (iV r.1) [.box [aC r.2.L,iV r.2.At]] :=sp Tryz.func30 rfl<|si hm (fun _ hm=>by cases hm;exact re) fun _ hm=>s2 hm fun _ _ hm=>sn hm fun _ hm=>sq hm ZY fun v1 hm=>by cases hm;exact re
theorem gP {l_:(List Int)} {dH:dz} {r:(Int×dz)} (hm:gZ l_ dH r):S 56 [.ptr 0 0 0,aC l_] [.box [aC dH.L,iV dH.At]] (iV r.1) [.box [aC r.2.L,iV r.2.At]] :=sp Tryz.func56 rfl<|sq hm bZ fun v1 hm=>sn hm fun _ hm=>by cases hm;exact re
theorem LP {dH:dz} {r:((List aI)×dz)} (hm:rV dH r):S 79 [.ptr 0 0 0] [.box [aC dH.L,iV dH.At]] (aZ r.1) [.box [aC r.2.L,iV r.2.At]] :=spc [20,22] Tryz.func79 rfl<|sq hm bZ fun v1 hm=>R3 [20,22] hm (fun g1=>⟨[(0,.ptr 0 0 0),(3,.eH 1 0 g1.2.2.2.length false),(4,iV g1.1)],[(0,some (.box [aC g1.2.1,iV g1.2.2.1])),(1,some (.row 5 g1.2.2.2.length (bR Mv aJ g1.2.2.2)))],2⟩) [(1,none)] [] <|fun aj g1 hm=>si hm (fun _ hm=>sb hm fun v28 hv28 hm=>cl ((gP hv28).le ⟨.refl _,(.sl rfl (fun _=>rfl) nofun (gM iV 0 [(12:Int),(24:Int),(48:Int),(100:Int)])),trivial⟩ ⟨kS _,trivial⟩)<|ck [20,22] (eG g1 aj) r (fun g7=>⟨[(0,.ptr 0 0 0),(3,.eH 1 0 g1.2.2.2.length false),(4,iV g1.1),(5,.ptr 2 0 0)],[(0,some (.box [aC g7.1,iV g7.2.1])),(1,some (.row 5 g1.2.2.2.length (bR Mv aJ g1.2.2.2))),(2,some (.box [iV g7.2.2.1,.eH 3 0 g7.2.2.2.2.1.length false,.eH 4 0 g7.2.2.2.2.2.length false,iV (0:Int),iV g7.2.2.2.1])),(3,some (.row 1 g7.2.2.2.2.1.length (bR iV 0 g7.2.2.2.2.1))),(4,some (.row 1 g7.2.2.2.2.2.length (bR iV 0 g7.2.2.2.2.2)))],5⟩) (si hm (fun _ hm=>sq hm bZ fun v41 hm=>si hm (fun _ hm=>sq hm bZ fun v42 hm=>ck [20,22] (gK g1 aj) r (fun g8=>⟨[(0,.ptr 0 0 0),(3,.eH 1 0 g1.2.2.2.length false),(4,iV g1.1),(5,.ptr 2 0 0),(25,iV v41.1)],[(0,some (.box [aC g8.1,iV g8.2.1])),(1,some (.row 5 g1.2.2.2.length (bR Mv aJ g1.2.2.2))),(2,some (.box [iV g8.2.2.1,.eH 3 0 g8.2.2.2.1.length false,.eH 4 0 g8.2.2.2.2.length false,iV (0:Int),iV (0:Int)])),(3,some (.row 1 g8.2.2.2.1.length (bR iV 0 g8.2.2.2.1))),(4,some (.row 1 g8.2.2.2.2.length (bR iV 0 g8.2.2.2.2)))],5⟩) (sq hm bZ fun v49 hm=>si hm (fun _ hm=>sb hm fun v50 acw hm=>cl ((gP acw).le ⟨.refl _,(.sl rfl (fun _=>rfl) nofun (gM iV 0 [(3:Int),(4:Int),(8:Int)])),trivial⟩ ⟨kS _,trivial⟩)<|lc [(2,some 58),(3,some 178),(4,some 258)] [] hm) fun _ hm=>si hm (fun _ hm=>sb hm fun v51 aoy hm=>cl ((gP aoy).le ⟨.refl _,(.sl rfl (fun _=>rfl) nofun (gM iV 0 [(2:Int),(3:Int)])),trivial⟩ ⟨kS _,trivial⟩)<|lc [(2,some 58),(3,some 178),(4,some 274)] [] hm) fun _ hm=>si hm (fun _ hm=>lc [(2,some 58),(3,some 178),(4,some 266)] [] hm) fun _ hm=>si hm (fun _ hm=>sn hm fun _ hm=>sq hm bZ fun v52 hm=>sn hm fun _ hm=>lc [(2,some 58),(3,some 346),(4,some 354)] [] hm) fun _ hm=>lc [(2,some 58),(3,some 178),(4,some 282)] [] hm) fun g8 hm=>sq hm bZ fun v47 hm=>si hm (fun _ hm=>sb hm fun v48 Zq hm=>cl ((gP Zq).le ⟨.refl _,(.sl rfl (fun _=>rfl) nofun (gM iV 0 [(24:Int),(48:Int),(96:Int)])),trivial⟩ ⟨kS _,trivial⟩)<|le hm) fun _ hm=>le hm) fun _ hm=>lc [(2,some 58),(3,none),(4,some 42)] [] hm) fun c37 hm=>by
 refine ⟨(fun q0=>absurd q0 (vac c37)),?_⟩
 (conv=>whnf)
 refine aY hm fun h28 hm=>?_
 (conv=>whnf)
 exact ⟨(v28.2.L,v28.2.At,(1:Int),(0:Int),([]:List Int),([v28.1]:List Int)),[(2,some 58),(3,none),(4,some 42)],[],hm,⟨rfl,⟨r4,⟨rfl,rfl,rfl,rfl,nofun⟩,r2,r4,trivial⟩,⟨⟨sf,r2,trivial⟩,⟨rfl,rfl,(fun _ _=>.refl _)⟩,⟨r2,⟨rfl,rfl,rfl,rfl,rfl,rfl⟩,⟨rfl,rfl,rfl,rfl,nofun⟩,r2,r2,trivial⟩,rfl,⟨rfl,rfl,(gM iV 0 [v28.1])⟩,trivial⟩⟩⟩) fun g7 hm=>s2 hm fun _ _ hm=>lc [(1,some 29)] [] hm) fun _ hm=>by cases hm;exact rt [1] []
end Go.Proofs.YtccjmcmolnbiiaaGreatDoor

/- An abstract machine over the model's code, that it is sound; models of the functions and their proofs. -/
import Derived.Test.YtifekdmmpbcdgaaGreatDoorProg
import Derived.Test.YtifekdmmpbcdgaaGreatDoorA4
import Derived.RangeFuncBox
import Derived.RangeFuncLeaves
import Derived.Shelf.Abstract
import Derived.WalkKit
import Derived.OwnWalkIn
import Derived.TacticsInMore
import Derived.LoopNIn
import Derived.LoopIn
import Derived.Test.YtifekdmmpbcdgaaGreatDoorCards
import Derived.Test.YtifekdmmpbcdgaaGreatDoorTie
import Derived.ProofKit
import Derived.OpenShut
import Derived.Carry
import Derived.LaidMore
import Derived.Deep.DeepHandedRow
set_option linter.unusedVariables false
set_option linter.unusedSimpArgs false
set_option maxHeartbeats 4000000
namespace Go.Proofs.YtifekdmmpbcdgaaGreatDoor
open Go.Ab
def cfg:uT where
 ty:=[(3,⟨1,false,8,[(.int .i64)],(.int .i64)⟩),
 (4,⟨1,false,1,[.bool],.bool⟩),
 (5,⟨1,false,1,[(.int .u8)],(.int .u8)⟩),
 (9,⟨1,false,16,[.str],.str⟩),
 (22,⟨1,false,24,[.slice],(.slice 3)⟩),
 (24,⟨1,false,8,[.ptr],(.pointer 75)⟩),
 (26,⟨1,false,24,[.slice],(.slice 188)⟩),
 (27,⟨1,false,24,[.slice],(.slice 190)⟩),
 (28,⟨1,false,24,[.slice],(.slice 133)⟩),
 (29,⟨2,true,32,[(.int .i64),.slice],(.struct [(0,3),(1,28)])⟩),
 (30,⟨2,true,32,[(.int .i64),.slice],(.struct [(0,3),(1,28)])⟩),
 (31,⟨1,false,24,[.slice],(.slice 67)⟩),
 (32,⟨1,false,24,[.slice],(.slice 195)⟩),
 (33,⟨6,true,128,[.slice,.slice,(.int .i64),.slice,.slice,.slice],(.struct [(0,26),(1,27),(2,30),(4,31),(5,32)])⟩),
 (34,⟨6,true,128,[.slice,.slice,(.int .i64),.slice,.slice,.slice],(.struct [(0,26),(1,27),(2,30),(4,31),(5,32)])⟩),
 (35,⟨1,false,24,[.slice],(.slice 72)⟩),
 (36,⟨1,false,24,[.slice],(.slice 4)⟩),
 (37,⟨2,true,48,[.slice,.slice],(.struct [(0,36),(1,22)])⟩),
 (38,⟨2,true,48,[.slice,.slice],(.struct [(0,36),(1,22)])⟩),
 (39,⟨1,false,24,[.slice],(.slice 65)⟩),
 (40,⟨6,true,144,[.slice,.slice,.slice,.slice,.slice,.slice],(.struct [(0,22),(1,38),(3,39),(4,36),(5,36)])⟩),
 (41,⟨6,true,144,[.slice,.slice,.slice,.slice,.slice,.slice],(.struct [(0,22),(1,38),(3,39),(4,36),(5,36)])⟩),
 (44,⟨1,false,24,[.slice],(.slice 59)⟩),
 (45,⟨1,false,8,[(.int .i64)],(.int .i64)⟩),
 (58,⟨3,true,24,[(.int .i64),(.int .i64),(.int .i64)],(.struct [(0,3),(1,3),(2,3)])⟩),
 (59,⟨3,true,24,[(.int .i64),(.int .i64),(.int .i64)],(.struct [(0,3),(1,3),(2,3)])⟩),
 (62,⟨2,true,16,[(.int .i64),(.int .i64)],(.struct [(0,3),(1,3)])⟩),
 (63,⟨2,true,16,[(.int .i64),(.int .i64)],(.struct [(0,3),(1,3)])⟩),
 (64,⟨3,true,24,[(.int .i64),(.int .i64),(.int .i64)],(.struct [(0,3),(1,63)])⟩),
 (65,⟨3,true,24,[(.int .i64),(.int .i64),(.int .i64)],(.struct [(0,3),(1,63)])⟩),
 (66,⟨1,true,24,[.slice],(.struct [(0,22)])⟩),
 (67,⟨1,true,24,[.slice],(.struct [(0,22)])⟩),
 (68,⟨1,false,24,[.slice],(.slice 117)⟩),
 (69,⟨1,false,24,[.slice],(.slice 120)⟩),
 (70,⟨1,false,24,[.slice],(.slice 9)⟩),
 (71,⟨6,true,128,[.slice,.slice,.slice,.slice,(.int .i64),.slice],(.struct [(0,68),(1,69),(2,70),(3,22),(4,3),(5,22)])⟩),
 (72,⟨6,true,128,[.slice,.slice,.slice,.slice,(.int .i64),.slice],(.struct [(0,68),(1,69),(2,70),(3,22),(4,3),(5,22)])⟩),
 (74,⟨2,true,32,[.slice,(.int .i64)],(.struct [(0,22),(1,3)])⟩),
 (75,⟨2,true,32,[.slice,(.int .i64)],(.struct [(0,22),(1,3)])⟩),
 (86,⟨1,false,8,[.other],(.map 3 3)⟩),
 (89,⟨1,false,8,[.other],.other⟩),
 (90,⟨1,false,8,[.other],.other⟩),
 (91,⟨1,false,8,[.other],.other⟩),
 (97,⟨1,false,24,[.slice],(.slice 91)⟩),
 (116,⟨3,true,24,[(.int .i64),(.int .i64),(.int .i64)],(.struct [(0,3),(1,3),(2,3)])⟩),
 (117,⟨3,true,24,[(.int .i64),(.int .i64),(.int .i64)],(.struct [(0,3),(1,3),(2,3)])⟩),
 (119,⟨4,true,32,[(.int .i64),(.int .i64),(.int .i64),(.int .i64)],(.struct [(0,3),(1,3),(2,3),(3,3)])⟩),
 (120,⟨4,true,32,[(.int .i64),(.int .i64),(.int .i64),(.int .i64)],(.struct [(0,3),(1,3),(2,3),(3,3)])⟩),
 (132,⟨3,true,64,[.str,.slice,.slice],(.struct [(0,9),(1,22),(2,70)])⟩),
 (133,⟨3,true,64,[.str,.slice,.slice],(.struct [(0,9),(1,22),(2,70)])⟩),
 (140,⟨1,false,8,[.ptr],(.pointer 143)⟩),
 (142,⟨3,true,72,[.slice,.slice,.slice],(.struct [(0,38),(2,44)])⟩),
 (143,⟨3,true,72,[.slice,.slice,.slice],(.struct [(0,38),(2,44)])⟩),
 (147,⟨1,false,8,[.other],.other⟩),
 (148,⟨1,false,8,[.other],(.map 3 4)⟩),
 (149,⟨3,true,56,[.slice,.slice,.other],(.struct [(0,26),(1,68),(2,148)])⟩),
 (150,⟨3,true,56,[.slice,.slice,.other],(.struct [(0,26),(1,68),(2,148)])⟩),
 (156,⟨1,false,8,[.other],.other⟩),
 (158,⟨1,false,8,[.other],.other⟩),
 (161,⟨15,true,328,[.slice,.slice,(.int .i64),.slice,.slice,.slice,.slice,.slice,.slice,.slice,.slice,.slice,.slice,.slice,.bool],(.struct [(0,34),(6,35),(7,22),(8,41),(14,4)])⟩),
 (162,⟨15,true,328,[.slice,.slice,(.int .i64),.slice,.slice,.slice,.slice,.slice,.slice,.slice,.slice,.slice,.slice,.slice,.bool],(.struct [(0,34),(6,35),(7,22),(8,41),(14,4)])⟩),
 (165,⟨1,false,8,[.ptr],(.pointer 41)⟩),
 (172,⟨1,false,24,[.slice],(.slice 63)⟩),
 (177,⟨1,false,8,[.other],(.map 63 4)⟩),
 (179,⟨1,false,8,[.other],.other⟩),
 (187,⟨5,true,72,[(.int .i64),.slice,.slice,(.int .i64),(.int .i64)],(.struct [(0,3),(1,22),(2,22),(3,3),(4,3)])⟩),
 (188,⟨5,true,72,[(.int .i64),.slice,.slice,(.int .i64),(.int .i64)],(.struct [(0,3),(1,22),(2,22),(3,3),(4,3)])⟩),
 (189,⟨5,true,56,[(.int .i64),.slice,(.int .i64),(.int .i64),.bool],(.struct [(0,3),(1,22),(2,3),(3,3),(4,4)])⟩),
 (190,⟨5,true,56,[(.int .i64),.slice,(.int .i64),(.int .i64),.bool],(.struct [(0,3),(1,22),(2,3),(3,3),(4,4)])⟩),
 (191,⟨1,false,24,[.slice],(.slice 22)⟩),
 (192,⟨1,false,24,[.slice],(.slice 5)⟩),
 (194,⟨2,true,16,[(.int .i64),.bool],(.struct [(0,3),(1,4)])⟩),
 (195,⟨2,true,16,[(.int .i64),.bool],(.struct [(0,3),(1,4)])⟩),
 (210,⟨1,false,24,[.slice],(.slice 38)⟩),
 (212,⟨1,false,8,[.other],.other⟩),
 (215,⟨1,false,8,[.other],.other⟩),
 (224,⟨1,false,8,[.other],.other⟩),
 (226,⟨1,false,8,[.other],.other⟩),
 (227,⟨1,false,24,[.slice],(.slice 226)⟩),
 (235,⟨1,false,24,[.slice],(.slice 240)⟩),
 (239,⟨2,true,16,[(.int .i64),(.int .i64)],(.struct [(0,3),(1,3)])⟩),
 (240,⟨2,true,16,[(.int .i64),(.int .i64)],(.struct [(0,3),(1,3)])⟩),
 (256,⟨1,false,8,[.other],.other⟩),
 (264,⟨1,false,8,[.other],.other⟩),
 (267,⟨1,false,8,[.other],.other⟩),
 (271,⟨1,false,8,[.other],(.map 9 3)⟩),
 (280,⟨1,false,8,[.other],(.map 9 4)⟩),
 (287,⟨64,true,512,[(.int .i64),(.int .i64),(.int .i64),(.int .i64),(.int .i64),(.int .i64),(.int .i64),(.int .i64),(.int .i64),(.int .i64),(.int .i64),(.int .i64),(.int .i64),(.int .i64),(.int .i64),(.int .i64),(.int .i64),(.int .i64),(.int .i64),(.int .i64),(.int .i64),(.int .i64),(.int .i64),(.int .i64),(.int .i64),(.int .i64),(.int .i64),(.int .i64),(.int .i64),(.int .i64),(.int .i64),(.int .i64),(.int .i64),(.int .i64),(.int .i64),(.int .i64),(.int .i64),(.int .i64),(.int .i64),(.int .i64),(.int .i64),(.int .i64),(.int .i64),(.int .i64),(.int .i64),(.int .i64),(.int .i64),(.int .i64),(.int .i64),(.int .i64),(.int .i64),(.int .i64),(.int .i64),(.int .i64),(.int .i64),(.int .i64),(.int .i64),(.int .i64),(.int .i64),(.int .i64),(.int .i64),(.int .i64),(.int .i64),(.int .i64)],(.array 64 3)⟩),
 (288,⟨64,true,512,[(.int .i64),(.int .i64),(.int .i64),(.int .i64),(.int .i64),(.int .i64),(.int .i64),(.int .i64),(.int .i64),(.int .i64),(.int .i64),(.int .i64),(.int .i64),(.int .i64),(.int .i64),(.int .i64),(.int .i64),(.int .i64),(.int .i64),(.int .i64),(.int .i64),(.int .i64),(.int .i64),(.int .i64),(.int .i64),(.int .i64),(.int .i64),(.int .i64),(.int .i64),(.int .i64),(.int .i64),(.int .i64),(.int .i64),(.int .i64),(.int .i64),(.int .i64),(.int .i64),(.int .i64),(.int .i64),(.int .i64),(.int .i64),(.int .i64),(.int .i64),(.int .i64),(.int .i64),(.int .i64),(.int .i64),(.int .i64),(.int .i64),(.int .i64),(.int .i64),(.int .i64),(.int .i64),(.int .i64),(.int .i64),(.int .i64),(.int .i64),(.int .i64),(.int .i64),(.int .i64),(.int .i64),(.int .i64),(.int .i64),(.int .i64)],(.array 64 3)⟩),
 (297,⟨1,false,8,[.other],.other⟩)]
 eqs:=[(59,[(.int .i64),(.int .i64),(.int .i64)]),(63,[(.int .i64),(.int .i64)]),(65,[(.int .i64),(.int .i64),(.int .i64)])]
 fns:=[(8,⟨[],true⟩),(9,⟨[0],true⟩),(10,⟨[],true⟩),(12,⟨[],true⟩),(13,⟨[2],true⟩),(14,⟨[],true⟩),(15,⟨[2],true⟩),(17,⟨[4],true⟩),(18,⟨[],true⟩),(21,⟨[0],true⟩),(22,⟨[0],true⟩),(23,⟨[],true⟩),(24,⟨[2],true⟩),(25,⟨[0],false⟩),(26,⟨[],true⟩),(27,⟨[],true⟩),(30,⟨[],true⟩),(31,⟨[],true⟩),(32,⟨[0],false⟩),(33,⟨[0,1],true⟩),(34,⟨[0],true⟩),(35,⟨[0,1,2],true⟩),(36,⟨[],true⟩),(37,⟨[],true⟩),(38,⟨[],true⟩),(39,⟨[],true⟩),(40,⟨[1,2],true⟩),(41,⟨[],true⟩),(42,⟨[],true⟩),(43,⟨[],true⟩),(44,⟨[0,1,2],true⟩),(45,⟨[0],true⟩),(46,⟨[],true⟩),(50,⟨[2],true⟩),(58,⟨[],true⟩),(59,⟨[1],true⟩),(60,⟨[],true⟩),(61,⟨[1],true⟩),(62,⟨[],true⟩),(63,⟨[],true⟩),(68,⟨[0],true⟩),(69,⟨[0],true⟩),(70,⟨[0],true⟩),(71,⟨[0],true⟩),(72,⟨[0],true⟩),(73,⟨[0],false⟩),(74,⟨[0],false⟩),(75,⟨[0],false⟩),(76,⟨[0],true⟩),(77,⟨[0],true⟩),(78,⟨[2],true⟩),(80,⟨[1],true⟩),(81,⟨[],true⟩),(82,⟨[],true⟩),(92,⟨[],true⟩),(93,⟨[],true⟩),(94,⟨[0],false⟩),(95,⟨[0],false⟩),(96,⟨[],true⟩),(97,⟨[],true⟩),(98,⟨[1,2],true⟩),(99,⟨[0],true⟩),(101,⟨[0,2],false⟩),(102,⟨[2,3,4,5],false⟩),(103,⟨[],true⟩),(104,⟨[],true⟩),(108,⟨[],true⟩),(110,⟨[0],false⟩),(117,⟨[],true⟩),(118,⟨[],true⟩),(122,⟨[],true⟩),(129,⟨[],true⟩),(130,⟨[],true⟩),(132,⟨[],true⟩),(135,⟨[],true⟩),(137,⟨[0],false⟩),(138,⟨[],true⟩),(139,⟨[0],false⟩),(141,⟨[],true⟩),(142,⟨[],true⟩),(143,⟨[],true⟩),(144,⟨[],true⟩),(146,⟨[],true⟩),(159,⟨[],true⟩),(160,⟨[],true⟩),(162,⟨[],true⟩),(163,⟨[0],true⟩),(167,⟨[1],false⟩),(168,⟨[2,3],false⟩),(169,⟨[0],true⟩),(170,⟨[0],false⟩),(172,⟨[],true⟩),(173,⟨[],true⟩),(182,⟨[0],false⟩),(183,⟨[0],false⟩),(186,⟨[0],true⟩),(193,⟨[],true⟩),(201,⟨[],true⟩),(203,⟨[],true⟩),(205,⟨[],true⟩),(211,⟨[],true⟩),(221,⟨[],true⟩),(229,⟨[1],true⟩),(232,⟨[1],false⟩),(233,⟨[],true⟩),(240,⟨[],true⟩),(246,⟨[],true⟩),(248,⟨[],true⟩),(257,⟨[1],true⟩),(286,⟨[0],false⟩),(287,⟨[0],false⟩),(288,⟨[0],false⟩),(289,⟨[0],false⟩),(290,⟨[0],false⟩),(293,⟨[0],false⟩)]
 glob:=[(0,[iV (0:Int),iV (1:Int)])]
theorem eX:gL Tryz.prog cfg:=aiP (by kernel_rfl) (by kernel_rfl) (by kernel_rfl)
abbrev S:=Ab.Spec Tryz.prog cfg
open Go.Ab Go.RowKit Go.Shelf
attribute [local go_sem] Oper.semAt_some
set_option maxRecDepth 100000 in
set_option maxHeartbeats 2000000 in
theorem aml (F:Fence) (n:Nat) (h7:F.fn 252) (hro:F.round=none) (hn:1≤n) (l B O b off len cap:Nat) (hlen:len≤1000000) (Keep:World→Prop)
  (c0 c1 c2 c3 c4:Nat→Value) (v1:Nat→Value) (hv:∀i,v1 i=.agg #[c0 i,c1 i,c2 i,c3 i,c4 i])
  (hB:∀w,Keep w→w.cell? ⟨B,O,none⟩=some (.slice (some ⟨b,off,none⟩) len cap))
  (h0:∀w i,Keep w→i<len→w.cell? ⟨b,off+i*5,none⟩=some (c0 i)) (h1:∀w i,Keep w→i<len→w.cell? ⟨b,off+i*5+1,none⟩=some (c1 i)) (h2:∀w i,Keep w→i<len→w.cell? ⟨b,off+i*5+2,none⟩=some (c2 i))
  (h3:∀w i,Keep w→i<len→w.cell? ⟨b,off+i*5+3,none⟩=some (c3 i)) (h4:∀w i,Keep w→i<len→w.cell? ⟨b,off+i*5+4,none⟩=some (c4 i))
  (J:Nat→World→Prop) (Jx:World→Prop)
  (hY:∀k W,k<len→J k W→YieldAt F (n - 1) Tryz.prog l #[.int .i64 ((len - 1 - k:Nat):Int),v1 (len - 1 - k)] W λ e W'=>
    (e=.returned (.bool true)∧J (k+1) W'∧Keep W')∨(e=.returned (.bool false)∧Jx W'))
  (W:World) (hW:Keep W) (hJ:J 0 W):
  CallsIn F n Tryz.prog 252 #[.func (.yield l) #[] #[],.pointer (some ⟨B,O,none⟩)] W λ e W'=>(∃v,e=.returned v)∧(J len W'∨Jx W'):=by
 refine callsIn_of_wp Tryz.func252 rfl h7 ?_ hro;simp only [Tryz.ntmps252,List.size_toArray,List.length_cons,List.length_nil,Nat.reduceAdd,Nat.reduceSub,Array.replicate_succ,Array.replicate_zero,List.push_toArray,List.append_toArray,List.nil_append,List.cons_append];have hB0:=hB W hW;gi_wp2;gi_loopw [3] (λ i wr=>∃k:Nat,k≤len∧i=.int .i64 ((len:Int) - 1 - k)∧J k wr∧Keep wr)
  (λ i _=>(intOf i+1).toNat)
 case atStart=>exact ⟨0,Nat.zero_le _,by simp,hJ,hW⟩
 case round=>
  obtain ⟨k,hk,rfl,hJs,hkp⟩:=hrel
  by_cases hlt:k<len
  ·obtain ⟨fn,tmps,assign,body,hy,hR⟩:=hY k wr hlt hJs
   have hBr:=hB wr hkp
   obtain ⟨i,hi⟩:∃i:Nat,i=len - 1 - k:=⟨_,rfl⟩
   rw [← hi] at hy
   have hil:i<len:=by omega
   have hii:((len:Int) - 1 - k)=(i:Int):=by omega
   rw [hii]
   have e0:=h0 wr i hkp hil
   have e1:=h1 wr i hkp hil
   have e2:=h2 wr i hkp hil
   have e3:=h3 wr i hkp hil
   have e4:=h4 wr i hkp hil
   rw [hv] at hy
   have A:Aside (i+k+1=len):=by show i+k+1=len; omega
   have hi0:¬ ((i:Int)<0):=by omega
   have hi1:0≤(i:Int):=by omega
   clear hi hii hlt hk
   gi_wp2
   refine hR.mono ?_
   rintro e W3 (⟨rfl,hJ3,hk3⟩ | ⟨rfl,hJx3⟩)
   ·have A':=A.out
    gi_wp2
    go_roundw
    case rel=>exact ⟨k+1,by omega,by have:=A'; simp; omega,hJ3,hk3⟩
    case measure=>simp [intOf]
   ·gi_wp2
    refine bodyPost_ret (results_none rfl _ _ _) rfl ?_
    exact ⟨⟨_,rfl⟩,.inr hJx3⟩
  ·obtain rfl:k=len:=by omega
   have hneg:((k:Int) - 1 - k) = -1:=by omega
   rw [hneg]
   gi_wp2
   go_end0
   exact ⟨⟨_,rfl⟩,.inl hJs⟩
set_option maxRecDepth 100000 in
set_option maxHeartbeats 2000000 in
theorem adz (F:Fence) (n:Nat) (h7:F.fn 252) (hro:F.round=none) (l B O cap:Nat) (a:Option Addr) (J:World→Prop) (W:World) (hB:W.cell? ⟨B,O,none⟩=some (.slice a 0 cap)) (hJ:J W):
  CallsIn F n Tryz.prog 252 #[.func (.yield l) #[] #[],.pointer (some ⟨B,O,none⟩)] W λ e W'=>(∃v,e=.returned v)∧J W':=by
 refine callsIn_of_wp Tryz.func252 rfl h7 ?_ hro;simp only [Tryz.ntmps252,List.size_toArray,List.length_cons,List.length_nil,Nat.reduceAdd,Nat.reduceSub,Array.replicate_succ,Array.replicate_zero,List.push_toArray,List.append_toArray,List.nil_append,List.cons_append];gi_wp2;gi_loopw [3] (λ i wr=>i=.int .i64 (-1)∧J wr) (λ _ _=>0);case atStart=>exact ⟨by simp,hJ⟩
 case round=>
  obtain ⟨rfl,hJs⟩:=hrel
  gi_wp2
  go_end0
  exact ⟨⟨_,rfl⟩,hJs⟩
variable {f:FuncId}
theorem Oy {n n':Nat} {P:Program} {args:Array Value} {w:World} {R:Ending→World→Prop} (h:CallsIn (FW none) n P f args w R):CallsIn (FW none) n' P f args w R:=
 ⟨h.1,λ cs _=>h.2 cs (λ _ hd=>by cases hd)⟩
theorem ZP (l:List aC) (hl:l.length≤1000000):Wz Tryz.prog 252 [.ro [aT l]] l.length (λ k=>iV ((l.length - 1 - k:Nat):Int)) (λ k=>MC (l.getD (l.length - 1 - k) aH)):=by
 refine ⟨enters_of Tryz.func252 (by kernel_rfl) rfl,λ w I lb hI hlb hp=>?_⟩;have h0:=hp 0 (by simp);have aqU:lb=#[lb.getD 0 Go.undef]:=by
  have:lb.size=1:=hlb;apply Array.ext
  ·simp [this]
  ·intro i h1 h2;have:i=0:=by omega
   subst this;simp [h1]
 rw [aqU];generalize lb.getD 0 Go.undef=x at h0;clear aqU hp hlb;cases h0 with
 | ro B O vs hIB hm hr=>
  have hs:=hr 0 (by simp);have hm0:=hm 0 (by simp);have hs:ig w I (aT l) (vs 0):=hs;generalize vs 0=sv at hs hm0;cases hs with
  | @sl _ _ _ _ a cap b off cs hcap _ ha hes hcm h1 hcr=>
   by_cases hz:l.length=0
   ·refine ⟨λ _=>.bool true,λ _=>.bool true,λ k hk=>absurd hk om,λ y n J Jx W hW hY hJ=>?_⟩;have hBc:W.cell? ⟨B,O,none⟩=some (.slice a 0 cap):=by
     rw [cell?_of_heap (w:=w) (hW B hIB),← hz];exact hm0
    rw [hz];exact (adz (FW none) n trivial rfl y B O cap a (λ W=>J 0 W) W hBc hJ).mono λ e W' ⟨h1,h2⟩=>⟨h1,.inl h2⟩
   ·obtain ⟨ha1,RF⟩:=ha hz;subst ha1;refine ⟨λ k=>.int .i64 ((l.length - 1 - k:Nat):Int),λ k=>.agg #[cs (l.length - 1 - k) 0,cs (l.length - 1 - k) 1,cs (l.length - 1 - k) 2,cs (l.length - 1 - k) 3,cs (l.length - 1 - k) 4],λ k hk=>⟨.int _ _,?_⟩,λ y n J Jx W hW hY hJ=>?_⟩
    ·refine .agg rfl λ j hj=>?_;have hj:j<5:=hj;have:=hcr (l.length - 1 - k) j om hj;have e:nth (MC (l.getD (l.length - 1 - k) aH)).cells j=nth [iV (l.getD (l.length - 1 - k) aH).bG,aiQ (l.getD (l.length - 1 - k) aH).dV,iV (l.getD (l.length - 1 - k) aH).iZ,iV (l.getD (l.length - 1 - k) aH).jk,.bool (l.getD (l.length - 1 - k) aH).gY] j:=rfl;rcases (by omega:j=0∨j=1∨j=2∨j=3∨j=4) with rfl | rfl | rfl | rfl | rfl<;>exact this
    ·have key:∀W':World,(∀b,I b→W'.heap[b]? = w.heap[b]?)→∀i j,i<l.length→j<5→W'.cell? ⟨b,off+(i*5+j),none⟩=some (cs i j):=λ W' hW' i j hi hj=>by
      rw [cell?_of_heap (w:=w) (hW' b RF)];exact hcm i j hi hj
     refine Oy (aml (FW none) (n+1) trivial rfl om y B O b off l.length cap hl (λ W':World=>∀b,I b→W'.heap[b]? = w.heap[b]?) (λ i=>cs i 0) (λ i=>cs i 1) (λ i=>cs i 2) (λ i=>cs i 3) (λ i=>cs i 4) (λ i=>.agg #[cs i 0,cs i 1,cs i 2,cs i 3,cs i 4]) (λ _=>rfl)
      (λ W' hW'=>by rw [cell?_of_heap (w:=w) (hW' B hIB)]; exact hm0) (λ W' i h hi=>key W' h i 0 hi om) (λ W' i h hi=>key W' h i 1 hi om) (λ W' i h hi=>key W' h i 2 hi om) (λ W' i h hi=>key W' h i 3 hi om) (λ W' i h hi=>key W' h i 4 hi om)
      (λ k W1=>J k W1∧∀b,I b→W1.heap[b]? = w.heap[b]?) Jx ?_ W hW ⟨hJ,hW⟩ |>.mono ?_)
     ·rintro k W1 hk ⟨hJ1,hW1⟩;obtain ⟨fn,tmps,assign,body,hy,hR⟩:=hY k W1 hk hJ1;refine ⟨fn,tmps,assign,body,hy,hR.mono ?_⟩;rintro e W' (⟨rfl,h2,h3⟩ | ⟨rfl,h2⟩)
      ·have hW':∀b,I b→W'.heap[b]? = w.heap[b]? := λ b hb=>(h3 b hb).trans (hW1 b hb);exact .inl ⟨rfl,⟨h2,hW'⟩,hW'⟩
      ·exact .inr ⟨rfl,h2⟩
     ·rintro e W' ⟨h1,⟨h2,_⟩ | h2⟩
      ·exact ⟨h1,.inl h2⟩
      ·exact ⟨h1,.inr h2⟩
theorem YW (l:List aC):S 221 [aT l] [] (.fn 252 [.ro [aT l]]) []:=by
 refine agN (ct:=[]) eX Tryz.func221 rfl rfl (Nat.le_of_ble_eq_true rfl) (by decide +kernel) (Nat.zero_le _) ?_;conv=>whnf
 exact ⟨⟨rfl,Pk.refl _,trivial⟩,trivial⟩
open Go.ChangeShapes Go.WideShapes Go.ChangeAt Go.RowKit
set_option maxRecDepth 100000
theorem own:ownKnob Tryz.prog.godebug=none:=by kernel_rfl
theorem laidOut:laidOutB Tryz.prog=true:=by kernel_rfl
theorem auT:Tryz.prog.globalNamed "bringup/clock.off" = some 0:=by kernel_rfl
theorem auU:(Tryz.prog.globals[0]?).map (·.type)=some 240:=by kernel_rfl
theorem amm:Tryz.prog.cellsOf 240=2:=by kernel_rfl
theorem cells3:Tryz.prog.cellsOf 3=1:=by kernel_rfl
abbrev akF:List (String×DataW Unit):=[("bringup/clock.off", Rows.laid_bringup_clock_off)]
variable {W:World}
theorem amn (h:laidMetH Tryz.prog akF W):W.cell? ⟨0,0,none⟩=some (.int .i64 0)∧W.cell? ⟨0,1,none⟩=some (.int .i64 1):=by
 rw [MakeChecks.laidMetH_plain _ _ _ (by kernel_rfl)] at h;obtain ⟨ps,⟨g0,t0,cs0,f0,p0,q0,hg0,ht0,hv0,hd0,_⟩,_,_⟩:=h;obtain rfl:=Option.some.inj (auT.symm.trans hg0);obtain rfl:=Option.some.inj (auU.symm.trans ht0);obtain ⟨y0,y1,n,hx,hl,h0,h1⟩:=trod_struct2 Tryz.underlying240 hd0;rw [amm] at hl;simp only [Prod.mk.injEq,Rows.laid_bringup_clock_off,DataW.agg.injEq,List.cons.injEq] at hx;obtain ⟨k0,e1,e2,_⟩:=DataW.trod_int Tryz.underlying3 h0;obtain ⟨k1,e3,e4,_⟩:=DataW.trod_int Tryz.underlying3 h1;have hk0:k0=0:=by have:=hx.1.1; rw [e2] at this; simpa using this.symm
 have hk1:k1=1:=by have:=hx.1.2.1; rw [e4] at this; simpa using this.symm
 subst hk0; subst hk1;have c0:=World.var?_cell hg0 hv0 0;have c1:=World.var?_cell hg0 hv0 1;obtain ⟨l⟩:=cs0;match l,hl with
 | [a,b],_=>
  rw [cells3] at e1 e3
  simp at e1 e3
  subst e1; subst e3
  exact ⟨by simpa using c0,by simpa using c1⟩
def Old (W:World):Nat→Prop:=λ b=>b<W.heap.size
theorem auV (h:laidMetH Tryz.prog akF W):Rel cfg (Jz W (Old W) (λ _=>none) 0) (hof []) (λ o=>o<0) W (Old W) (λ _=>none):=by
 obtain ⟨h0,h1⟩:=amn h;exact {
  dom:=λ o=>by simp [hof]
  used:=λ o p h=>by cases h
  objs:=λ o ob p _ h=>by cases h
  inj:=λ o o' p p' b bo sz b' ni sz' h=>by cases h
  nL:=λ o p b bo sz h=>by cases h
  lt:=λ o p b bo sz h=>by cases h
  yT:=λ b h=>h
  size:=Nat.le_refl _
  frame:=λ _ _ _=>rfl
  new:=λ o p b bo sz h=>by cases h
  glob:=λ g cs hg=>by
   have e:g=0∧cs=[.int .i64 0,.int .i64 1]:=by
    unfold cfg at hg
    simp only [Ab.look] at hg
    cases hb:Nat.beq 0 g with
    | true=>
     rw [hb] at hg
     have:=Nat.eq_of_beq_eq_true hb
     simp at hg
     exact ⟨this.symm,hg.symm⟩
    | false=>rw [hb] at hg; cases hg
   obtain ⟨rfl,rfl⟩:=e
   refine .ro 0 0 (λ j=>match j with | 0=>.int .i64 0 | _=>.int .i64 1) (World.block_lt_of_cell? _ _ h0) (λ j hj=>?_) (λ j hj=>?_)
   ·match j,hj with
    | 0,_=>exact h0
    | 1,_=>exact h1
   ·match j,hj with
    | 0,_=>exact .int _ _
    | 1,_=>exact .int _ _
  O9:=λ _ h=>h
  Rw:=λ _ h=>.inl h
  Vt:=λ _ _=>.inl rfl
  Dm:=λ _ h=>h
  env:=⟨iC.refl _,λ _ _ h=>h.elim⟩ }
variable {args:List AV}
theorem amo {vals:Array Value} (hs:S f args [] (.bool true) []) (hL:laidMetH Tryz.prog akF W) (hl:vals.size=args.length) (hr:∀j,j<args.length→ig W (Old W) (nth args j) (vals.getD j Go.undef)):
  Calls Tryz.prog f vals W λ e W'=>e=.returned (.bool true)∧Below W.heap.size W W':=by
 obtain ⟨_,_,hc⟩:=hs;refine (hc W (Old W) (λ _=>none) vals (auV hL) hl (λ j hj=>.pure (hr j hj))).mono λ e W' h=>?_;obtain ⟨x,I',O',rfl,hR,hx⟩:=h;have hb:x=.bool true:=hx.kL;subst hb;refine ⟨rfl,⟨hR.env.same.os,hR.env.same.tape,hR.env.same.output,hR.size,λ k hk=>hR.frame k hk ?_⟩⟩;rintro ⟨o,p,bo,sz,h,_⟩;cases h
theorem ae7 {H:Type} {enc:TypeId×Value→H} {v:Value} {d:DataW H} {ps:List MemPlace} {base:Nat} (hv:Value.okWide Tryz.prog W .any base 22 v) (h:DataW.Trod enc Tryz.prog W 0 (λ _=>true) true 22 v d ps):∃l:List Int,I64 l∧ig W (Old W) (ak l) v:=by
 obtain ⟨a0,len,cap,rfl⟩:=okWide_slice Tryz.underlying22 hv;obtain ⟨fuel,hf⟩:=h;rcases open_ints Tryz.underlying22 Tryz.underlying3 cells3 hf with ⟨hcs,hx⟩ | ⟨a,len',cap',zs,hcs,_,hl,hm,hz,hx,hcell,hwz⟩
 ·simp [Value.cells] at hcs;obtain ⟨rfl,rfl,rfl⟩:=hcs;refine ⟨[],(λ x hx=>by cases hx),?_⟩;exact .sl 0 0 (λ _ _=>Go.undef) (Nat.le_refl _) nofun (λ h=>absurd rfl h) (λ i hi=>by cases hi) (λ i j hi=>by cases hi) (λ i j hi=>by cases hi) (λ i j hi=>by cases hi)
 ·simp [Value.cells] at hcs;obtain ⟨rfl,rfl,rfl⟩:=hcs;simp only [if_true] at hz;refine ⟨zs.take len,λ x hx=>?_,?_⟩
  ·have:=hwz x (List.mem_of_mem_take hx);simp only [Lit.wf,Bool.and_eq_true,decide_eq_true_eq] at this;exact this
  ·have hlen:(zs.take len).length=len:=by simp; omega
   unfold ak aiQ;rw [hlen];refine .sl a.block a.off (λ i _=>.int .i64 (zs.getD i 0)) hl nofun (λ hn=>?_) (λ i hi=>rfl) (λ i j hi hj=>?_) (λ i j hi hj=>rfl) (λ i j hi hj=>?_)
   ·have h0:=hcell 0 om;have hsp:=World.cell?_spot h0;have e:a.add 0=a:=by simp [Addr.add]
    rw [e] at hsp h0;refine ⟨by cases a; simp at hsp; subst hsp; rfl,World.block_lt_of_cell? _ _ h0⟩
   ·have hj0:j=0:=by omega
    subst hj0;have h0:=hcell 0 om;have hsp:=World.cell?_spot h0;have e:a.add 0=a:=by simp [Addr.add]
    rw [e] at hsp;have hi':=hcell i om;have e2:a.add i=⟨a.block,a.off+(i*1+0),none⟩:=by
     obtain ⟨b,off,sp⟩:=a;simp at hsp;subst hsp;rw [Addr.add_mid];simp
    rw [e2] at hi';exact hi'
   ·have hj0:j=0:=by omega
    subst hj0;have e:nth (bA iV 0 (zs.take len) i).cells 0=iV (zs.getD i 0):=by
     show iV ((zs.take len).getD i 0)=_;rw [getD_take zs 0 hi]
    rw [e];exact .int _ _
variable {p:Prop}
theorem z (h:p:=by
 repeat' first
  | with_reducible exact trivial
  | with_reducible exact rfl
  | with_reducible refine And.intro ?_ ?_
  | ((conv=>whnf); first
   | with_reducible refine And.intro ?_ ?_
   | with_reducible refine Emb.mk ?_ ?_ ?_
   | with_reducible exact trivial)
  | exact rfl
  | exact λ _ _=>Le.refl _
  | exact λ _=>rfl
  | exact id
  | exact λ h=>Bool.noConfusion h
  | exact Le.refl _
  | exact Pk.refl _
  | exact λ h=>absurd rfl h
  | exact λ _ h=>absurd h (Nat.not_lt_zero _)
  | exact WA (.refl _) rfl (Nat.lt_of_sub_pos (by exact Nat.zero_lt_succ _))
  | omega
  | (simp [gZ]; done)
  | (simp [gZ]; omega)
  | (simp [gZ,Pp]; done)
  | (simp [gZ,Pp]; omega)
  | refine Vz ?_ ?_ ?_
  | refine iP ?_ ?_ ?_ ?_
  | exact als (λ _ _=>Le.refl _) (Le.refl _)
  | exact Zg (λ _=>rfl)
  | exact iG om
  | exact fT _ _ _
  | exact PK _ _
  | refine ES ?_ ?_
  | refine Le.u6 ?_
  | refine Le.sl ?_ ?_ ?_ ?_):p:=h
theorem dk (h:p:=by decide +kernel):p:=h
theorem oz (h:p:=by first | omega | (simp [gZ]; done) | (simp [gZ]; omega)):p:=h
theorem sr {n es:Nat} {f:Bool} {g:Nat→AV}:n=n∧(n≠0→es=es)∧(f=true→f=true)∧∀i,i<n→Le (g i) (g i):=⟨rfl,λ _=>rfl,id,λ _ _=>.refl _⟩
theorem sf {n es:Nat} {f:Bool} {g:Nat→AV}:n=n∧(n≠0→es=es)∧(false=true→f=true)∧∀i,i<n→Le (g i) (g i):=⟨rfl,λ _=>rfl,nofun,λ _ _=>.refl _⟩
variable {A:Type} {B:Type}
theorem r4 {C D:Type} {a:A} {b:B} {c:C} {d:D}:a=a∧b=b∧c=c∧d=d:=⟨rfl,rfl,rfl,rfl⟩
theorem r2 {a:A} {b:B}:a=a∧b=b:=⟨rfl,rfl⟩
theorem sn {R:Type} {d:Decidable p} {m:M R} {r:R} {K:Prop} (hm:need p m r) (h:p→m r→K):p∧K:=⟨hm.1,h hm.1 hm.2⟩
theorem sq {A R B C : Type} {m : M A} {k : A → M R} {r : R} {p K : B → C → Prop} {a : A → B} {b : A → C} (hm : bnd m k r) (F : ∀ {v}, m v → p (a v) (b v)) (h : ∀ v, k v r → K (a v) (b v)) : ∃ a b, p a b ∧ K a b := bF hm λ v hv hm => ⟨a v, b v, F hv, h v hm⟩
theorem s2 {R:Type} {q:Prop} {d:Decidable p} {d2:Decidable q} {m:M R} {r:R} {K:Prop} (hm:need p (need q m) r) (h:p→q→m r→K):p∧q∧K:=⟨hm.1,hm.2.1,h hm.1 hm.2.1 hm.2.2⟩
theorem si {R:Type} {c:Bool} {x y:M R} {r:R} {A B:Prop} (hm:(cond c x y) r) (h1:c=true→x r→A) (h2:c=false→y r→B):VP c A B:=jq hm h1 h2
theorem sb {R:Type} {m:M A} {k:A→M R} {r:R} {G:Prop} (hm:bnd m k r) (h:∀v,m v→k v r→G):G:=bF hm h
theorem cl {p K:A→B→Prop} {a:A} {b:B} (h:p a b) (k:K a b):∃a b,p a b∧K a b:=⟨a,b,h,k⟩
theorem re {P:List A→List B→Prop} (h:P [] []:=by exact z):∃a b,P a b:=⟨_,_,h⟩
theorem rt {P:A→B→Prop} (a:A) (b:B) (h:P a b:=by exact z):∃a b,P a b:=⟨_,_,h⟩
theorem lc {C:Type} {p:A→Prop} {E:A→B→C→Prop} {a:A} (b:B) (c:C) (hm:p a) (h:E a b c:=by exact z):∃a b c,p a∧E a b c:=⟨a,b,c,hm,h⟩
theorem le {C:Type} {p:A→Prop} {E:A→List B→List C→Prop} {a:A} (hm:p a) (h:E a [] []:=by exact z):∃a b c,p a∧E a b c:=⟨a,_,_,hm,h⟩
theorem ZQ (ct:List Nat) {fn:Func} {c:Code} {args:List AV} {obs:List dP} {r:AV} {fE:List dP} (hf:Tryz.prog.funcs[f]? = some fn) (hb:fn.body=some c)
  (h:jX cfg (Ab.Spec Tryz.prog cfg) ct (Loops Tryz.prog cfg fn.ntmps none obs.length) c ⟨Ib args 0,Gs.nK obs 0,obs.length⟩ (aiM cfg fn.results.toList obs.length r fE))
  (hnm:(fn.name == "runtime.NumGoroutine")=false:=by exact rfl)
  (hN:args.length≤fn.ntmps:=by exact Nat.le_of_ble_eq_true rfl) (hok:iQ fn.ntmps c=true:=by decide +kernel) (hle:obs.length≤fE.length:=by exact Nat.le_of_ble_eq_true rfl):S f args obs r fE:=
 tC eX hf hb hnm hN hok hle h
theorem sp {fn:Func} {c:Code} {args:List AV} {obs:List dP} {r:AV} {fE:List dP} (hf:Tryz.prog.funcs[f]? = some fn) (hb:fn.body=some c)
  (h:jX cfg (Ab.Spec Tryz.prog cfg) [] (Loops Tryz.prog cfg fn.ntmps none obs.length) c ⟨Ib args 0,Gs.nK obs 0,obs.length⟩ (aiM cfg fn.results.toList obs.length r fE))
  (hnm:(fn.name == "runtime.NumGoroutine")=false:=by exact rfl)
  (hN:args.length≤fn.ntmps:=by exact Nat.le_of_ble_eq_true rfl) (hok:iQ fn.ntmps c=true:=by decide +kernel) (hle:obs.length≤fE.length:=by exact Nat.le_of_ble_eq_true rfl):S f args obs r fE:=
 tC eX hf hb hnm hN hok hle h
section
variable {N:Nat} {rr:Option Nat} {m:Nat}
variable {c:Code} {s:St} {K:Exit→St→Prop} {σ R:Type} {F:(σ→M R)→σ→M R} {x0:σ} {r:R}
theorem U5 (ct:List Nat) (hm:bY F x0 r) (st:σ→St) (ρ0:List (Nat×Option Nat)) (os0:List Nat)
  (round:∀(self:σ→M R) (x:σ),F self x r→jX cfg (Ab.Spec Tryz.prog cfg) ct (Loops Tryz.prog cfg N rr m) c (st x) (λ e s'=>match e with | .normal=>∃x' ρ os,self x' r∧MP m ρ os s' (st x') | e=>K e s'))
  (hE:MP m ρ0 os0 s (st x0):=by exact z) (hok:iQ N c=true:=by decide +kernel):Loops Tryz.prog cfg N rr m (.loop c) s K:=eD eX hok hm st ρ0 os0 hE round
theorem lf (hm:bY F x0 r) (st:σ→St) (ρ0:List (Nat×Option Nat)) (os0:List Nat)
  (round:∀(self:σ→M R) (x:σ),F self x r→jX cfg (Ab.Spec Tryz.prog cfg) [] (Loops Tryz.prog cfg N rr m) c (st x) (λ e s'=>match e with | .normal=>∃x' ρ os,self x' r∧MP m ρ os s' (st x') | e=>K e s'))
  (hE:MP m ρ0 os0 s (st x0):=by exact z) (hok:iQ N c=true:=by decide +kernel):Loops Tryz.prog cfg N rr m (.loop c) s K:=eD eX hok hm st ρ0 os0 hE round
theorem l0 (hm:bY F x0 r) (st:σ→St)
  (round:∀(self:σ→M R) (x:σ),F self x r→jX cfg (Ab.Spec Tryz.prog cfg) [] (Loops Tryz.prog cfg N rr m) c (st x) (λ e s'=>match e with | .normal=>∃x' ρ os,self x' r∧MP m ρ os s' (st x') | e=>K e s'))
  (hE:MP m [] [] s (st x0):=by exact z) (hok:iQ N c=true:=by decide +kernel):Loops Tryz.prog cfg N rr m (.loop c) s K:=eD eX hok hm st [] [] hE round
theorem ck (ct:List Nat) {x y:Code} {s:St} {K:Exit→St→Prop} (k:σ→M R) (r:R) (st:σ→St)
  (h1:jX cfg (Ab.Spec Tryz.prog cfg) ct (Loops Tryz.prog cfg N rr m) x s (λ e s'=>match e with | .normal=>∃x' ρ os,k x' r∧MP m ρ os s' (st x') | e=>K e s'))
  (h2:∀x',k x' r→jX cfg (Ab.Spec Tryz.prog cfg) ct (Loops Tryz.prog cfg N rr m) y (st x') K) (aiU:iQ N x=true:=by decide +kernel) (agW:iQ N y=true:=by decide +kernel):Loops Tryz.prog cfg N rr m (.seq x y) s K:=TI eX aiU agW k r st h1 h2
end
end Go.Proofs.YtifekdmmpbcdgaaGreatDoor
namespace Go.Proofs.YtifekdmmpbcdgaaGreatDoor
open Go.Ab
set_option maxRecDepth 100000
set_option maxHeartbeats 20000000
theorem xk {s_:List ay} {r:Int} (hm:qP s_ r):S 253 [aU s_,.fn 223 []] [] (iV r) [] :=sp Tryz.func253 rfl<|l0 hm (λ g1=>⟨[(0,aU s_),(1,.fn 223 []),(7,iV (s_.length:Int)),(8,iV (0:Int))],[],0⟩) <|λ ah g1 hm=>by
 have c2:=hm.1
 have hm:=hm.2
 refine aS (λ q=>Bool.noConfusion (c2.symm.trans q)) (λ _=>?_)
 (conv=>whnf)
 have hm:r=(-1:Int):=hm
 subst hm
 refine ⟨[],[],?_⟩
 (conv=>whnf)
 exact ⟨⟨rfl,trivial,trivial⟩,r2⟩
variable {r:Bool}
theorem uL {s_:List ay} (hm:oh s_ r):S 222 [aU s_,.fn 223 []] [] (.bool r) [] :=sp Tryz.func222 rfl<|sq hm xk λ v1 hm=>by cases hm;exact re
variable {l_:List ay}
theorem mV {r:Int} (hm:um l_ r):S 164 [aU l_] [] (iV r) [] :=sp Tryz.func164 rfl<|sb hm λ v1 hv1 hm=>cl (λ q0=>(uL (hv1 q0)))<|by
 have c1:=hm.1
 have hm:=hm.2
 refine aS (λ q=>Bool.noConfusion (c1.symm.trans q)) (λ _=>?_)
 (conv=>whnf)
 refine eD (ct:=[]) eX dk hm (λ g1=>⟨[(0,aU l_),(18,aU l_),(19,iV (l_.length:Int)),(20,iV (0:Int))],[],0⟩) [] [] ⟨rfl,⟨sr,sr,r2,r2,trivial⟩,trivial⟩ ?_
 intro ah g1 hm
 (conv=>whnf)
 have c3:=hm.1
 have hm:=hm.2
 refine aS (λ q=>Bool.noConfusion (c3.symm.trans q)) (λ _=>?_)
 (conv=>whnf)
 refine aN hm λ h1 hm=>?_
 (conv=>whnf)
 refine eD (ct:=[]) eX dk hm (λ g2=>⟨[(5,iV (1:Int)),(6,.dF 0 0 g2.length false),(33,aU l_),(34,iV (l_.length:Int)),(35,iV (0:Int))],[(0,some (.row 1 g2.length (bA iV 0 g2)))],1⟩) [(0,some 32)] [] ⟨rfl,⟨r2,⟨rfl,rfl,rfl,oz,nofun⟩,sr,r2,r2,trivial⟩,⟨⟨rfl,oz,(PK iV 0)⟩,trivial⟩⟩ ?_
 intro dR g2 hm
 (conv=>whnf)
 have c5:=hm.1
 have hm:=hm.2
 refine aS (λ q=>Bool.noConfusion (c5.symm.trans q)) (λ _=>?_)
 (conv=>whnf)
 have hm:r=(0:Int):=hm
 subst hm
 refine ⟨[],[],?_⟩
 (conv=>whnf)
 exact ⟨⟨rfl,trivial,trivial⟩,r2⟩
theorem xq {s_:List aC} {r:Int} (hm:qQ s_ r):S 251 [aT s_,.fn 217 []] [] (iV r) [] :=sp Tryz.func251 rfl<|l0 hm (λ g1=>⟨[(0,aT s_),(1,.fn 217 []),(7,iV (s_.length:Int)),(8,iV (0:Int))],[],0⟩) <|λ ah g1 hm=>by
 have c2:=hm.1
 have hm:=hm.2
 refine aS (λ q=>Bool.noConfusion (c2.symm.trans q)) (λ _=>?_)
 (conv=>whnf)
 have hm:r=(-1:Int):=hm
 subst hm
 refine ⟨[],[],?_⟩
 (conv=>whnf)
 exact ⟨⟨rfl,trivial,trivial⟩,r2⟩
theorem uM {s_:List aC} (hm:oq s_ r):S 216 [aT s_,.fn 217 []] [] (.bool r) [] :=sp Tryz.func216 rfl<|sq hm xq λ v1 hm=>by cases hm;exact re
theorem pJ {l_:List aC} {r:Int} (hm:vg l_ r):S 152 [aT l_] [] (iV r) [] :=sp Tryz.func152 rfl<|sb hm λ v1 hv1 hm=>cl (λ q0=>(uM (hv1 q0)))<|by
 have c1:=hm.1
 have hm:=hm.2
 refine aS (λ q=>Bool.noConfusion (c1.symm.trans q)) (λ _=>?_)
 (conv=>whnf)
 refine eD (ct:=[]) eX dk hm (λ g1=>⟨[(12,aT l_),(13,iV (l_.length:Int)),(14,iV (0:Int))],[],0⟩) [] [] ⟨rfl,⟨sr,r2,r2,trivial⟩,trivial⟩ ?_
 intro ah g1 hm
 (conv=>whnf)
 have c3:=hm.1
 have hm:=hm.2
 refine aS (λ q=>Bool.noConfusion (c3.symm.trans q)) (λ _=>?_)
 (conv=>whnf)
 have hm:r=(0:Int):=hm
 subst hm
 refine ⟨[],[],?_⟩
 (conv=>whnf)
 exact ⟨⟨rfl,trivial,trivial⟩,r2⟩
theorem Jv {p_:bL} {r:Int} (hm:OA p_ r):S 213 [nO p_] [] (iV r) [] :=sp Tryz.func213 rfl<|by
 have c1:=hm.1
 have hm:=hm.2
 refine aS (λ q=>Bool.noConfusion (c1.symm.trans q)) (λ _=>?_)
 (conv=>whnf)
 have c2:=hm.1
 have hm:=hm.2
 refine aS (λ q=>Bool.noConfusion (c2.symm.trans q)) (λ _=>?_)
 (conv=>whnf)
 refine eD (ct:=[]) eX dk hm (λ g1=>⟨[(1,.ptr 0 0 0),(3,.mref 1),(21,aX p_.aG),(22,iV (p_.aG.length:Int)),(23,iV (0:Int))],[(0,some (.box [iV p_.dz,aX p_.aG])),(1,some (.map .str [.bool] (λ _=>none)))],2⟩) [(1,some 112)] [] ⟨rfl,⟨r4,r2,sr,r2,r2,trivial⟩,⟨⟨r2,sr,trivial⟩,⟨rfl,rfl,rfl⟩,trivial⟩⟩ ?_
 intro ah g1 hm
 (conv=>whnf)
 have c4:=hm.1
 have hm:=hm.2
 refine aS (λ q=>Bool.noConfusion (c4.symm.trans q)) (λ _=>?_)
 (conv=>whnf)
 have hm:r=(0:Int):=hm
 subst hm
 refine ⟨[],[],?_⟩
 (conv=>whnf)
 exact ⟨⟨rfl,trivial,trivial⟩,r2⟩
theorem FU {l_:List eu} {r:Int} (hm:Kc l_ r):S 214 [bV l_] [] (iV r) [] :=sp Tryz.func214 rfl<|by
 have c1:=hm.1
 have hm:=hm.2
 refine aS (λ q=>Bool.noConfusion (c1.symm.trans q)) (λ _=>?_)
 (conv=>whnf)
 refine eD (ct:=[]) eX dk hm (λ g1=>⟨[(11,bV l_),(12,iV (l_.length:Int)),(13,iV g1)],[],0⟩) [] [] ⟨rfl,⟨sr,r2,r2,trivial⟩,trivial⟩ ?_
 intro ah g1 hm
 (conv=>whnf)
 refine jq hm (λ c12 hm=>?_) (λ c12 hm=>?_)
 ·(conv=>whnf)
  refine aN hm λ h5 hm=>?_
  (conv=>whnf)
  refine eD (ct:=[]) eX dk hm (λ g6=>⟨[(3,iV g1),(4,.ptr 0 0 0),(11,bV l_),(12,iV (l_.length:Int)),(13,iV g1),(19,ak ((l_.getD g1.toNat eU).fV)),(20,iV ((((l_.getD g1.toNat eU).fV).length:Nat):Int)),(21,iV (0:Int))],[(0,some (.box [ak ((l_.getD g1.toNat eU).fV)]))],1⟩) [(0,some 32)] [] ⟨rfl,⟨r2,r4,sr,r2,r2,sr,r2,r2,trivial⟩,⟨⟨sr,trivial⟩,trivial⟩⟩ ?_
  intro jE g6 hm
  (conv=>whnf)
  have c14:=hm.1
  have hm:=hm.2
  refine aS (λ q=>Bool.noConfusion (c14.symm.trans q)) (λ _=>?_)
  (conv=>whnf)
  refine eD (ct:=[]) eX dk hm (λ g7=>⟨[(4,.ptr 0 0 0),(7,iV (1:Int)),(11,bV l_),(12,iV (l_.length:Int)),(13,iV g1)],[(0,some (.box [ak ((l_.getD g1.toNat eU).fV)]))],1⟩) [] [] ⟨rfl,⟨r4,r2,sr,r2,r2,trivial⟩,⟨⟨sr,trivial⟩,trivial⟩⟩ ?_
  intro ou g7 hm
  (conv=>whnf)
  have c16:=hm.1
  have hm:=hm.2
  refine aS (λ q=>Bool.noConfusion (c16.symm.trans q)) (λ _=>?_)
  (conv=>whnf)
  refine aN hm λ h6 hm=>?_
  (conv=>whnf)
  exact ⟨(g1+(1:Int)),[],[],hm,⟨rfl,⟨sr,r2,r2,trivial⟩,trivial⟩⟩
 ·(conv=>whnf)
  have hm:r=(0:Int):=hm
  subst hm
  refine ⟨[],[],?_⟩
  (conv=>whnf)
  exact ⟨⟨rfl,trivial,trivial⟩,r2⟩
theorem vS {l_:List dG} {r:Int} (hm:zX l_ r):S 105 [bI l_] [] (iV r) [] :=sp Tryz.func105 rfl<|by
 have c1:=hm.1
 have hm:=hm.2
 refine aS (λ q=>Bool.noConfusion (c1.symm.trans q)) (λ _=>?_)
 (conv=>whnf)
 refine eD (ct:=[]) eX dk hm (λ g1=>⟨[(8,bI l_),(9,iV (l_.length:Int)),(10,iV (0:Int))],[],0⟩) [] [] ⟨rfl,⟨sr,r2,r2,trivial⟩,trivial⟩ ?_
 intro ah g1 hm
 (conv=>whnf)
 have c3:=hm.1
 have hm:=hm.2
 refine aS (λ q=>Bool.noConfusion (c3.symm.trans q)) (λ _=>?_)
 (conv=>whnf)
 have hm:r=(0:Int):=hm
 subst hm
 refine ⟨[],[],?_⟩
 (conv=>whnf)
 exact ⟨⟨rfl,trivial,trivial⟩,r2⟩
variable {b_:aP}
theorem Sy {r:Int} (hm:TK b_ r):S 147 [iM b_] [] (iV r) [] :=sp Tryz.func147 rfl<|sq hm mV λ v1 hm=>by
 have c1:=hm.1
 have hm:=hm.2
 refine aS (λ q=>Bool.noConfusion (c1.symm.trans q)) (λ _=>?_)
 (conv=>whnf)
 refine bF hm λ v2 hv2 hm=>?_
 refine ⟨_,_,(pJ hv2),?_⟩
 (conv=>whnf)
 have c2:=hm.1
 have hm:=hm.2
 refine aS (λ q=>Bool.noConfusion (c2.symm.trans q)) (λ _=>?_)
 (conv=>whnf)
 refine bF hm λ v3 hv3 hm=>?_
 refine ⟨_,_,(Jv hv3),?_⟩
 (conv=>whnf)
 have c3:=hm.1
 have hm:=hm.2
 refine aS (λ q=>Bool.noConfusion (c3.symm.trans q)) (λ _=>?_)
 (conv=>whnf)
 refine bF hm λ v4 hv4 hm=>?_
 refine ⟨_,_,(FU hv4),?_⟩
 (conv=>whnf)
 have c4:=hm.1
 have hm:=hm.2
 refine aS (λ q=>Bool.noConfusion (c4.symm.trans q)) (λ _=>?_)
 (conv=>whnf)
 refine bF hm λ v5 hv5 hm=>?_
 refine ⟨_,_,(vS hv5),?_⟩
 (conv=>whnf)
 have hm:r=v5:=hm
 subst hm
 refine ⟨[],[],?_⟩
 (conv=>whnf)
 exact ⟨⟨rfl,trivial,trivial⟩,r2⟩
theorem EA {x_:Int} {MR:Int} {wD:Int} (hm:ET x_ MR wD r):S 171 [iV x_,iV MR,iV wD] [] (.bool r) [] :=sp Tryz.func171 rfl<|by cases hm;exact re
theorem U6 {n_:aO} {yj:Int} {r:Int} (hm:WM b_ n_ yj r):S 148 [iM b_,zw n_,iV yj] [] (iV r) [] :=sp Tryz.func148 rfl<|by
 have c1:=hm.1
 have hm:=hm.2
 refine aS (λ q=>Bool.noConfusion (c1.symm.trans q)) (λ _=>?_)
 (conv=>whnf)
 refine eD (ct:=[]) eX dk hm (λ g1=>⟨[(2,iV yj),(3,.ptr 0 0 0),(4,.ptr 1 0 0),(35,dK n_.eF),(36,iV (n_.eF.length:Int)),(37,iV (0:Int))],[(0,some (.box [aU b_.bT,aT b_.bD,iV b_.aQ.dz,aX b_.aQ.aG,bV b_.bf,bI b_.bO])),(1,some (.box [dK n_.eF,fF n_.gJ,iU n_.aI,ak n_.bf,iV n_.gB,ak n_.dx]))],2⟩) [(1,some 8)] [] ⟨rfl,⟨r2,r4,r4,sr,r2,r2,trivial⟩,⟨⟨sr,sr,r2,sr,sr,sr,trivial⟩,⟨sr,sr,sr,sr,r2,sr,trivial⟩,trivial⟩⟩ ?_
 intro ah g1 hm
 (conv=>whnf)
 have c3:=hm.1
 have hm:=hm.2
 refine aS (λ q=>Bool.noConfusion (c3.symm.trans q)) (λ _=>?_)
 (conv=>whnf)
 refine eD (ct:=[]) eX dk hm (λ g2=>⟨[(2,iV yj),(3,.ptr 0 0 0),(4,.ptr 1 0 0),(68,fF n_.gJ),(69,iV (n_.gJ.length:Int)),(70,iV (0:Int))],[(0,some (.box [aU b_.bT,aT b_.bD,iV b_.aQ.dz,aX b_.aQ.aG,bV b_.bf,bI b_.bO])),(1,some (.box [dK n_.eF,fF n_.gJ,iU n_.aI,ak n_.bf,iV n_.gB,ak n_.dx]))],2⟩) [] [] ⟨rfl,⟨r2,r4,r4,sr,r2,r2,trivial⟩,⟨⟨sr,sr,r2,sr,sr,sr,trivial⟩,⟨sr,sr,sr,sr,r2,sr,trivial⟩,trivial⟩⟩ ?_
 intro dR g2 hm
 (conv=>whnf)
 have c5:=hm.1
 have hm:=hm.2
 refine aS (λ q=>Bool.noConfusion (c5.symm.trans q)) (λ _=>?_)
 (conv=>whnf)
 refine eD (ct:=[]) eX dk hm (λ g3=>⟨[(2,iV yj),(3,.ptr 0 0 0),(4,.ptr 1 0 0),(107,iU n_.aI),(108,iV (n_.aI.length:Int)),(109,iV (0:Int))],[(0,some (.box [aU b_.bT,aT b_.bD,iV b_.aQ.dz,aX b_.aQ.aG,bV b_.bf,bI b_.bO])),(1,some (.box [dK n_.eF,fF n_.gJ,iU n_.aI,ak n_.bf,iV n_.gB,ak n_.dx]))],2⟩) [] [] ⟨rfl,⟨r2,r4,r4,sr,r2,r2,trivial⟩,⟨⟨sr,sr,r2,sr,sr,sr,trivial⟩,⟨sr,sr,sr,sr,r2,sr,trivial⟩,trivial⟩⟩ ?_
 intro vk g3 hm
 (conv=>whnf)
 have c7:=hm.1
 have hm:=hm.2
 refine aS (λ q=>Bool.noConfusion (c7.symm.trans q)) (λ _=>?_)
 (conv=>whnf)
 refine eD (ct:=[]) eX dk hm (λ g4=>⟨[(2,iV yj),(3,.ptr 0 0 0),(4,.ptr 1 0 0),(118,ak n_.bf),(119,iV (n_.bf.length:Int)),(120,iV (0:Int))],[(0,some (.box [aU b_.bT,aT b_.bD,iV b_.aQ.dz,aX b_.aQ.aG,bV b_.bf,bI b_.bO])),(1,some (.box [dK n_.eF,fF n_.gJ,iU n_.aI,ak n_.bf,iV n_.gB,ak n_.dx]))],2⟩) [] [] ⟨rfl,⟨r2,r4,r4,sr,r2,r2,trivial⟩,⟨⟨sr,sr,r2,sr,sr,sr,trivial⟩,⟨sr,sr,sr,sr,r2,sr,trivial⟩,trivial⟩⟩ ?_
 intro kE g4 hm
 (conv=>whnf)
 have c9:=hm.1
 have hm:=hm.2
 refine aS (λ q=>Bool.noConfusion (c9.symm.trans q)) (λ _=>?_)
 (conv=>whnf)
 refine aN hm λ h1 hm=>?_
 (conv=>whnf)
 refine bF hm λ v1 hv1 hm=>?_
 refine ⟨_,_,(EA hv1),?_⟩
 (conv=>whnf)
 have c10:=hm.1
 have hm:=hm.2
 refine aS (λ q=>Bool.noConfusion (c10.symm.trans q)) (λ _=>?_)
 (conv=>whnf)
 refine eD (ct:=[]) eX dk hm (λ g5=>⟨[(2,iV yj),(4,.ptr 0 0 0),(141,ak n_.dx),(142,iV (n_.dx.length:Int)),(143,iV (0:Int))],[(0,some (.box [dK n_.eF,fF n_.gJ,iU n_.aI,ak n_.bf,iV n_.gB,ak n_.dx]))],1⟩) [(0,some 1)] [] ⟨rfl,⟨r2,r4,sr,r2,r2,trivial⟩,⟨⟨sr,sr,sr,sr,r2,sr,trivial⟩,trivial⟩⟩ ?_
 intro jP g5 hm
 (conv=>whnf)
 have c12:=hm.1
 have hm:=hm.2
 refine aS (λ q=>Bool.noConfusion (c12.symm.trans q)) (λ _=>?_)
 (conv=>whnf)
 refine eD (ct:=[]) eX dk hm (λ g6=>⟨[(4,.ptr 0 0 0),(17,iV (1:Int))],[(0,some (.box [dK n_.eF,fF n_.gJ,iU n_.aI,ak n_.bf,iV n_.gB,ak n_.dx]))],1⟩) [] [] ⟨rfl,⟨r4,r2,trivial⟩,⟨⟨sr,sr,sr,sr,r2,sr,trivial⟩,trivial⟩⟩ ?_
 intro jE g6 hm
 (conv=>whnf)
 have c14:=hm.1
 have hm:=hm.2
 refine aS (λ q=>Bool.noConfusion (c14.symm.trans q)) (λ _=>?_)
 (conv=>whnf)
 have hm:r=(0:Int):=hm
 subst hm
 refine ⟨[],[],?_⟩
 (conv=>whnf)
 exact ⟨⟨rfl,trivial,trivial⟩,r2⟩
theorem zn {l_:List aO} {r:Int} (hm:GH b_ l_ r):S 85 [iM b_,dB l_] [] (iV r) [] :=sp Tryz.func85 rfl<|sq hm Sy λ v1 hm=>by
 have c1:=hm.1
 have hm:=hm.2
 refine aS (λ q=>Bool.noConfusion (c1.symm.trans q)) (λ _=>?_)
 (conv=>whnf)
 have c2:=hm.1
 have hm:=hm.2
 refine aS (λ q=>Bool.noConfusion (c2.symm.trans q)) (λ _=>?_)
 (conv=>whnf)
 refine eD (ct:=[]) eX dk hm (λ g1=>⟨[(1,dB l_),(2,.ptr 0 0 0),(17,dB l_),(18,iV (l_.length:Int)),(19,iV g1)],[(0,some (.box [aU b_.bT,aT b_.bD,iV b_.aQ.dz,aX b_.aQ.aG,bV b_.bf,bI b_.bO]))],1⟩) [] [] ⟨rfl,⟨sr,r4,sr,r2,r2,trivial⟩,⟨⟨sr,sr,r2,sr,sr,sr,trivial⟩,trivial⟩⟩ ?_
 intro ah g1 hm
 (conv=>whnf)
 refine jq hm (λ c7 hm=>?_) (λ c7 hm=>?_)
 ·(conv=>whnf)
  refine aN hm λ h5 hm=>?_
  (conv=>whnf)
  refine bF hm λ v4 hv4 hm=>?_
  refine ⟨_,_,(U6 hv4),?_⟩
  (conv=>whnf)
  have c8:=hm.1
  have hm:=hm.2
  refine aS (λ q=>Bool.noConfusion (c8.symm.trans q)) (λ _=>?_)
  (conv=>whnf)
  refine aN hm λ h6 hm=>?_
  (conv=>whnf)
  exact ⟨(g1+(1:Int)),[],[],hm,⟨rfl,⟨sr,r4,sr,r2,r2,trivial⟩,⟨⟨sr,sr,r2,sr,sr,sr,trivial⟩,trivial⟩⟩⟩
 ·(conv=>whnf)
  have hm:r=(0:Int):=hm
  subst hm
  refine ⟨[],[],?_⟩
  (conv=>whnf)
  exact ⟨⟨rfl,trivial,trivial⟩,r2⟩
variable {s_:List Int}
theorem JH {v_:Int} {r:Int} (hm:slices_Index_int s_ v_ r):S 149 [ak s_,iV v_] [] (iV r) [] :=sp Tryz.func149 rfl<|l0 hm (λ g1=>⟨[(0,ak s_),(1,iV v_),(7,iV (s_.length:Int)),(8,iV (0:Int))],[],0⟩) <|λ ah g1 hm=>by
 have c2:=hm.1
 have hm:=hm.2
 refine aS (λ q=>Bool.noConfusion (c2.symm.trans q)) (λ _=>?_)
 (conv=>whnf)
 have hm:r=(-1:Int):=hm
 subst hm
 refine ⟨[],[],?_⟩
 (conv=>whnf)
 exact ⟨⟨rfl,trivial,trivial⟩,r2⟩
theorem sK {v_:Int} (hm:slices_Contains_int s_ v_ r):S 86 [ak s_,iV v_] [] (.bool r) [] :=sp Tryz.func86 rfl<|sq hm JH λ v1 hm=>by cases hm;exact re
variable {aj:List Int}
theorem yP {l_:List aO} (hm:y5 l_ aj r):S 107 [dB l_,ak aj] [] (.bool r) [] :=sp Tryz.func107 rfl<|l0 hm (λ g1=>⟨[(0,dB l_),(1,ak aj),(7,ak aj),(8,iV (aj.length:Int)),(9,iV g1)],[],0⟩) <|λ ah g1 hm=>si hm (λ _ hm=>s2 hm λ _ _ hm=>sq hm EA λ v5 hm=>sn hm λ _ hm=>sb hm λ v6 hv6 hm=>cl (λ q0=>((sK (hv6 q0)).le ⟨(.sl oz (λ _=>rfl) nofun (iG (f:=iV) (d:=0) (by first | omega | exact Nat.min_le_left _ _ | exact Nat.le_trans (Nat.min_le_left _ _) om | (simp; omega)))),.refl _,trivial⟩ trivial))<|by
 have c6:=hm.1
 have hm:=hm.2
 refine aS (λ q=>Bool.noConfusion (c6.symm.trans q)) (λ _=>?_)
 (conv=>whnf)
 refine aN hm λ h12 hm=>?_
 (conv=>whnf)
 exact ⟨(g1+(1:Int)),[],[],hm,⟨rfl,⟨sr,sr,sr,r2,r2,trivial⟩,trivial⟩⟩) λ _ hm=>by cases hm;exact re
theorem H6 {s_:iL} (hm:CZ s_ r):S 174 [GD s_] [] (.bool r) [] :=sp Tryz.func174 rfl<|sq hm yP λ v1 hm=>by
 have c1:=hm.1
 have hm:=hm.2
 refine aS (λ q=>Bool.noConfusion (c1.symm.trans q)) (λ _=>?_)
 (conv=>whnf)
 refine eD (ct:=[]) eX dk hm (λ g1=>⟨[(1,.ptr 0 0 0),(4,.ptr 1 0 0),(67,aU s_.bZ.bT),(68,iV (s_.bZ.bT.length:Int)),(69,iV (0:Int))],[(0,some (.box [aU s_.bZ.bT,aT s_.bZ.bD,iV s_.bZ.aQ.dz,aX s_.bZ.aQ.aG,bV s_.bZ.bf,bI s_.bZ.bO,dB s_.iH,ak s_.dH,ak s_.bW.Setting,av s_.bW.aY.On,ak s_.bW.aY.bC,bn s_.bW.Uses,av s_.bW.Released,av s_.bW.bq,.bool s_.mH])),(1,some (.box [ak s_.bW.Setting,av s_.bW.aY.On,ak s_.bW.aY.bC,bn s_.bW.Uses,av s_.bW.Released,av s_.bW.bq]))],2⟩) [(1,some 56)] [] ⟨rfl,⟨r4,r4,sr,r2,r2,trivial⟩,⟨⟨sr,sr,r2,sr,sr,sr,sr,sr,sr,sr,sr,sr,sr,sr,rfl,trivial⟩,⟨sr,sr,sr,sr,sr,sr,trivial⟩,trivial⟩⟩ ?_
 intro ah g1 hm
 (conv=>whnf)
 have c3:=hm.1
 have hm:=hm.2
 refine aS (λ q=>Bool.noConfusion (c3.symm.trans q)) (λ _=>?_)
 (conv=>whnf)
 refine eD (ct:=[]) eX dk hm (λ g2=>⟨[(1,.ptr 0 0 0),(87,bn s_.bW.Uses),(88,iV (s_.bW.Uses.length:Int)),(89,iV (0:Int))],[(0,some (.box [aU s_.bZ.bT,aT s_.bZ.bD,iV s_.bZ.aQ.dz,aX s_.bZ.aQ.aG,bV s_.bZ.bf,bI s_.bZ.bO,dB s_.iH,ak s_.dH,ak s_.bW.Setting,av s_.bW.aY.On,ak s_.bW.aY.bC,bn s_.bW.Uses,av s_.bW.Released,av s_.bW.bq,.bool s_.mH]))],1⟩) [] [] ⟨rfl,⟨r4,sr,r2,r2,trivial⟩,⟨⟨sr,sr,r2,sr,sr,sr,sr,sr,sr,sr,sr,sr,sr,sr,rfl,trivial⟩,trivial⟩⟩ ?_
 intro dR g2 hm
 (conv=>whnf)
 have c5:=hm.1
 have hm:=hm.2
 refine aS (λ q=>Bool.noConfusion (c5.symm.trans q)) (λ _=>?_)
 (conv=>whnf)
 have hm:r=true:=hm
 subst hm
 refine ⟨[],[],?_⟩
 (conv=>whnf)
 exact ⟨⟨rfl,trivial,trivial⟩,rfl⟩
theorem xu {s_:List bg} {f_:List ay} {r:Int} (hm:qR s_ f_ r):S 256 [dK s_,.fn 226 [.ro [aU f_]]] [] (iV r) [] :=sp Tryz.func256 rfl<|l0 hm (λ g1=>⟨[(0,dK s_),(1,.fn 226 [.ro [aU f_]]),(7,iV (s_.length:Int)),(8,iV (0:Int))],[],0⟩) <|λ ah g1 hm=>by
 have c2:=hm.1
 have hm:=hm.2
 refine aS (λ q=>Bool.noConfusion (c2.symm.trans q)) (λ _=>?_)
 (conv=>whnf)
 have hm:r=(-1:Int):=hm
 subst hm
 refine ⟨[],[],?_⟩
 (conv=>whnf)
 exact ⟨⟨rfl,trivial,trivial⟩,r2⟩
theorem uN {s_:List bg} {f_:List ay} (hm:oC s_ f_ r):S 225 [dK s_,.fn 226 [.ro [aU f_]]] [] (.bool r) [] :=sp Tryz.func225 rfl<|sq hm xu λ v1 hm=>by cases hm;exact re
theorem DJ {m_:List bg} (hm:GI l_ m_ r):S 165 [aU l_,dK m_] [] (.bool r) [] :=sp Tryz.func165 rfl<|sq hm mV λ v1 hm=>sb hm λ v2 hv2 hm=>cl (λ q0=>(uN (hv2 q0)))<|by cases hm;exact re
theorem tT (hm:xL l_ s_ r):S 228 [aU l_,ak s_] [] (.bool r) [] :=sp Tryz.func228 rfl<|by
 have c1:=hm.1
 have hm:=hm.2
 refine aS (λ q=>Bool.noConfusion (c1.symm.trans q)) (λ _=>?_)
 (conv=>whnf)
 refine eD (ct:=[]) eX dk hm (λ g1=>⟨[(0,aU l_),(12,ak s_),(13,iV (s_.length:Int)),(14,iV (0:Int))],[],0⟩) [] [] ⟨rfl,⟨sr,sr,r2,r2,trivial⟩,trivial⟩ ?_
 intro ah g1 hm
 (conv=>whnf)
 have c3:=hm.1
 have hm:=hm.2
 refine aS (λ q=>Bool.noConfusion (c3.symm.trans q)) (λ _=>?_)
 (conv=>whnf)
 have hm:r=true:=hm
 subst hm
 refine ⟨[],[],?_⟩
 (conv=>whnf)
 exact ⟨⟨rfl,trivial,trivial⟩,rfl⟩
theorem FV {r:List dL} (hm:Kg l_ s_ r):S 257 [aU l_,ak s_] [] (o8 r) [] :=sp Tryz.func257 rfl<|sn hm λ _ hm=>lf hm (λ g1=>⟨[(0,aU l_),(1,ak s_),(5,.dF 0 0 g1.length false),(13,aU l_),(14,iV (l_.length:Int)),(15,iV (0:Int))],[(0,some (.row 2 g1.length (bA Ii gW g1)))],1⟩) [(0,some 24)] [] <|λ ah g1 hm=>by
 have c2:=hm.1
 have hm:=hm.2
 refine aS (λ q=>Bool.noConfusion (c2.symm.trans q)) (λ _=>?_)
 (conv=>whnf)
 have hm:r=g1:=hm
 subst hm
 refine ⟨[0],[],?_⟩
 (conv=>whnf)
 exact ⟨⟨rfl,trivial,trivial⟩,sf⟩
variable {f_:List dL}
theorem uO {s_:List bg} {r:Int} (hm:oD s_ f_ r):S 256 [dK s_,.fn 259 [.ro [o8 f_]]] [] (iV r) [] :=sp Tryz.func256 rfl<|l0 hm (λ g1=>⟨[(0,dK s_),(1,.fn 259 [.ro [o8 f_]]),(7,iV (s_.length:Int)),(8,iV (0:Int))],[],0⟩) <|λ ah g1 hm=>by
 have c2:=hm.1
 have hm:=hm.2
 refine aS (λ q=>Bool.noConfusion (c2.symm.trans q)) (λ _=>?_)
 (conv=>whnf)
 have hm:r=(-1:Int):=hm
 subst hm
 refine ⟨[],[],?_⟩
 (conv=>whnf)
 exact ⟨⟨rfl,trivial,trivial⟩,r2⟩
theorem rF {s_:List bg} (hm:l9 s_ f_ r):S 225 [dK s_,.fn 259 [.ro [o8 f_]]] [] (.bool r) [] :=sp Tryz.func225 rfl<|sq hm uO λ v1 hm=>by cases hm;exact re
theorem Sz {m_:List bg} (hm:TL l_ s_ m_ r):S 232 [aU l_,ak s_,dK m_] [] (.bool r) [] :=sp Tryz.func232 rfl<|sq hm DJ λ v1 hm=>sb hm λ v2 hv2 hm=>cl (λ q0=>(tT (hv2 q0)))<|by
 have c1:=hm.1
 have hm:=hm.2
 refine aS (λ q=>Bool.noConfusion (c1.symm.trans q)) (λ _=>?_)
 (conv=>whnf)
 refine bF hm λ v3 hv3 hm=>?_
 refine ⟨_,_,(FV hv3),?_⟩
 (conv=>whnf)
 refine eD (ct:=[]) eX dk hm (λ g1=>⟨[(2,dK m_),(7,.ptr 0 0 0),(23,aU l_),(24,iV (l_.length:Int)),(25,iV (0:Int))],[(0,some (.box [o8 v3]))],1⟩) [(0,some 112)] [] ⟨rfl,⟨sr,r4,sr,r2,r2,trivial⟩,⟨⟨sr,trivial⟩,trivial⟩⟩ ?_
 intro ah g1 hm
 (conv=>whnf)
 have c3:=hm.1
 have hm:=hm.2
 refine aS (λ q=>Bool.noConfusion (c3.symm.trans q)) (λ _=>?_)
 (conv=>whnf)
 refine bF hm λ v4 hv4 hm=>?_
 refine ⟨_,_,(rF hv4),?_⟩
 (conv=>whnf)
 have hm:r=(!v4):=hm
 subst hm
 refine ⟨[],[],?_⟩
 (conv=>whnf)
 exact ⟨⟨rfl,trivial,trivial⟩,rfl⟩
theorem FX {s_:iL} (hm:Ba s_ r):S 175 [GD s_] [] (.bool r) [] :=sp Tryz.func175 rfl<|sb hm λ v1 hv1 hm=>cl ((Sz hv1).le ⟨.refl _,.refl _,(.sl rfl (λ h=>absurd rfl h) nofun (λ _ h=>absurd h (Nat.not_lt_zero _))),trivial⟩ trivial)<|by cases hm;exact re
theorem FY {r:List dL×Int} (hm:Kh l_ s_ r):S 229 [aU l_,ak s_] [] (.jM [o8 r.1,iV r.2]) [] :=sp Tryz.func229 rfl<|sq hm mV λ v1 hm=>by
 have c1:=hm.1
 have hm:=hm.2
 refine aS (λ q=>Bool.noConfusion (c1.symm.trans q)) (λ _=>?_)
 (conv=>whnf)
 refine bF hm λ v2 hv2 hm=>?_
 refine ⟨_,_,(tT hv2),?_⟩
 (conv=>whnf)
 have c2:=hm.1
 have hm:=hm.2
 refine aS (λ q=>Bool.noConfusion (c2.symm.trans q)) (λ _=>?_)
 (conv=>whnf)
 refine bF hm λ v3 hv3 hm=>?_
 refine ⟨_,_,(FV hv3),?_⟩
 (conv=>whnf)
 have hm:r=(v3,(0:Int)):=hm
 subst hm
 refine ⟨[],[],?_⟩
 (conv=>whnf)
 exact ⟨⟨rfl,trivial,trivial⟩,⟨sf,r2,trivial⟩⟩
theorem FZ {s_:iL} (hm:Bb s_ r):S 176 [GD s_] [] (.bool r) [] :=sp Tryz.func176 rfl<|sq hm FY λ v1 hm=>by
 have c1:=hm.1
 have hm:=hm.2
 refine aS (λ q=>Bool.noConfusion (c1.symm.trans q)) (λ _=>?_)
 (conv=>whnf)
 refine eD (ct:=[]) eX dk hm (λ g1=>⟨[(1,.ptr 0 0 0),(3,o8 v1.1),(23,ak s_.dH),(24,iV (s_.dH.length:Int)),(25,iV g1)],[(0,some (.box [aU s_.bZ.bT,aT s_.bZ.bD,iV s_.bZ.aQ.dz,aX s_.bZ.aQ.aG,bV s_.bZ.bf,bI s_.bZ.bO,dB s_.iH,ak s_.dH,ak s_.bW.Setting,av s_.bW.aY.On,ak s_.bW.aY.bC,bn s_.bW.Uses,av s_.bW.Released,av s_.bW.bq,.bool s_.mH]))],1⟩) [] [] ⟨rfl,⟨r4,sr,sr,r2,r2,trivial⟩,⟨⟨sr,sr,r2,sr,sr,sr,sr,sr,sr,sr,sr,sr,sr,sr,rfl,trivial⟩,trivial⟩⟩ ?_
 intro ah g1 hm
 (conv=>whnf)
 refine jq hm (λ c8 hm=>?_) (λ c8 hm=>?_)
 ·(conv=>whnf)
  refine aN hm λ h7 hm=>?_
  (conv=>whnf)
  refine aN hm λ h8 hm=>?_
  (conv=>whnf)
  refine eD (ct:=[]) eX dk hm (λ g4=>⟨[(1,.ptr 0 0 0),(3,o8 v1.1),(23,ak s_.dH),(24,iV (s_.dH.length:Int)),(25,iV g1),(34,dK ((s_.iH.getD ((s_.dH.getD g1.toNat 0).toNat) dh).eF)),(35,iV ((((s_.iH.getD ((s_.dH.getD g1.toNat 0).toNat) dh).eF).length:Nat):Int)),(36,iV (0:Int))],[(0,some (.box [aU s_.bZ.bT,aT s_.bZ.bD,iV s_.bZ.aQ.dz,aX s_.bZ.aQ.aG,bV s_.bZ.bf,bI s_.bZ.bO,dB s_.iH,ak s_.dH,ak s_.bW.Setting,av s_.bW.aY.On,ak s_.bW.aY.bC,bn s_.bW.Uses,av s_.bW.Released,av s_.bW.bq,.bool s_.mH]))],1⟩) [] [] ⟨rfl,⟨r4,sr,sr,r2,r2,sr,r2,r2,trivial⟩,⟨⟨sr,sr,r2,sr,sr,sr,sr,sr,sr,sr,sr,sr,sr,sr,rfl,trivial⟩,trivial⟩⟩ ?_
  intro kE g4 hm
  (conv=>whnf)
  have c10:=hm.1
  have hm:=hm.2
  refine aS (λ q=>Bool.noConfusion (c10.symm.trans q)) (λ _=>?_)
  (conv=>whnf)
  refine aN hm λ h9 hm=>?_
  (conv=>whnf)
  exact ⟨(g1+(1:Int)),[],[],hm,⟨rfl,⟨r4,sr,sr,r2,r2,trivial⟩,⟨⟨sr,sr,r2,sr,sr,sr,sr,sr,sr,sr,sr,sr,sr,sr,rfl,trivial⟩,trivial⟩⟩⟩
 ·(conv=>whnf)
  have hm:r=true:=hm
  subst hm
  refine ⟨[],[],?_⟩
  (conv=>whnf)
  exact ⟨⟨rfl,trivial,trivial⟩,rfl⟩
theorem kT {s_:List Bool} {r:List Bool} (hm:jH s_ r):S 162 [av s_] [] (.dF 0 0 r.length false) [.row 1 r.length (bA AV.bool false r)] :=by
 obtain ⟨h1,hm⟩:=hm
 have hm:r=s_:=hm
 subst hm
 refine tC (ct:=[1]) eX Tryz.func162 rfl rfl (Nat.le_of_ble_eq_true rfl) dk (Nat.le_of_ble_eq_true rfl) ?_
 (conv=>whnf)
 refine WB (ct:=[]) eX (eX.slice (t:=36) (e:=4) rfl rfl rfl).1 dk dk dk dk dk [(2,.sl 0 0 true cK),(0,av r)] [] 8 rfl ?_ (λ hn=>?_) ?_
 ·exact rfl
 ·(conv=>whnf)
  have hn:r.length=0:=hn
  refine ⟨[],[(0,none)],?_⟩
  (conv=>whnf)
  exact ⟨⟨rfl,trivial,⟨hn,trivial⟩⟩,⟨rfl,rfl,rfl,rfl,rfl,hn⟩⟩
 ·(conv=>whnf)
  refine ⟨by rw [Nat.zero_add]; exact h1,?_⟩
  (conv=>whnf)
  refine ⟨[],[(0,some 24)],?_⟩
  (conv=>whnf)
  exact ⟨⟨rfl,trivial,⟨⟨rfl,Nat.zero_add _,iP (l:=[]) rfl (λ _ h=>absurd h (Nat.not_lt_zero _)) rfl (λ _ _=>.refl _)⟩,trivial⟩⟩,⟨rfl,rfl,rfl,Nat.zero_add _,nofun⟩⟩
theorem o9 {r:List Int} (hm:slices_Clone_int s_ r):S 163 [ak s_] [] (.dF 0 0 r.length false) [.row 1 r.length (bA iV 0 r)] :=by
 obtain ⟨h1,hm⟩:=hm
 have hm:r=s_:=hm
 subst hm
 refine tC (ct:=[1]) eX Tryz.func163 rfl rfl (Nat.le_of_ble_eq_true rfl) dk (Nat.le_of_ble_eq_true rfl) ?_
 (conv=>whnf)
 refine WB (ct:=[]) eX (eX.slice (t:=22) (e:=3) rfl rfl rfl).1 dk dk dk dk dk [(2,.sl 0 0 true cK),(0,ak r)] [] 8 rfl ?_ (λ hn=>?_) ?_
 ·exact rfl
 ·(conv=>whnf)
  have hn:r.length=0:=hn
  refine ⟨[],[(0,none)],?_⟩
  (conv=>whnf)
  exact ⟨⟨rfl,trivial,⟨hn,trivial⟩⟩,⟨rfl,rfl,rfl,rfl,rfl,hn⟩⟩
 ·(conv=>whnf)
  refine ⟨by rw [Nat.zero_add]; exact h1,?_⟩
  (conv=>whnf)
  refine ⟨[],[(0,some 24)],?_⟩
  (conv=>whnf)
  exact ⟨⟨rfl,trivial,⟨⟨rfl,Nat.zero_add _,iP (l:=[]) rfl (λ _ h=>absurd h (Nat.not_lt_zero _)) rfl (λ _ _=>.refl _)⟩,trivial⟩⟩,⟨rfl,rfl,rfl,Nat.zero_add _,nofun⟩⟩
variable {r_:aW}
theorem L6 {r:List Bool×List Int} (hm:EU r_ r):S 172 [kH r_] [] (.agg [.dF 0 0 r.1.length false,.dF 1 0 r.2.length false]) [.row 1 r.1.length (bA AV.bool false r.1),.row 1 r.2.length (bA iV 0 r.2)] :=sp Tryz.func172 rfl<|sq hm kT λ v1 hm=>sq hm o9 λ v2 hm=>by cases hm;exact rt [] [(0,some 32),(1,some 56)]
theorem DK {l_:List aC} (hm:GJ l_ r_ r):S 155 [aT l_,kH r_] [] (.bool r) [] :=sp Tryz.func155 rfl<|sq hm pJ λ v1 hm=>by
 have c1:=hm.1
 have hm:=hm.2
 refine aS (λ q=>Bool.noConfusion (c1.symm.trans q)) (λ _=>?_)
 (conv=>whnf)
 refine eD (ct:=[]) eX dk hm (λ g1=>⟨[(0,aT l_),(27,ak r_.bC),(28,iV (r_.bC.length:Int)),(29,iV (0:Int))],[],0⟩) [] [] ⟨rfl,⟨sr,sr,r2,r2,trivial⟩,trivial⟩ ?_
 intro ah g1 hm
 (conv=>whnf)
 have c3:=hm.1
 have hm:=hm.2
 refine aS (λ q=>Bool.noConfusion (c3.symm.trans q)) (λ _=>?_)
 (conv=>whnf)
 have hm:r=true:=hm
 subst hm
 refine ⟨[],[],?_⟩
 (conv=>whnf)
 exact ⟨⟨rfl,trivial,trivial⟩,rfl⟩
theorem yQ {s_:List bU} {f_:List aC} {r:Int} (hm:rT s_ f_ r):S 220 [fF s_,.fn 157 [.ro [aT f_]]] [] (iV r) [] :=sp Tryz.func220 rfl<|l0 hm (λ g1=>⟨[(0,fF s_),(1,.fn 157 [.ro [aT f_]]),(7,iV (s_.length:Int)),(8,iV (0:Int))],[],0⟩) <|λ ah g1 hm=>by
 have c2:=hm.1
 have hm:=hm.2
 refine aS (λ q=>Bool.noConfusion (c2.symm.trans q)) (λ _=>?_)
 (conv=>whnf)
 have hm:r=(-1:Int):=hm
 subst hm
 refine ⟨[],[],?_⟩
 (conv=>whnf)
 exact ⟨⟨rfl,trivial,trivial⟩,r2⟩
theorem vT {s_:List bU} {f_:List aC} (hm:pz s_ f_ r):S 156 [fF s_,.fn 157 [.ro [aT f_]]] [] (.bool r) [] :=sp Tryz.func156 rfl<|sq hm yQ λ v1 hm=>by cases hm;exact re
variable {d_:List bU}
theorem DL {l_:List aC} (hm:GK l_ d_ r):S 90 [aT l_,fF d_] [] (.bool r) [] :=sp Tryz.func90 rfl<|sq hm pJ λ v1 hm=>sb hm λ v2 hv2 hm=>cl (λ q0=>(vT (hv2 q0)))<|by cases hm;exact re
theorem nH {s_:List aC} {r:List aC} (hm:l5 s_ r):S 221 [aT s_] [] (.fn 252 [.ro [aT r]]) [] :=by
 have hm:r=s_:=hm
 subst hm
 exact YW r
theorem SA {l_:List aC} {r:List Bool} (hm:TM l_ d_ r):S 159 [aT l_,fF d_] [] (av r) [] :=ZQ [11] Tryz.func159 rfl<|sn hm λ _ hm=>U5 [11] hm (λ g1=>⟨[(0,aT l_),(5,.ptr 0 0 0),(13,fF d_),(14,iV (d_.length:Int)),(15,iV g1.1)],[(0,some (.box [.dF 1 0 g1.2.length false])),(1,some (.row 1 g1.2.length (bA AV.bool false g1.2)))],2⟩) [(0,some 32),(1,some 24)] [] <|λ ah g1 hm=>si hm (λ _ hm=>s2 hm λ _ _ hm=>sn hm λ _ hm=>le hm) λ _ hm=>sq hm nH λ v1 hm=>by
 have h11:=hm.1
 have hm:=hm.2
 refine Zi (ct:=[11]) (ct':=[11]) eX dk dk dk dk (ZP v1 h11) rfl (by intro v hv; simp at hv; exact ⟨_,hv⟩) hm (λ g2=>⟨[(5,.ptr 0 0 0),(25,.fn 252 [.ro [aT v1]])],[(0,some (.box [.dF 1 0 g2.length false])),(1,some (.row 1 g2.length (bA AV.bool false g2)))],2⟩) (λ k2 g2=>⟨[(5,.ptr 0 0 0),(8,iV ((v1.length - 1 - k2:Nat):Int)),(9,.ptr 2 0 0)],[(0,some (.box [.dF 1 0 g2.length false])),(1,some (.row 1 g2.length (bA AV.bool false g2))),(2,some (.box [iV ((v1.getD (v1.length - 1 - k2) aH).bG),ak ((v1.getD (v1.length - 1 - k2) aH).dV),iV ((v1.getD (v1.length - 1 - k2) aH).iZ),iV ((v1.getD (v1.length - 1 - k2) aH).jk),.bool ((v1.getD (v1.length - 1 - k2) aH).gY)]))],3⟩) (λ _ _=>r2) [] ⟨rfl,⟨r4,⟨rfl,Pk.refl _,trivial⟩,trivial⟩,⟨⟨⟨rfl,rfl,rfl,rfl,nofun⟩,trivial⟩,⟨rfl,rfl,(λ _ _=>.refl _)⟩,trivial⟩⟩ ?_ ?_ ?_
 ·intro k2 ll g2 hk
  refine ⟨Nat.le_of_ble_eq_true rfl,?_⟩
  (conv=>whnf)
  exact ⟨[(2,some 10)],⟨rfl,⟨r4,r2,r4,trivial⟩,⟨⟨⟨rfl,rfl,rfl,rfl,nofun⟩,trivial⟩,⟨rfl,rfl,(λ _ _=>.refl _)⟩,⟨r2,sr,r2,r2,rfl,trivial⟩,trivial⟩⟩⟩
 ·intro k2 ll dR g2 hk hm
  (conv=>whnf)
  refine TI (ct:=[11]) eX dk dk (Ij v1 dR k2) r (λ g5=>⟨[(5,.ptr 0 0 0),(8,iV ((v1.length - 1 - k2:Nat):Int)),(9,.ptr 2 0 0)],[(0,some (.box [.dF 1 0 g5.length false])),(1,some (.row 1 g5.length (bA AV.bool false g5))),(2,some (.box [iV ((v1.getD (v1.length - 1 - k2) aH).bG),ak ((v1.getD (v1.length - 1 - k2) aH).dV),iV ((v1.getD (v1.length - 1 - k2) aH).iZ),iV ((v1.getD (v1.length - 1 - k2) aH).jk),.bool ((v1.getD (v1.length - 1 - k2) aH).gY)]))],3⟩) ?_ (λ g5 hm=>?_)
  ·(conv=>whnf)
   refine aN hm λ h28 hm=>?_
   (conv=>whnf)
   refine aN hm λ h29 hm=>?_
   (conv=>whnf)
   exact ⟨(g2.set (((v1.length - 1 - k2:Nat):Int).toNat) ((g2.getD (((v1.length - 1 - k2:Nat):Int).toNat) false)||(v1.getD (v1.length - 1 - k2) aH).gY)),[],[],hm,⟨rfl,⟨r4,r2,r4,trivial⟩,⟨⟨⟨rfl,rfl,rfl,oz,nofun⟩,trivial⟩,⟨rfl,oz,(Vz (λ _ _=>.refl _) rfl (.refl _))⟩,⟨r2,sr,r2,r2,rfl,trivial⟩,trivial⟩⟩⟩
  ·(conv=>whnf)
   refine aN hm λ h26 hm=>?_
   (conv=>whnf)
   refine jq hm (λ c6 hm=>?_) (λ c6 hm=>?_)
   ·(conv=>whnf)
    refine aN hm λ h27 hm=>?_
    (conv=>whnf)
    exact ⟨(g5.set (((v1.getD (v1.length - 1 - k2) aH).bG).toNat) true),[],hm,⟨rfl,⟨r4,⟨rfl,Pk.refl _,trivial⟩,trivial⟩,⟨⟨⟨rfl,rfl,rfl,oz,nofun⟩,trivial⟩,⟨rfl,oz,(Vz (λ _ _=>.refl _) rfl (.refl _))⟩,trivial⟩⟩⟩
   ·(conv=>whnf)
    exact ⟨g5,[],hm,⟨rfl,⟨r4,⟨rfl,Pk.refl _,trivial⟩,trivial⟩,⟨⟨⟨rfl,rfl,rfl,rfl,nofun⟩,trivial⟩,⟨rfl,rfl,(λ _ _=>.refl _)⟩,trivial⟩⟩⟩
 ·intro g2 hm
  (conv=>whnf)
  have hm:r=g2:=hm
  subst hm
  refine ⟨[1],[],?_⟩
  (conv=>whnf)
  exact ⟨⟨rfl,trivial,trivial⟩,sf⟩
theorem QX {l_:List aC} {r:List Int} (hm:PO l_ d_ r):S 160 [aT l_,fF d_] [] (ak r) [] :=sp Tryz.func160 rfl<|sn hm λ _ hm=>lf hm (λ g1=>⟨[(0,aT l_),(5,.ptr 0 0 0),(13,fF d_),(14,iV (d_.length:Int)),(15,iV g1.1)],[(0,some (.box [.dF 1 0 g1.2.length false])),(1,some (.row 1 g1.2.length (bA iV 0 g1.2)))],2⟩) [(0,some 32),(1,some 24)] [] <|λ ah g1 hm=>si hm (λ _ hm=>s2 hm λ _ _ hm=>s2 hm λ _ _ hm=>sn hm λ _ hm=>le hm) λ _ hm=>sq hm nH λ v1 hm=>by
 have h17:=hm.1
 have hm:=hm.2
 refine Zi (ct:=[]) (ct':=[]) eX dk dk dk dk (ZP v1 h17) rfl (by intro v hv; simp at hv; exact ⟨_,hv⟩) hm (λ g2=>⟨[(5,.ptr 0 0 0),(30,.fn 252 [.ro [aT v1]])],[(0,some (.box [.dF 1 0 g2.length false])),(1,some (.row 1 g2.length (bA iV 0 g2)))],2⟩) (λ k2 g2=>⟨[(5,.ptr 0 0 0),(8,iV ((v1.length - 1 - k2:Nat):Int)),(9,.ptr 2 0 0)],[(0,some (.box [.dF 1 0 g2.length false])),(1,some (.row 1 g2.length (bA iV 0 g2))),(2,some (.box [iV ((v1.getD (v1.length - 1 - k2) aH).bG),ak ((v1.getD (v1.length - 1 - k2) aH).dV),iV ((v1.getD (v1.length - 1 - k2) aH).iZ),iV ((v1.getD (v1.length - 1 - k2) aH).jk),.bool ((v1.getD (v1.length - 1 - k2) aH).gY)]))],3⟩) (λ _ _=>r2) [] ⟨rfl,⟨r4,⟨rfl,Pk.refl _,trivial⟩,trivial⟩,⟨⟨⟨rfl,rfl,rfl,rfl,nofun⟩,trivial⟩,⟨rfl,rfl,(λ _ _=>.refl _)⟩,trivial⟩⟩ ?_ ?_ ?_
 ·intro k2 ll g2 hk
  refine ⟨Nat.le_of_ble_eq_true rfl,?_⟩
  (conv=>whnf)
  exact ⟨[(2,some 10)],⟨rfl,⟨r4,r2,r4,trivial⟩,⟨⟨⟨rfl,rfl,rfl,rfl,nofun⟩,trivial⟩,⟨rfl,rfl,(λ _ _=>.refl _)⟩,⟨r2,sr,r2,r2,rfl,trivial⟩,trivial⟩⟩⟩
 ·intro k2 ll dR g2 hk hm
  (conv=>whnf)
  refine jq hm (λ c6 hm=>?_) (λ c6 hm=>?_)
  ·(conv=>whnf)
   refine aN hm λ h26 hm=>?_
   (conv=>whnf)
   refine aN hm λ h27 hm=>?_
   (conv=>whnf)
   refine aN hm λ h28 hm=>?_
   (conv=>whnf)
   refine aN hm λ h29 hm=>?_
   (conv=>whnf)
   exact ⟨(g2.set (((v1.getD (v1.length - 1 - k2) aH).bG).toNat) ((g2.getD (((v1.getD (v1.length - 1 - k2) aH).bG).toNat) 0)+(g2.getD (((v1.length - 1 - k2:Nat):Int).toNat) 0))),[],hm,⟨rfl,⟨r4,⟨rfl,Pk.refl _,trivial⟩,trivial⟩,⟨⟨⟨rfl,rfl,rfl,oz,nofun⟩,trivial⟩,⟨rfl,oz,(Vz (λ _ _=>.refl _) rfl (.refl _))⟩,trivial⟩⟩⟩
  ·(conv=>whnf)
   exact ⟨g2,[],hm,⟨rfl,⟨r4,⟨rfl,Pk.refl _,trivial⟩,trivial⟩,⟨⟨⟨rfl,rfl,rfl,rfl,nofun⟩,trivial⟩,⟨rfl,rfl,(λ _ _=>.refl _)⟩,trivial⟩⟩⟩
 ·intro g2 hm
  (conv=>whnf)
  have hm:r=g2:=hm
  subst hm
  refine ⟨[1],[],?_⟩
  (conv=>whnf)
  exact ⟨⟨rfl,trivial,trivial⟩,sf⟩
theorem vU {s_:List bU} {D9:List aC} {Cu:List Bool} {Ea:List Int} {r:Int} (hm:pE s_ D9 Cu Ea r):S 220 [fF s_,.fn 161 [.ro [aT D9],.ro [av Cu,ak Ea]]] [] (iV r) [] :=sp Tryz.func220 rfl<|l0 hm (λ g1=>⟨[(0,fF s_),(1,.fn 161 [.ro [aT D9],.ro [av Cu,ak Ea]]),(7,iV (s_.length:Int)),(8,iV (0:Int))],[],0⟩) <|λ ah g1 hm=>by
 have c2:=hm.1
 have hm:=hm.2
 refine aS (λ q=>Bool.noConfusion (c2.symm.trans q)) (λ _=>?_)
 (conv=>whnf)
 have hm:r=(-1:Int):=hm
 subst hm
 refine ⟨[],[],?_⟩
 (conv=>whnf)
 exact ⟨⟨rfl,trivial,trivial⟩,r2⟩
theorem sM {s_:List bU} {D9:List aC} {Cu:List Bool} {Ea:List Int} (hm:mI s_ D9 Cu Ea r):S 156 [fF s_,.fn 161 [.ro [aT D9],.ro [av Cu,ak Ea]]] [] (.bool r) [] :=sp Tryz.func156 rfl<|sq hm vU λ v1 hm=>by cases hm;exact re
theorem vV {l_:List aC} (hm:zZ l_ r_ d_ r):S 91 [aT l_,kH r_,fF d_] [] (.bool r) [] :=sp Tryz.func91 rfl<|sq hm DK λ v1 hm=>sb hm λ v2 hv2 hm=>cl (λ q0=>(DL (hv2 q0)))<|by
 have c1:=hm.1
 have hm:=hm.2
 refine aS (λ q=>Bool.noConfusion (c1.symm.trans q)) (λ _=>?_)
 (conv=>whnf)
 refine bF hm λ v3 hv3 hm=>?_
 refine ⟨_,_,(SA hv3),?_⟩
 (conv=>whnf)
 refine bF hm λ v4 hv4 hm=>?_
 refine ⟨_,_,(QX hv4),?_⟩
 (conv=>whnf)
 refine eD (ct:=[]) eX dk hm (λ g1=>⟨[(2,fF d_),(3,.ptr 0 0 0),(4,.ptr 1 0 0),(7,av v3),(8,ak v4),(28,aT l_),(29,iV (l_.length:Int)),(30,iV (0:Int))],[(0,some (.box [aT l_])),(1,some (.box [av r_.On,ak r_.bC]))],2⟩) [(1,some 8)] [] ⟨rfl,⟨sr,r4,r4,sr,sr,sr,r2,r2,trivial⟩,⟨⟨sr,trivial⟩,⟨sr,sr,trivial⟩,trivial⟩⟩ ?_
 intro ah g1 hm
 (conv=>whnf)
 have c3:=hm.1
 have hm:=hm.2
 refine aS (λ q=>Bool.noConfusion (c3.symm.trans q)) (λ _=>?_)
 (conv=>whnf)
 refine bF hm λ v5 hv5 hm=>?_
 refine ⟨_,_,(sM hv5),?_⟩
 (conv=>whnf)
 have hm:r=(!v5):=hm
 subst hm
 refine ⟨[],[],?_⟩
 (conv=>whnf)
 exact ⟨⟨rfl,trivial,trivial⟩,rfl⟩
theorem CO {s_:iL} (hm:yt s_ r):S 177 [GD s_] [] (.bool r) [] :=sp Tryz.func177 rfl<|lf hm (λ g1=>⟨[(1,.ptr 0 0 0),(3,.dF 1 0 g1.2.length false),(7,ak s_.dH),(8,iV (s_.dH.length:Int)),(9,iV g1.1)],[(0,some (.box [aU s_.bZ.bT,aT s_.bZ.bD,iV s_.bZ.aQ.dz,aX s_.bZ.aQ.aG,bV s_.bZ.bf,bI s_.bZ.bO,dB s_.iH,ak s_.dH,ak s_.bW.Setting,av s_.bW.aY.On,ak s_.bW.aY.bC,bn s_.bW.Uses,av s_.bW.Released,av s_.bW.bq,.bool s_.mH])),(1,some (.row 4 g1.2.length (bA Ka eP g1.2)))],2⟩) [(1,none)] [] <|λ ah g1 hm=>si hm (λ _ hm=>s2 hm λ _ _ hm=>s2 hm λ _ _ hm=>lc [(1,some 90)] [] hm) λ _ hm=>sq hm L6 λ v1 hm=>sq hm vV λ v2 hm=>by cases hm;exact re
theorem SB {p_:bL} {l_:List gM} {r:((Nat→Int)×Int)} (hm:TN p_ l_ r):S 260 [nO p_,PN l_] [] (.jM [alx r.1,iV r.2]) [] :=sp Tryz.func260 rfl<|lf hm (λ g1=>⟨[(1,PN l_),(2,.ptr 0 0 0),(4,.ptr 1 0 0),(6,.ptr 2 0 0),(13,iV g1.1)],[(0,some (.box [iV p_.dz,aX p_.aG])),(1,some (.row 1 64 (MQ iV g1.2.1))),(2,some (.row 1 64 (MQ iV g1.2.2)))],3⟩) [(1,some 8),(2,some 24)] [] <|λ ah g1 hm=>si hm (λ _ hm=>s2 hm λ _ _ hm=>le hm) λ _ hm=>sq hm Jv λ v1 hm=>by
 have c3:=hm.1
 have hm:=hm.2
 refine aS (λ q=>Bool.noConfusion (c3.symm.trans q)) (λ _=>?_)
 (conv=>whnf)
 refine aN hm λ h7 hm=>?_
 (conv=>whnf)
 refine eD (ct:=[]) eX dk hm (λ g2=>⟨[(2,.ptr 0 0 0),(4,.ptr 1 0 0),(6,.ptr 2 0 0),(8,.dF 3 0 g2.length false),(27,PN l_),(28,iV (l_.length:Int)),(29,iV (0:Int))],[(0,some (.box [iV p_.dz,aX p_.aG])),(1,some (.row 1 64 (MQ iV g1.2.1))),(2,some (.row 1 64 (MQ iV g1.2.2))),(3,some (.row 1 g2.length (bA AV.bool false g2)))],4⟩) [(3,some 59)] [] ⟨rfl,⟨r4,r4,r4,⟨rfl,rfl,rfl,oz,nofun⟩,sr,r2,r2,trivial⟩,⟨⟨r2,sr,trivial⟩,⟨rfl,rfl,(λ _ _=>.refl _)⟩,⟨rfl,rfl,(λ _ _=>.refl _)⟩,⟨rfl,oz,(PK AV.bool false)⟩,trivial⟩⟩ ?_
 intro dR g2 hm
 (conv=>whnf)
 have c5:=hm.1
 have hm:=hm.2
 refine aS (λ q=>Bool.noConfusion (c5.symm.trans q)) (λ _=>?_)
 (conv=>whnf)
 have hm:r=(g1.2.2,(0:Int)):=hm
 subst hm
 refine ⟨[],[],?_⟩
 (conv=>whnf)
 exact ⟨⟨rfl,trivial,trivial⟩,⟨WA (.refl _) rfl (Nat.lt_of_sub_pos (by exact Nat.zero_lt_succ _)),r2,trivial⟩⟩
theorem EB {s_:Nat} {bX:List Int} {r:List Int} (hm:zx s_ bX r):S 163 [.dF 0 0 s_ false] [.row 1 bX.length (bA iV 0 bX)] (.dF 1 0 r.length false) [.row 1 bX.length (bA iV 0 bX),.row 1 r.length (bA iV 0 r)] :=by
 obtain ⟨⟨h0,h1⟩,hm⟩:=hm
 have hm:r=bX.take s_:=hm
 have hl:r.length=s_:=by rw [hm,List.length_take]; omega
 refine tC (ct:=[1]) eX Tryz.func163 rfl rfl (Nat.le_of_ble_eq_true rfl) dk (Nat.le_of_ble_eq_true rfl) ?_
 (conv=>whnf)
 refine aeC (ct:=[]) eX (eX.slice (t:=22) (e:=3) rfl rfl rfl).1 dk dk dk dk dk [(2,.sl 0 0 true cK),(0,.dF 0 0 s_ false)] [(0,some (.row 1 bX.length (bA iV 0 bX)))] 9 rfl rfl ?_ (λ hn=>?_) ?_
 ·exact rfl
 ·(conv=>whnf)
  have hn:r.length=0:=hl.trans hn
  refine ⟨[],[(1,none)],?_⟩
  (conv=>whnf)
  exact ⟨⟨rfl,trivial,⟨⟨rfl,rfl,λ _ _=>.refl _⟩,hn,trivial⟩⟩,⟨rfl,rfl,rfl,rfl,rfl,hn⟩⟩
 ·(conv=>whnf)
  refine ⟨by rw [Nat.zero_add]; exact h1,?_⟩
  (conv=>whnf)
  refine ⟨[],[(1,some 25)],?_⟩
  (conv=>whnf)
  subst hm
  exact ⟨⟨rfl,trivial,⟨⟨rfl,rfl,λ _ _=>.refl _⟩,⟨rfl,(Nat.zero_add _).trans hl.symm,iP (l:=[]) rfl (λ _ h=>absurd h (Nat.not_lt_zero _)) hl.symm (iG (f:=iV) (d:=0) h0)⟩,trivial⟩⟩,⟨rfl,rfl,rfl,(Nat.zero_add _).trans hl.symm,nofun⟩⟩
theorem SC {p_:bL} {l_:List gM} {r:List Int×Int} (hm:TP p_ l_ r):S 233 [nO p_,PN l_] [] (.jM [ak r.1,iV r.2]) [] :=ZQ [4,6] Tryz.func233 rfl<|sq hm SB λ v1 hm=>ck [4,6] (Ki p_) r (λ g1=>⟨[(2,.ptr 0 0 0),(6,.ptr 1 0 0)],[(0,some (.box [iV p_.dz,aX p_.aG])),(1,some (.row 1 64 (MQ iV g1)))],2⟩) (by
 have c2:=hm.1
 have hm:=hm.2
 refine aS (λ q=>Bool.noConfusion (c2.symm.trans q)) (λ _=>?_)
 (conv=>whnf)
 exact ⟨v1.1,[(1,some 72)],[],hm,⟨rfl,⟨r4,r4,trivial⟩,⟨⟨r2,sr,trivial⟩,⟨rfl,rfl,(Zg (f:=iV) (X:=v1.1) (n:=64) (λ _=>rfl))⟩,trivial⟩⟩⟩) λ g1 hm=>sn hm λ _ hm=>sb hm λ v2 hv2 hm=>cl ((EB hv2).le ⟨.refl _,trivial⟩ ⟨⟨rfl,oz,(alu (f:=iV) (X:=g1))⟩,trivial⟩)<|by cases hm;exact rt [26] []
theorem JI {s_:iL} (hm:EX s_ r):S 178 [GD s_] [] (.bool r) [] :=sp Tryz.func178 rfl<|l0 hm (λ g1=>⟨[(1,.ptr 0 0 0),(3,.sl 0 0 true cK),(10,bn s_.bW.Uses),(11,iV (s_.bW.Uses.length:Int)),(12,iV (0:Int))],[(0,some (.box [aU s_.bZ.bT,aT s_.bZ.bD,iV s_.bZ.aQ.dz,aX s_.bZ.aQ.aG,bV s_.bZ.bf,bI s_.bZ.bO,dB s_.iH,ak s_.dH,ak s_.bW.Setting,av s_.bW.aY.On,ak s_.bW.aY.bC,bn s_.bW.Uses,av s_.bW.Released,av s_.bW.bq,.bool s_.mH]))],1⟩) <|λ ah g1 hm=>by
 have c2:=hm.1
 have hm:=hm.2
 refine aS (λ q=>Bool.noConfusion (c2.symm.trans q)) (λ _=>?_)
 (conv=>whnf)
 refine bF hm λ v1 hv1 hm=>?_
 refine ⟨_,_,((SC hv1).le ⟨.refl _,(.sl rfl (λ h=>absurd rfl h) nofun (λ _ h=>absurd h (Nat.not_lt_zero _))),trivial⟩ trivial),?_⟩
 (conv=>whnf)
 have hm:r=(v1.2==(0:Int)):=hm
 subst hm
 refine ⟨[],[],?_⟩
 (conv=>whnf)
 exact ⟨⟨rfl,trivial,trivial⟩,rfl⟩
theorem Ca {s_:iL} (hm:wE s_ r):S 179 [GD s_] [] (.bool r) [] :=sp Tryz.func179 rfl<|l0 hm (λ g1=>⟨[(1,.ptr 0 0 0),(11,ak s_.dH),(12,iV (s_.dH.length:Int)),(13,iV g1)],[(0,some (.box [aU s_.bZ.bT,aT s_.bZ.bD,iV s_.bZ.aQ.dz,aX s_.bZ.aQ.aG,bV s_.bZ.bf,bI s_.bZ.bO,dB s_.iH,ak s_.dH,ak s_.bW.Setting,av s_.bW.aY.On,ak s_.bW.aY.bC,bn s_.bW.Uses,av s_.bW.Released,av s_.bW.bq,.bool s_.mH]))],1⟩) <|λ ah g1 hm=>si hm (λ _ hm=>sn hm λ _ hm=>lf hm (λ g6=>⟨[(1,.ptr 0 0 0),(4,iV (s_.dH.getD g1.toNat 0)),(5,.mref 1),(11,ak s_.dH),(12,iV (s_.dH.length:Int)),(13,iV g1),(20,bn s_.bW.Uses),(21,iV (s_.bW.Uses.length:Int)),(22,iV (0:Int))],[(0,some (.box [aU s_.bZ.bT,aT s_.bZ.bD,iV s_.bZ.aQ.dz,aX s_.bZ.aQ.aG,bV s_.bZ.bf,bI s_.bZ.bO,dB s_.iH,ak s_.dH,ak s_.bW.Setting,av s_.bW.aY.On,ak s_.bW.aY.bC,bn s_.bW.Uses,av s_.bW.Released,av s_.bW.bq,.bool s_.mH])),(1,some (.map .str [(.int .i64)] (λ _=>none)))],2⟩) [(1,some 33)] [] <|λ jE g6 hm=>by
 have c13:=hm.1
 have hm:=hm.2
 refine aS (λ q=>Bool.noConfusion (c13.symm.trans q)) (λ _=>?_)
 (conv=>whnf)
 refine aN hm λ h8 hm=>?_
 (conv=>whnf)
 refine eD (ct:=[]) eX dk hm (λ g7=>⟨[(1,.ptr 0 0 0),(5,.mref 1),(11,ak s_.dH),(12,iV (s_.dH.length:Int)),(13,iV g1),(54,iU ((s_.iH.getD ((s_.dH.getD g1.toNat 0).toNat) dh).aI)),(55,iV ((((s_.iH.getD ((s_.dH.getD g1.toNat 0).toNat) dh).aI).length:Nat):Int)),(56,iV (0:Int))],[(0,some (.box [aU s_.bZ.bT,aT s_.bZ.bD,iV s_.bZ.aQ.dz,aX s_.bZ.aQ.aG,bV s_.bZ.bf,bI s_.bZ.bO,dB s_.iH,ak s_.dH,ak s_.bW.Setting,av s_.bW.aY.On,ak s_.bW.aY.bC,bn s_.bW.Uses,av s_.bW.Released,av s_.bW.bq,.bool s_.mH])),(1,some (.map .str [(.int .i64)] (λ _=>none)))],2⟩) [] [] ⟨rfl,⟨r4,r2,sr,r2,r2,sr,r2,r2,trivial⟩,⟨⟨sr,sr,r2,sr,sr,sr,sr,sr,sr,sr,sr,sr,sr,sr,rfl,trivial⟩,⟨rfl,rfl,rfl⟩,trivial⟩⟩ ?_
 intro ou g7 hm
 (conv=>whnf)
 have c15:=hm.1
 have hm:=hm.2
 refine aS (λ q=>Bool.noConfusion (c15.symm.trans q)) (λ _=>?_)
 (conv=>whnf)
 refine aN hm λ h9 hm=>?_
 (conv=>whnf)
 exact ⟨(g1+(1:Int)),[],[],hm,⟨rfl,⟨r4,sr,r2,r2,trivial⟩,⟨⟨sr,sr,r2,sr,sr,sr,sr,sr,sr,sr,sr,sr,sr,sr,rfl,trivial⟩,trivial⟩⟩⟩) λ _ hm=>by cases hm;exact re
theorem QY {l_:List eu} {fB:List Bool} (hm:PS l_ fB r):S 261 [bV l_,av fB] [] (.bool r) [] :=sp Tryz.func261 rfl<|by
 have c1:=hm.1
 have hm:=hm.2
 refine aS (λ q=>Bool.noConfusion (c1.symm.trans q)) (λ _=>?_)
 (conv=>whnf)
 refine eD (ct:=[]) eX dk hm (λ g1=>⟨[(1,av fB),(14,bV l_),(15,iV (l_.length:Int)),(16,iV g1)],[],0⟩) [] [] ⟨rfl,⟨sr,sr,r2,r2,trivial⟩,trivial⟩ ?_
 intro ah g1 hm
 (conv=>whnf)
 refine jq hm (λ c8 hm=>?_) (λ c8 hm=>?_)
 ·(conv=>whnf)
  refine aN hm λ h5 hm=>?_
  (conv=>whnf)
  refine eD (ct:=[]) eX dk hm (λ g4=>⟨[(1,av fB),(5,iV g1),(14,bV l_),(15,iV (l_.length:Int)),(16,iV g1),(22,ak ((l_.getD g1.toNat eU).fV)),(23,iV ((((l_.getD g1.toNat eU).fV).length:Nat):Int)),(24,iV (0:Int))],[],0⟩) [] [] ⟨rfl,⟨sr,r2,sr,r2,r2,sr,r2,r2,trivial⟩,trivial⟩ ?_
  intro kE g4 hm
  (conv=>whnf)
  have c10:=hm.1
  have hm:=hm.2
  refine aS (λ q=>Bool.noConfusion (c10.symm.trans q)) (λ _=>?_)
  (conv=>whnf)
  refine aN hm λ h6 hm=>?_
  (conv=>whnf)
  exact ⟨(g1+(1:Int)),[],[],hm,⟨rfl,⟨sr,sr,r2,r2,trivial⟩,trivial⟩⟩
 ·(conv=>whnf)
  have hm:r=true:=hm
  subst hm
  refine ⟨[],[],?_⟩
  (conv=>whnf)
  exact ⟨⟨rfl,trivial,trivial⟩,rfl⟩
theorem QZ {l_:List eu} {fB:List Bool} (hm:PU l_ fB r):S 234 [bV l_,av fB] [] (.bool r) [] :=sp Tryz.func234 rfl<|sq hm FU λ v1 hm=>sb hm λ v2 hv2 hm=>cl (λ q0=>(QY (hv2 q0)))<|by cases hm;exact re
variable {D9:List ay} {Cu:List aC} {Ea:Int} {X6:List dD} {X7:List eu} {X8:List dG} {X9:List aO} {Ya:List Int} {Yb:List Int} {Yc:List Bool} {Cw:List Int} {Cx:List au} {Cy:List Bool} {Cz:List Bool} {CB:Bool}
theorem zo {r:Int} (hm:uo s_ D9 Cu Ea X6 X7 X8 X9 Ya Yb Yc Cw Cx Cy Cz CB r):S 262 [ak s_,.fn 236 [.ro [aU D9,aT Cu,iV Ea,aX X6,bV X7,bI X8,dB X9,ak Ya,ak Yb,av Yc,ak Cw,bn Cx,av Cy,av Cz,.bool CB]]] [] (iV r) [] :=sp Tryz.func262 rfl<|l0 hm (λ g1=>⟨[(0,ak s_),(1,.fn 236 [.ro [aU D9,aT Cu,iV Ea,aX X6,bV X7,bI X8,dB X9,ak Ya,ak Yb,av Yc,ak Cw,bn Cx,av Cy,av Cz,.bool CB]]),(7,iV (s_.length:Int)),(8,iV (0:Int))],[],0⟩) <|λ ah g1 hm=>by
 have c2:=hm.1
 have hm:=hm.2
 refine aS (λ q=>Bool.noConfusion (c2.symm.trans q)) (λ _=>?_)
 (conv=>whnf)
 have hm:r=(-1:Int):=hm
 subst hm
 refine ⟨[],[],?_⟩
 (conv=>whnf)
 exact ⟨⟨rfl,trivial,trivial⟩,r2⟩
theorem wz (hm:pW s_ D9 Cu Ea X6 X7 X8 X9 Ya Yb Yc Cw Cx Cy Cz CB r):S 235 [ak s_,.fn 236 [.ro [aU D9,aT Cu,iV Ea,aX X6,bV X7,bI X8,dB X9,ak Ya,ak Yb,av Yc,ak Cw,bn Cx,av Cy,av Cz,.bool CB]]] [] (.bool r) [] :=sp Tryz.func235 rfl<|sq hm zo λ v1 hm=>by cases hm;exact re
theorem F3 {s_:iL} (hm:Bd s_ r):S 180 [GD s_] [] (.bool r) [] :=sp Tryz.func180 rfl<|sq hm QZ λ v1 hm=>by
 have c1:=hm.1
 have hm:=hm.2
 refine aS (λ q=>Bool.noConfusion (c1.symm.trans q)) (λ _=>?_)
 (conv=>whnf)
 refine eD (ct:=[]) eX dk hm (λ g1=>⟨[(1,.ptr 0 0 0),(14,ak s_.dH),(15,iV (s_.dH.length:Int)),(16,iV g1)],[(0,some (.box [aU s_.bZ.bT,aT s_.bZ.bD,iV s_.bZ.aQ.dz,aX s_.bZ.aQ.aG,bV s_.bZ.bf,bI s_.bZ.bO,dB s_.iH,ak s_.dH,ak s_.bW.Setting,av s_.bW.aY.On,ak s_.bW.aY.bC,bn s_.bW.Uses,av s_.bW.Released,av s_.bW.bq,.bool s_.mH]))],1⟩) [] [] ⟨rfl,⟨r4,sr,r2,r2,trivial⟩,⟨⟨sr,sr,r2,sr,sr,sr,sr,sr,sr,sr,sr,sr,sr,sr,rfl,trivial⟩,trivial⟩⟩ ?_
 intro ah g1 hm
 (conv=>whnf)
 refine jq hm (λ c6 hm=>?_) (λ c6 hm=>?_)
 ·(conv=>whnf)
  refine aN hm λ h7 hm=>?_
  (conv=>whnf)
  refine aN hm λ h8 hm=>?_
  (conv=>whnf)
  refine bF hm λ v4 hv4 hm=>?_
  refine ⟨_,_,(wz hv4),?_⟩
  (conv=>whnf)
  have c7:=hm.1
  have hm:=hm.2
  refine aS (λ q=>Bool.noConfusion (c7.symm.trans q)) (λ _=>?_)
  (conv=>whnf)
  refine aN hm λ h9 hm=>?_
  (conv=>whnf)
  exact ⟨(g1+(1:Int)),[],[],hm,⟨rfl,⟨r4,sr,r2,r2,trivial⟩,⟨⟨sr,sr,r2,sr,sr,sr,sr,sr,sr,sr,sr,sr,sr,sr,rfl,trivial⟩,trivial⟩⟩⟩
 ·(conv=>whnf)
  have hm:r=true:=hm
  subst hm
  refine ⟨[],[],?_⟩
  (conv=>whnf)
  exact ⟨⟨rfl,trivial,trivial⟩,rfl⟩
theorem vW {l_:List dG} {xM:List Bool} (hm:z8 l_ xM r):S 106 [bI l_,av xM] [] (.bool r) [] :=sp Tryz.func106 rfl<|by
 have c1:=hm.1
 have hm:=hm.2
 refine aS (λ q=>Bool.noConfusion (c1.symm.trans q)) (λ _=>?_)
 (conv=>whnf)
 refine eD (ct:=[]) eX dk hm (λ g1=>⟨[(1,av xM),(12,bI l_),(13,iV (l_.length:Int)),(14,iV (0:Int))],[],0⟩) [] [] ⟨rfl,⟨sr,sr,r2,r2,trivial⟩,trivial⟩ ?_
 intro ah g1 hm
 (conv=>whnf)
 have c3:=hm.1
 have hm:=hm.2
 refine aS (λ q=>Bool.noConfusion (c3.symm.trans q)) (λ _=>?_)
 (conv=>whnf)
 have hm:r=true:=hm
 subst hm
 refine ⟨[],[],?_⟩
 (conv=>whnf)
 exact ⟨⟨rfl,trivial,trivial⟩,rfl⟩
theorem Q0 {l_:List dG} {xM:List Bool} (hm:PV l_ xM r):S 237 [bI l_,av xM] [] (.bool r) [] :=sp Tryz.func237 rfl<|sq hm vS λ v1 hm=>sb hm λ v2 hv2 hm=>cl (λ q0=>(vW (hv2 q0)))<|by cases hm;exact re
theorem Cb {m_:Int} {wU:List ay} {vo:List aC} {wV:Int} {EY:List dD} {wW:List eu} {Ed:List dG} {aax:List aO} {anX:List Int} {anY:List Int} {anZ:List Bool} {ai7:List Int} {ai8:List au} {ai9:List Bool} {acL:List Bool} {aja:Bool} (hm:wF m_ wU vo wV EY wW Ed aax anX anY anZ ai7 ai8 ai9 acL aja r):S 238 [iV m_,.ro [aU wU,aT vo,iV wV,aX EY,bV wW,bI Ed,dB aax,ak anX,ak anY,av anZ,ak ai7,bn ai8,av ai9,av acL,.bool aja]] [] (.bool r) [] :=sp Tryz.func238 rfl<|s2 hm λ _ _ hm=>by cases hm;exact re
theorem zq {r:Int} (hm:uq s_ D9 Cu Ea X6 X7 X8 X9 Ya Yb Yc Cw Cx Cy Cz CB r):S 262 [ak s_,.fn 238 [.ro [aU D9,aT Cu,iV Ea,aX X6,bV X7,bI X8,dB X9,ak Ya,ak Yb,av Yc,ak Cw,bn Cx,av Cy,av Cz,.bool CB]]] [] (iV r) [] :=sp Tryz.func262 rfl<|l0 hm (λ g1=>⟨[(0,ak s_),(1,.fn 238 [.ro [aU D9,aT Cu,iV Ea,aX X6,bV X7,bI X8,dB X9,ak Ya,ak Yb,av Yc,ak Cw,bn Cx,av Cy,av Cz,.bool CB]]),(7,iV (s_.length:Int)),(8,iV g1)],[],0⟩) <|λ ah g1 hm=>si hm (λ _ hm=>sn hm λ _ hm=>sq hm Cb λ v3 hm=>by
 have c6:=hm.1
 have hm:=hm.2
 refine aS (λ q=>Bool.noConfusion (c6.symm.trans q)) (λ _=>?_)
 (conv=>whnf)
 refine aN hm λ h6 hm=>?_
 (conv=>whnf)
 exact ⟨(g1+(1:Int)),[],[],hm,⟨rfl,⟨sr,⟨rfl,Pk.refl _,trivial⟩,r2,r2,trivial⟩,trivial⟩⟩) λ _ hm=>by cases hm;exact re
theorem wB (hm:pX s_ D9 Cu Ea X6 X7 X8 X9 Ya Yb Yc Cw Cx Cy Cz CB r):S 235 [ak s_,.fn 238 [.ro [aU D9,aT Cu,iV Ea,aX X6,bV X7,bI X8,dB X9,ak Ya,ak Yb,av Yc,ak Cw,bn Cx,av Cy,av Cz,.bool CB]]] [] (.bool r) [] :=sp Tryz.func235 rfl<|sq hm zq λ v1 hm=>by cases hm;exact re
theorem EC {s_:iL} (hm:zy s_ r):S 181 [GD s_] [] (.bool r) [] :=sp Tryz.func181 rfl<|sq hm Q0 λ v1 hm=>by
 have c1:=hm.1
 have hm:=hm.2
 refine aS (λ q=>Bool.noConfusion (c1.symm.trans q)) (λ _=>?_)
 (conv=>whnf)
 refine bF hm λ v2 hv2 hm=>?_
 refine ⟨_,_,(wB hv2),?_⟩
 (conv=>whnf)
 have hm:r=(!v2):=hm
 subst hm
 refine ⟨[],[],?_⟩
 (conv=>whnf)
 exact ⟨⟨rfl,trivial,trivial⟩,rfl⟩
theorem mW {s_:iL} {r:Int} (hm:nP s_ r):S 109 [GD s_] [] (iV r) [] :=sp Tryz.func109 rfl<|by
 refine TJ 9 ?_
 refine iT (ct:=[]) eX dk ?_
 (conv=>whnf)
 refine aN hm λ h1 hm=>?_
 (conv=>whnf)
 refine bF hm λ v1 hv1 hm=>?_
 refine ⟨_,_,(H6 hv1),?_⟩
 (conv=>whnf)
 have c1:=hm.1
 have hm:=hm.2
 refine aS (λ q=>Bool.noConfusion (c1.symm.trans q)) (λ _=>?_)
 (conv=>whnf)
 refine aN hm λ h2 hm=>?_
 (conv=>whnf)
 refine iT (ct:=[]) eX dk ?_
 (conv=>whnf)
 refine aN hm λ h3 hm=>?_
 (conv=>whnf)
 refine bF hm λ v2 hv2 hm=>?_
 refine ⟨_,_,(FX hv2),?_⟩
 (conv=>whnf)
 have c2:=hm.1
 have hm:=hm.2
 refine aS (λ q=>Bool.noConfusion (c2.symm.trans q)) (λ _=>?_)
 (conv=>whnf)
 refine aN hm λ h4 hm=>?_
 (conv=>whnf)
 refine iT (ct:=[]) eX dk ?_
 (conv=>whnf)
 refine aN hm λ h5 hm=>?_
 (conv=>whnf)
 refine bF hm λ v3 hv3 hm=>?_
 refine ⟨_,_,(FZ hv3),?_⟩
 (conv=>whnf)
 have c3:=hm.1
 have hm:=hm.2
 refine aS (λ q=>Bool.noConfusion (c3.symm.trans q)) (λ _=>?_)
 (conv=>whnf)
 refine aN hm λ h6 hm=>?_
 (conv=>whnf)
 refine iT (ct:=[]) eX dk ?_
 (conv=>whnf)
 refine aN hm λ h7 hm=>?_
 (conv=>whnf)
 refine bF hm λ v4 hv4 hm=>?_
 refine ⟨_,_,(CO hv4),?_⟩
 (conv=>whnf)
 have c4:=hm.1
 have hm:=hm.2
 refine aS (λ q=>Bool.noConfusion (c4.symm.trans q)) (λ _=>?_)
 (conv=>whnf)
 refine aN hm λ h8 hm=>?_
 (conv=>whnf)
 refine iT (ct:=[]) eX dk ?_
 (conv=>whnf)
 refine aN hm λ h9 hm=>?_
 (conv=>whnf)
 refine bF hm λ v5 hv5 hm=>?_
 refine ⟨_,_,(JI hv5),?_⟩
 (conv=>whnf)
 have c5:=hm.1
 have hm:=hm.2
 refine aS (λ q=>Bool.noConfusion (c5.symm.trans q)) (λ _=>?_)
 (conv=>whnf)
 refine aN hm λ h10 hm=>?_
 (conv=>whnf)
 refine iT (ct:=[]) eX dk ?_
 (conv=>whnf)
 refine aN hm λ h11 hm=>?_
 (conv=>whnf)
 refine bF hm λ v6 hv6 hm=>?_
 refine ⟨_,_,(Ca hv6),?_⟩
 (conv=>whnf)
 have c6:=hm.1
 have hm:=hm.2
 refine aS (λ q=>Bool.noConfusion (c6.symm.trans q)) (λ _=>?_)
 (conv=>whnf)
 refine aN hm λ h12 hm=>?_
 (conv=>whnf)
 refine iT (ct:=[]) eX dk ?_
 (conv=>whnf)
 refine aN hm λ h13 hm=>?_
 (conv=>whnf)
 refine bF hm λ v7 hv7 hm=>?_
 refine ⟨_,_,(F3 hv7),?_⟩
 (conv=>whnf)
 have c7:=hm.1
 have hm:=hm.2
 refine aS (λ q=>Bool.noConfusion (c7.symm.trans q)) (λ _=>?_)
 (conv=>whnf)
 refine aN hm λ h14 hm=>?_
 (conv=>whnf)
 refine iT (ct:=[]) eX dk ?_
 (conv=>whnf)
 refine aN hm λ h15 hm=>?_
 (conv=>whnf)
 refine bF hm λ v8 vZ hm=>?_
 refine ⟨_,_,(EC vZ),?_⟩
 (conv=>whnf)
 have c8:=hm.1
 have hm:=hm.2
 refine aS (λ q=>Bool.noConfusion (c8.symm.trans q)) (λ _=>?_)
 (conv=>whnf)
 refine aN hm λ h16 hm=>?_
 (conv=>whnf)
 refine iT (ct:=[]) eX dk ?_
 (conv=>whnf)
 have hm:r=(0:Int):=hm
 subst hm
 refine ⟨[],[],?_⟩
 (conv=>whnf)
 exact ⟨⟨rfl,trivial,trivial⟩,r2⟩
theorem Q5 {l_:List aO} {g_:aF} {gI:Bool} {r:Int} (hm:PW b_ l_ aj g_ gI r):S 150 [iM b_,dB l_,ak aj,gN g_,.bool gI] [] (iV r) [] :=sp Tryz.func150 rfl<|sq hm zn λ v1 hm=>by
 have c1:=hm.1
 have hm:=hm.2
 refine aS (λ q=>Bool.noConfusion (c1.symm.trans q)) (λ _=>?_)
 (conv=>whnf)
 refine bF hm λ v2 hv2 hm=>?_
 refine ⟨_,_,(mW hv2),?_⟩
 (conv=>whnf)
 have hm:r=v2:=hm
 subst hm
 refine ⟨[],[],?_⟩
 (conv=>whnf)
 exact ⟨⟨rfl,trivial,trivial⟩,r2⟩
theorem F4 {l_:List aO} {g_:aF} (hm:Kj b_ l_ aj g_ r):S 87 [iM b_,dB l_,ak aj,gN g_] [] (.bool r) [] :=sp Tryz.func87 rfl<|sq hm Q5 λ v1 hm=>by cases hm;exact re
theorem rG {l_:List au} {r:iJ→Option Int} (hm:vv l_ r):S 30 [bn l_] [] (.mref 0) [.map (.int .i64) [(.int .i64)] r] :=sp Tryz.func30 rfl<|lf hm (λ g1=>⟨[(3,.mref 0),(7,bn l_),(8,iV (l_.length:Int)),(9,iV (0:Int))],[(0,some (.map (.int .i64) [(.int .i64)] (λ _=>none)))],1⟩) [(0,some 8)] [] <|λ ah g1 hm=>by
 have c2:=hm.1
 have hm:=hm.2
 refine aS (λ q=>Bool.noConfusion (c2.symm.trans q)) (λ _=>?_)
 (conv=>whnf)
 have hm:r=(λ _=>none):=hm
 subst hm
 refine ⟨[],[],?_⟩
 (conv=>whnf)
 exact ⟨⟨rfl,trivial,⟨⟨rfl,rfl,rfl⟩,trivial⟩⟩,r2⟩
theorem OY {l_:List aO} {from_:aF} {dQ:aF} {iI:List Int} {r:Int} (hm:Nt b_ l_ from_ dQ iI r):S 29 [iM b_,dB l_,gN from_,gN dQ,ak iI] [] (iV r) [] :=sp Tryz.func29 rfl<|sq hm zn λ v1 hm=>by
 have c1:=hm.1
 have hm:=hm.2
 refine aS (λ q=>Bool.noConfusion (c1.symm.trans q)) (λ _=>?_)
 (conv=>whnf)
 refine eD (ct:=[]) eX dk hm (λ g1=>⟨[(1,dB l_),(4,ak iI),(5,.ptr 0 0 0),(7,.ptr 1 0 0),(8,.ptr 2 0 0),(25,ak iI),(26,iV (iI.length:Int)),(27,iV g1)],[(0,some (.box [aU b_.bT,aT b_.bD,iV b_.aQ.dz,aX b_.aQ.aG,bV b_.bf,bI b_.bO])),(1,some (.box [ak from_.Setting,av from_.aY.On,ak from_.aY.bC,bn from_.Uses,av from_.Released,av from_.bq])),(2,some (.box [ak dQ.Setting,av dQ.aY.On,ak dQ.aY.bC,bn dQ.Uses,av dQ.Released,av dQ.bq]))],3⟩) [(1,some 8),(2,some 16)] [] ⟨rfl,⟨sr,sr,r4,r4,r4,sr,r2,r2,trivial⟩,⟨⟨sr,sr,r2,sr,sr,sr,trivial⟩,⟨sr,sr,sr,sr,sr,sr,trivial⟩,⟨sr,sr,sr,sr,sr,sr,trivial⟩,trivial⟩⟩ ?_
 intro ah g1 hm
 (conv=>whnf)
 refine jq hm (λ c6 hm=>?_) (λ c6 hm=>?_)
 ·(conv=>whnf)
  refine aN hm λ h7 hm=>?_
  (conv=>whnf)
  refine aN hm λ h8 hm=>?_
  (conv=>whnf)
  refine bF hm λ v4 hv4 hm=>?_
  refine ⟨_,_,(λ q0=>((sK (hv4 q0)).le ⟨(.sl oz (λ _=>rfl) nofun (iG (f:=iV) (d:=0) (by first | omega | exact Nat.min_le_left _ _ | exact Nat.le_trans (Nat.min_le_left _ _) om | (simp; omega)))),.refl _,trivial⟩ trivial)),?_⟩
  (conv=>whnf)
  have c7:=hm.1
  have hm:=hm.2
  refine aS (λ q=>Bool.noConfusion (c7.symm.trans q)) (λ _=>?_)
  (conv=>whnf)
  refine aN hm λ h9 hm=>?_
  (conv=>whnf)
  exact ⟨(g1+(1:Int)),[],[],hm,⟨rfl,⟨sr,sr,r4,r4,r4,sr,r2,r2,trivial⟩,⟨⟨sr,sr,r2,sr,sr,sr,trivial⟩,⟨sr,sr,sr,sr,sr,sr,trivial⟩,⟨sr,sr,sr,sr,sr,sr,trivial⟩,trivial⟩⟩⟩
 ·(conv=>whnf)
  refine bF hm λ v5 hv5 hm=>?_
  refine ⟨_,_,(F4 hv5),?_⟩
  (conv=>whnf)
  refine bF hm λ v6 hv6 hm=>?_
  refine ⟨_,_,(λ q0=>(F4 (hv6 q0))),?_⟩
  (conv=>whnf)
  have c8:=hm.1
  have hm:=hm.2
  refine aS (λ q=>Bool.noConfusion (c8.symm.trans q)) (λ _=>?_)
  (conv=>whnf)
  refine bF hm λ v7 hv7 hm=>?_
  refine ⟨_,_,(rG hv7),?_⟩
  (conv=>whnf)
  refine eD (ct:=[]) eX dk hm (λ g2=>⟨[(4,ak iI),(8,.ptr 0 0 0),(14,.mref 1),(66,bn from_.Uses),(67,iV (from_.Uses.length:Int)),(68,iV (0:Int))],[(0,some (.box [ak dQ.Setting,av dQ.aY.On,ak dQ.aY.bC,bn dQ.Uses,av dQ.Released,av dQ.bq])),(1,some (.map (.int .i64) [(.int .i64)] v7))],2⟩) [(0,some 2),(1,some 139)] [] ⟨rfl,⟨sr,r4,r2,sr,r2,r2,trivial⟩,⟨⟨sr,sr,sr,sr,sr,sr,trivial⟩,⟨rfl,rfl,rfl⟩,trivial⟩⟩ ?_
  intro dR g2 hm
  (conv=>whnf)
  have c10:=hm.1
  have hm:=hm.2
  refine aS (λ q=>Bool.noConfusion (c10.symm.trans q)) (λ _=>?_)
  (conv=>whnf)
  have hm:r=(0:Int):=hm
  subst hm
  refine ⟨[],[],?_⟩
  (conv=>whnf)
  exact ⟨⟨rfl,trivial,trivial⟩,r2⟩
theorem jr {bX:List aD} {r:List aD} (hm:iA bX r):S 32 [.dF 0 0 bX.length false] [.row 3 bX.length (bA fG dJ bX)] (.jM []) [.row 3 r.length (bA fG dJ r)] :=sp Tryz.func32 rfl<|sn hm λ _ hm=>l0 hm (λ g1=>⟨[(0,.dF 0 0 g1.2.2.length false),(2,iV g1.1),(3,iV g1.2.1)],[(0,some (.row 3 g1.2.2.length (bA fG dJ g1.2.2)))],1⟩) <|λ ah g1 hm=>si hm (λ _ hm=>s2 hm λ _ _ hm=>s2 hm λ _ _ hm=>s2 hm λ _ _ hm=>le hm) λ _ hm=>by cases hm;exact re
variable {wU:List Int} {vo:List Bool} {wV:List Int} {EY:List au} {wW:List Bool} {Ed:List Bool} {Kk:List Int} {Kl:List Bool} {Km:List Int} {MV:List au} {Bh:List Bool} {Kn:List Bool}
theorem zQ {p8:Int} {r:List aD} (hm:Bj p8 wU vo wV EY wW Ed Kk Kl Km MV Bh Kn r):S 31 [iV p8,.ro [ak wU,av vo,ak wV,bn EY,av wW,av Ed],.ro [ak Kk,av Kl,ak Km,bn MV,av Bh,av Kn]] [] (fH r) [] :=sp Tryz.func31 rfl<|lf hm (λ g1=>⟨[(0,iV p8),(1,.ro [ak wU,av vo,ak wV,bn EY,av wW,av Ed]),(2,.ro [ak Kk,av Kl,ak Km,bn MV,av Bh,av Kn]),(5,.dF 0 0 g1.2.length false),(9,iV (wW.length:Int)),(10,iV g1.1)],[(0,some (.row 3 g1.2.length (bA fG dJ g1.2)))],1⟩) [(0,none)] [] <|λ ah g1 hm=>si hm (λ _ hm=>s2 hm λ _ _ hm=>sn hm λ _ hm=>si hm (λ _ hm=>s2 hm λ _ _ hm=>lc [(0,some 233)] [] hm) λ _ hm=>sn hm λ _ hm=>le hm) λ _ hm=>si hm (λ _ hm=>sq hm jr λ v1 hm=>by
 have h19:=hm.1
 have hm:=hm.2
 have hm:r=(v1.take (g1.2.length)):=hm
 subst hm
 refine ⟨[0],[],?_⟩
 (conv=>whnf)
 exact ⟨⟨rfl,trivial,trivial⟩,⟨oz,(λ _=>rfl),nofun,(iG (f:=fG) (d:=dJ) (by first | omega | exact Nat.min_le_left _ _ | exact Nat.le_trans (Nat.min_le_left _ _) om | (simp; omega)))⟩⟩) λ _ hm=>by cases hm;exact rt [0] []
theorem M9 {CF:List Int} {CG:List Bool} {Ee:List Int} {Ef:List au} {Eh:List Bool} {CJ:List Bool} {aay:List Int} {aaz:List Bool} {aaA:List Int} {aaB:List au} {P5:List Bool} {P6:List Bool} {r:List aD×Int} (hm:Ko CF CG Ee Ef Eh CJ aay aaz aaA aaB P5 P6 r):S 34 [.ro [.fn 31 [.ro [ak CF,av CG,ak Ee,bn Ef,av Eh,av CJ],.ro [ak aay,av aaz,ak aaA,bn aaB,av P5,av P6]]]] [] (.jM [fH r.1,iV r.2]) [] :=sp Tryz.func34 rfl<|sq hm zQ λ v1 hm=>by cases hm;exact re
theorem zR {some_:iJ→Option Int} {GL:iJ→Option Int} {afH:Int} {r:List aD} (hm:Bl some_ GL afH r):S 33 [.pm (.int .i64) [(.int .i64)] some_,.pm (.int .i64) [(.int .i64)] GL,iV afH] [] (fH r) [] :=sp Tryz.func33 rfl<|l0 hm (λ g1=>⟨[(0,.pm (.int .i64) [(.int .i64)] some_),(1,.pm (.int .i64) [(.int .i64)] GL),(2,iV afH),(7,.sl 0 0 true cK),(10,iV g1)],[],0⟩) <|λ ah g1 hm=>si hm (λ _ hm=>by
 have c5:=hm.1
 have hm:=hm.2
 refine aS (λ q=>Bool.noConfusion (c5.symm.trans q)) (λ _=>?_)
 (conv=>whnf)
 refine aN hm λ h3 hm=>?_
 (conv=>whnf)
 exact ⟨(g1+(1:Int)),[],[],hm,⟨rfl,⟨⟨rfl,rfl,rfl⟩,⟨rfl,rfl,rfl⟩,r2,sr,r2,trivial⟩,trivial⟩⟩) λ _ hm=>by cases hm;exact re
variable {a1_:iJ→Option Int} {a2_:iJ→Option Int}
theorem Na {r:List aD×Int} (hm:Kq a1_ a2_ r):S 35 [.ro [.fn 33 []],.ro [.pm (.int .i64) [(.int .i64)] a1_],.ro [.pm (.int .i64) [(.int .i64)] a2_]] [] (.jM [fH r.1,iV r.2]) [] :=sp Tryz.func35 rfl<|sq hm zR λ v1 hm=>by cases hm;exact re
theorem OZ {n_:aO} {r:List bU} (hm:Nu n_ r):S 97 [zw n_] [] (fF r) [] :=sp Tryz.func97 rfl<|by cases hm;exact re
theorem CP {l_:List aO} {r:List bU} (hm:yu l_ aj r):S 96 [dB l_,ak aj,.fn 97 []] [] (fF r) [] :=sp Tryz.func96 rfl<|lf hm (λ g1=>⟨[(0,dB l_),(2,.fn 97 []),(7,.dF 0 0 g1.2.length false),(10,ak aj),(11,iV (aj.length:Int)),(12,iV g1.1)],[(0,some (.row 4 g1.2.length (bA Ka eP g1.2)))],1⟩) [(0,none)] [] <|λ ah g1 hm=>si hm (λ _ hm=>sn hm λ _ hm=>by
 have c6:=hm.1
 have hm:=hm.2
 refine aS (λ _=>?_) (λ q=>Bool.noConfusion (q.symm.trans c6))
 (conv=>whnf)
 refine aN hm λ h10 hm=>?_
 (conv=>whnf)
 refine bF hm λ v3 hv3 hm=>?_
 refine ⟨_,_,(OZ hv3),?_⟩
 (conv=>whnf)
 refine aN hm λ h11 hm=>?_
 (conv=>whnf)
 refine aN hm λ h12 hm=>?_
 (conv=>whnf)
 exact ⟨((g1.1+(1:Int)),(g1.2++v3)),[(0,some 153)],[],hm,⟨rfl,⟨sr,⟨rfl,trivial⟩,⟨rfl,rfl,rfl,oz,nofun⟩,sr,r2,r2,trivial⟩,⟨⟨rfl,oz,(iP rfl (λ _ _=>.refl _) rfl (λ _ _=>.refl _))⟩,trivial⟩⟩⟩) λ _ hm=>by cases hm;exact rt [0] []
theorem SE {l_:List aO} {r:List bU} (hm:TQ l_ aj r):S 38 [dB l_,ak aj] [] (fF r) [] :=sp Tryz.func38 rfl<|sq hm CP λ v1 hm=>by cases hm;exact re
theorem Q6 {a1_:List aC} (hm:P8 r_ a1_ r):S 154 [kH r_,.ro [aT a1_]] [] (.bool r) [] :=sp Tryz.func154 rfl<|sq hm DK λ v1 hm=>by cases hm;exact re
theorem xw {s_:List aW} {f_:List aC} {r:Int} (hm:qU s_ f_ r):S 219 [VA s_,.fn 154 [.ro [aT f_]]] [] (iV r) [] :=sp Tryz.func219 rfl<|l0 hm (λ g1=>⟨[(0,VA s_),(1,.fn 154 [.ro [aT f_]]),(7,iV (s_.length:Int)),(8,iV g1)],[],0⟩) <|λ ah g1 hm=>si hm (λ _ hm=>sn hm λ _ hm=>sq hm Q6 λ v3 hm=>by
 have c6:=hm.1
 have hm:=hm.2
 refine aS (λ q=>Bool.noConfusion (c6.symm.trans q)) (λ _=>?_)
 (conv=>whnf)
 refine aN hm λ h6 hm=>?_
 (conv=>whnf)
 exact ⟨(g1+(1:Int)),[],[],hm,⟨rfl,⟨sr,⟨rfl,Pk.refl _,trivial⟩,r2,r2,trivial⟩,trivial⟩⟩) λ _ hm=>by cases hm;exact re
theorem uP {s_:List aW} {f_:List aC} (hm:oF s_ f_ r):S 153 [VA s_,.fn 154 [.ro [aT f_]]] [] (.bool r) [] :=sp Tryz.func153 rfl<|sq hm xw λ v1 hm=>by cases hm;exact re
theorem U7 {l_:List aC} {aaD:List aW} {r:Int} (hm:WT l_ aaD r):S 89 [aT l_,VA aaD] [] (iV r) [] :=sp Tryz.func89 rfl<|sq hm pJ λ v1 hm=>by
 have c1:=hm.1
 have hm:=hm.2
 refine aS (λ q=>Bool.noConfusion (c1.symm.trans q)) (λ _=>?_)
 (conv=>whnf)
 refine bF hm λ v2 hv2 hm=>?_
 refine ⟨_,_,(uP hv2),?_⟩
 (conv=>whnf)
 have c2:=hm.1
 have hm:=hm.2
 refine aS (λ q=>Bool.noConfusion (c2.symm.trans q)) (λ _=>?_)
 (conv=>whnf)
 have hm:r=(0:Int):=hm
 subst hm
 refine ⟨[],[],?_⟩
 (conv=>whnf)
 exact ⟨⟨rfl,trivial,trivial⟩,r2⟩
theorem F5 {r:List Bool×List Int} (hm:Kr r_ r):S 93 [kH r_] [] (.agg [.dF 0 0 r.1.length false,.dF 1 0 r.2.length false]) [.row 1 r.1.length (bA AV.bool false r.1),.row 1 r.2.length (bA iV 0 r.2)] :=sp Tryz.func93 rfl<|sq hm kT λ v1 hm=>sq hm o9 λ v2 hm=>by cases hm;exact rt [] [(0,some 32),(1,some 56)]
theorem XT {a_:aW} {b_:aW} {r:aW} (hm:Zj a_ b_ r):S 92 [kH a_,kH b_] [] (kH r) [] :=sp Tryz.func92 rfl<|sq hm F5 λ v1 hm=>lf hm (λ g1=>⟨[(2,.ptr 0 0 0),(3,.ptr 1 0 0),(4,.ptr 2 0 0),(5,.ptr 3 0 0),(11,iV (v1.1.length:Int)),(12,iV (0:Int))],[(0,some (.box [av a_.On,ak a_.bC])),(1,some (.box [av b_.On,ak b_.bC])),(2,some (.box [.sl 0 0 true cK,.sl 0 0 true cK])),(3,some (.box [.dF 4 0 v1.1.length false,.dF 5 0 v1.2.length false])),(4,some (.row 1 v1.1.length (bA AV.bool false v1.1))),(5,some (.row 1 v1.2.length (bA iV 0 v1.2)))],6⟩) [(1,some 8),(2,some 16),(3,some 40),(4,some 32),(5,some 33)] [] <|λ ah g1 hm=>by
 have c2:=hm.1
 have hm:=hm.2
 refine aS (λ q=>Bool.noConfusion (c2.symm.trans q)) (λ _=>?_)
 (conv=>whnf)
 have hm:r=(⟨v1.1,v1.2⟩:aW):=hm
 subst hm
 refine ⟨[4,5],[],?_⟩
 (conv=>whnf)
 exact ⟨⟨rfl,trivial,trivial⟩,(by (conv=>whnf); exact ⟨(by (conv=>whnf); exact sf),(by (conv=>whnf); exact ⟨(by (conv=>whnf); exact sf),trivial⟩)⟩)⟩
theorem XU {l_:List aC} {from_:aW} {dQ:aW} {r:List aD×Int} (hm:Zk l_ from_ dQ d_ r):S 37 [aT l_,kH from_,kH dQ,fF d_] [] (.jM [fH r.1,iV r.2]) [] :=sp Tryz.func37 rfl<|sb hm λ v1 hv1 hm=>cl ((U7 hv1).le ⟨.refl _,(.sl rfl (λ _=>rfl) nofun (fT kH Gz [from_,dQ])),trivial⟩ trivial)<|by
 have c1:=hm.1
 have hm:=hm.2
 refine aS (λ q=>Bool.noConfusion (c1.symm.trans q)) (λ _=>?_)
 (conv=>whnf)
 refine bF hm λ v2 hv2 hm=>?_
 refine ⟨_,_,(DL hv2),?_⟩
 (conv=>whnf)
 have c2:=hm.1
 have hm:=hm.2
 refine aS (λ q=>Bool.noConfusion (c2.symm.trans q)) (λ _=>?_)
 (conv=>whnf)
 refine bF hm λ v3 hv3 hm=>?_
 refine ⟨_,_,(vV hv3),?_⟩
 (conv=>whnf)
 refine bF hm λ v4 hv4 hm=>?_
 refine ⟨_,_,(λ q0=>(vV (hv4 q0))),?_⟩
 (conv=>whnf)
 have c3:=hm.1
 have hm:=hm.2
 refine aS (λ q=>Bool.noConfusion (c3.symm.trans q)) (λ _=>?_)
 (conv=>whnf)
 refine bF hm λ v5 hv5 hm=>?_
 refine ⟨_,_,(XT hv5),?_⟩
 (conv=>whnf)
 refine bF hm λ v6 hv6 hm=>?_
 refine ⟨_,_,(F5 hv6),?_⟩
 (conv=>whnf)
 refine eD (ct:=[]) eX dk hm (λ g1=>⟨[(0,aT l_),(6,.ptr 0 0 0),(11,.ptr 1 0 0),(12,.ptr 2 0 0),(49,iV (l_.length:Int)),(50,iV (0:Int))],[(0,some (.box [av dQ.On,ak dQ.bC])),(1,some (.box [av v5.On,ak v5.bC])),(2,some (.box [.dF 3 0 v6.1.length false,.dF 4 0 v6.2.length false,.sl 0 0 true cK])),(3,some (.row 1 v6.1.length (bA AV.bool false v6.1))),(4,some (.row 1 v6.2.length (bA iV 0 v6.2)))],5⟩) [(0,some 8),(1,some 264),(2,some 304),(3,some 288),(4,some 289)] [] ⟨rfl,⟨sr,r4,r4,r4,r2,r2,trivial⟩,⟨⟨sr,sr,trivial⟩,⟨sr,sr,trivial⟩,⟨⟨rfl,rfl,rfl,rfl,nofun⟩,⟨rfl,rfl,rfl,rfl,nofun⟩,sr,trivial⟩,⟨rfl,rfl,(λ _ _=>.refl _)⟩,⟨rfl,rfl,(λ _ _=>.refl _)⟩,trivial⟩⟩ ?_
 intro ah g1 hm
 (conv=>whnf)
 have c5:=hm.1
 have hm:=hm.2
 refine aS (λ q=>Bool.noConfusion (c5.symm.trans q)) (λ _=>?_)
 (conv=>whnf)
 refine aN hm λ h1 hm=>?_
 (conv=>whnf)
 refine eD (ct:=[]) eX dk hm (λ g2=>⟨[(6,.ptr 0 0 0),(12,.ptr 1 0 0),(14,iV ((l_.length:Int) - (1:Int)))],[(0,some (.box [av dQ.On,ak dQ.bC])),(1,some (.box [.dF 2 0 v6.1.length false,.dF 3 0 v6.2.length false,.sl 0 0 true cK])),(2,some (.row 1 v6.1.length (bA AV.bool false v6.1))),(3,some (.row 1 v6.2.length (bA iV 0 v6.2)))],4⟩) [(1,some 2),(2,some 3),(3,some 4)] [] ⟨rfl,⟨r4,r4,r2,trivial⟩,⟨⟨sr,sr,trivial⟩,⟨⟨rfl,rfl,rfl,rfl,nofun⟩,⟨rfl,rfl,rfl,rfl,nofun⟩,sr,trivial⟩,⟨rfl,rfl,(λ _ _=>.refl _)⟩,⟨rfl,rfl,(λ _ _=>.refl _)⟩,trivial⟩⟩ ?_
 intro dR g2 hm
 (conv=>whnf)
 have c7:=hm.1
 have hm:=hm.2
 refine aS (λ q=>Bool.noConfusion (c7.symm.trans q)) (λ _=>?_)
 (conv=>whnf)
 have hm:r=(([]:List aD),(0:Int)):=hm
 subst hm
 refine ⟨[],[],?_⟩
 (conv=>whnf)
 exact ⟨⟨rfl,trivial,trivial⟩,⟨⟨rfl,(λ h=>absurd rfl h),nofun,(λ _ h=>absurd h (Nat.not_lt_zero _))⟩,r2,trivial⟩⟩
variable {CF:List ay} {CG:List aC} {Ef:List dD} {Eh:List eu} {CJ:List dG}
theorem Nb {Ee:Int} {a3_:List aO} {a4_:List Int} {r:List aD×Int} (hm:Kt CF CG Ee Ef Eh CJ wU vo wV EY wW Ed Kk Kl Km MV Bh Kn a3_ a4_ r):S 36 [.ro [aU CF,aT CG,iV Ee,aX Ef,bV Eh,bI CJ],.ro [ak wU,av vo,ak wV,bn EY,av wW,av Ed],.ro [ak Kk,av Kl,ak Km,bn MV,av Bh,av Kn],.ro [dB a3_],.ro [ak a4_]] [] (.jM [fH r.1,iV r.2]) [] :=sp Tryz.func36 rfl<|sq hm SE λ v1 hm=>sq hm XU λ v2 hm=>by cases hm;exact re
theorem Nc {n_:aO} {r:List bg} (hm:Ku n_ r):S 104 [zw n_] [] (dK r) [] :=sp Tryz.func104 rfl<|by cases hm;exact re
theorem Cc {l_:List aO} {r:List bg} (hm:wG l_ aj r):S 103 [dB l_,ak aj,.fn 104 []] [] (dK r) [] :=sp Tryz.func103 rfl<|lf hm (λ g1=>⟨[(0,dB l_),(2,.fn 104 []),(7,.dF 0 0 g1.2.length false),(10,ak aj),(11,iV (aj.length:Int)),(12,iV g1.1)],[(0,some (.row 3 g1.2.length (bA A9 dU g1.2)))],1⟩) [(0,none)] [] <|λ ah g1 hm=>si hm (λ _ hm=>sn hm λ _ hm=>by
 have c6:=hm.1
 have hm:=hm.2
 refine aS (λ _=>?_) (λ q=>Bool.noConfusion (q.symm.trans c6))
 (conv=>whnf)
 refine aN hm λ h10 hm=>?_
 (conv=>whnf)
 refine bF hm λ v3 hv3 hm=>?_
 refine ⟨_,_,(Nc hv3),?_⟩
 (conv=>whnf)
 refine aN hm λ h11 hm=>?_
 (conv=>whnf)
 refine aN hm λ h12 hm=>?_
 (conv=>whnf)
 exact ⟨((g1.1+(1:Int)),(g1.2++v3)),[(0,some 153)],[],hm,⟨rfl,⟨sr,⟨rfl,trivial⟩,⟨rfl,rfl,rfl,oz,nofun⟩,sr,r2,r2,trivial⟩,⟨⟨rfl,oz,(iP rfl (λ _ _=>.refl _) rfl (λ _ _=>.refl _))⟩,trivial⟩⟩⟩) λ _ hm=>by cases hm;exact rt [0] []
theorem Q7 {l_:List aO} {r:List bg} (hm:P9 l_ aj r):S 41 [dB l_,ak aj] [] (dK r) [] :=sp Tryz.func41 rfl<|sq hm Cc λ v1 hm=>by cases hm;exact re
theorem Ce (hm:Ej l_ s_ r):S 166 [aU l_,ak s_] [] (.bool r) [] :=sp Tryz.func166 rfl<|sq hm mV λ v1 hm=>sb hm λ v2 hv2 hm=>cl (λ q0=>(tT (hv2 q0)))<|by cases hm;exact re
theorem uQ {s_:List bg} {r:Int} (hm:oG s_ f_ r):S 256 [dK s_,.fn 231 [.ro [o8 f_]]] [] (iV r) [] :=sp Tryz.func256 rfl<|l0 hm (λ g1=>⟨[(0,dK s_),(1,.fn 231 [.ro [o8 f_]]),(7,iV (s_.length:Int)),(8,iV (0:Int))],[],0⟩) <|λ ah g1 hm=>by
 have c2:=hm.1
 have hm:=hm.2
 refine aS (λ q=>Bool.noConfusion (c2.symm.trans q)) (λ _=>?_)
 (conv=>whnf)
 have hm:r=(-1:Int):=hm
 subst hm
 refine ⟨[],[],?_⟩
 (conv=>whnf)
 exact ⟨⟨rfl,trivial,trivial⟩,r2⟩
theorem rH {s_:List bg} (hm:mg s_ f_ r):S 225 [dK s_,.fn 231 [.ro [o8 f_]]] [] (.bool r) [] :=sp Tryz.func225 rfl<|sq hm uQ λ v1 hm=>by cases hm;exact re
variable {iq:List bg}
theorem F6 (hm:Kv l_ s_ iq r):S 167 [aU l_,ak s_,dK iq] [] (.bool r) [] :=sp Tryz.func167 rfl<|sq hm FY λ v1 hm=>lf hm (λ g1=>⟨[(2,dK iq),(7,.ptr 0 0 0),(17,aU l_),(18,iV (l_.length:Int)),(19,iV (0:Int))],[(0,some (.box [o8 v1.1]))],1⟩) [(0,some 56)] [] <|λ ah g1 hm=>by
 have c2:=hm.1
 have hm:=hm.2
 refine aS (λ q=>Bool.noConfusion (c2.symm.trans q)) (λ _=>?_)
 (conv=>whnf)
 refine bF hm λ v2 hv2 hm=>?_
 refine ⟨_,_,(rH hv2),?_⟩
 (conv=>whnf)
 have hm:r=(!v2):=hm
 subst hm
 refine ⟨[],[],?_⟩
 (conv=>whnf)
 exact ⟨⟨rfl,trivial,trivial⟩,rfl⟩
theorem Q8 {from_:List Int} {dQ:List Int} {r:(List ay×List bg×Int×(iJ→Option Int))} (hm:Qa l_ from_ dQ iq r):S 98 [aU l_,ak from_,ak dQ,dK iq] [] (.jM [.agg [aU r.1,dK r.2.1,.mref 0],iV r.2.2.1]) [.map (.int .i64) [.bool] r.2.2.2] :=sp Tryz.func98 rfl<|sq hm mV λ v1 hm=>by
 have c1:=hm.1
 have hm:=hm.2
 refine aS (λ q=>Bool.noConfusion (c1.symm.trans q)) (λ _=>?_)
 (conv=>whnf)
 refine bF hm λ v2 hv2 hm=>?_
 refine ⟨_,_,(DJ hv2),?_⟩
 (conv=>whnf)
 refine bF hm λ v3 hv3 hm=>?_
 refine ⟨_,_,(λ q0=>(Ce (hv3 q0))),?_⟩
 (conv=>whnf)
 refine bF hm λ v4 hv4 hm=>?_
 refine ⟨_,_,(λ q0=>(Ce (hv4 q0))),?_⟩
 (conv=>whnf)
 have c2:=hm.1
 have hm:=hm.2
 refine aS (λ q=>Bool.noConfusion (c2.symm.trans q)) (λ _=>?_)
 (conv=>whnf)
 refine bF hm λ v5 hv5 hm=>?_
 refine ⟨_,_,(F6 hv5),?_⟩
 (conv=>whnf)
 have c3:=hm.1
 have hm:=hm.2
 refine aS (λ _=>?_) (λ q=>Bool.noConfusion (q.symm.trans c3))
 (conv=>whnf)
 refine bF hm λ v6 hv6 hm=>?_
 refine ⟨_,_,(F6 hv6),?_⟩
 (conv=>whnf)
 have c4:=hm.1
 have hm:=hm.2
 refine aS (λ q=>Bool.noConfusion (c4.symm.trans q)) (λ _=>?_)
 (conv=>whnf)
 have hm:r=(l_,iq,(0:Int),(λ _=>none)):=hm
 subst hm
 refine ⟨[],[(0,some 304)],?_⟩
 (conv=>whnf)
 exact ⟨⟨rfl,trivial,⟨⟨rfl,rfl,rfl⟩,trivial⟩⟩,⟨⟨sf,sf,r2,trivial⟩,r2,trivial⟩⟩
variable {JN:List ay} {WV:List bg}
theorem sN {x2_:iJ→Option Int} {r:Int} (hm:qX JN WV x2_ s_ r):S 100 [.agg [aU JN,dK WV,.pm (.int .i64) [.bool] x2_],ak s_] [] (iV r) [] :=sp Tryz.func100 rfl<|l0 hm (λ g1=>⟨[(2,.ptr 0 0 0),(5,iV (0:Int)),(8,ak s_),(9,iV (s_.length:Int)),(10,iV (0:Int))],[(0,some (.box [aU JN,dK WV,.pm (.int .i64) [.bool] x2_]))],1⟩) <|λ ah g1 hm=>by
 have c2:=hm.1
 have hm:=hm.2
 refine aS (λ q=>Bool.noConfusion (c2.symm.trans q)) (λ _=>?_)
 (conv=>whnf)
 have hm:r=(0:Int):=hm
 subst hm
 refine ⟨[],[],?_⟩
 (conv=>whnf)
 exact ⟨⟨rfl,trivial,trivial⟩,r2⟩
variable {bX:iJ→Option Int}
theorem CQ {n_:Int} {r:List Int} (hm:yw JN WV n_ bX r):S 169 [.agg [aU JN,dK WV,.mref 0],iV n_] [.map (.int .i64) [.bool] bX] (.dF 1 0 r.length false) [.map (.int .i64) [.bool] bX,.row 1 r.length (bA iV 0 r)] :=sp Tryz.func169 rfl<|s2 hm λ _ _ hm=>lf hm (λ g1=>⟨[(1,iV n_),(2,.ptr 1 0 0),(5,.dF 2 0 g1.length false),(6,iV ((((JN.length:Int).toNat:Nat):Int) - (1:Int)))],[(0,some (.map (.int .i64) [.bool] bX)),(1,some (.box [aU JN,dK WV,.mref 0])),(2,some (.row 1 g1.length (bA iV 0 g1)))],3⟩) [(2,some 41)] [] <|λ ah g1 hm=>by
 have c2:=hm.1
 have hm:=hm.2
 refine aS (λ q=>Bool.noConfusion (c2.symm.trans q)) (λ _=>?_)
 (conv=>whnf)
 have hm:r=g1:=hm
 subst hm
 refine ⟨[],[(1,some 2)],?_⟩
 (conv=>whnf)
 exact ⟨⟨rfl,trivial,⟨⟨rfl,rfl,rfl⟩,⟨rfl,rfl,(λ _ _=>.refl _)⟩,trivial⟩⟩,⟨rfl,rfl,rfl,rfl,nofun⟩⟩
theorem CS {n_:Int} {acM:Nat} {acN:Nat} {zA:iJ→Option Int} {qV:List Int} {r:Nat×Nat} (hm:yx JN WV n_ bX acM acN zA qV r):S 101 [.agg [aU JN,dK WV,.mref 0],iV n_,.fn 168 [.ptr 1 0 0,.ptr 2 0 0]] [.map (.int .i64) [.bool] bX,.box [.mref 3],.box [.dF 4 acM acN false],.map (.int .i64) [(.int .i64)] zA,.row 1 qV.length (bA iV 0 qV)] (.jM []) [.map (.int .i64) [.bool] bX,.box [.mref 3],.box [.dF 4 r.1 r.2 false],.map (.int .i64) [(.int .i64)] zA,.row 1 qV.length (bA iV 0 qV)] :=sp Tryz.func101 rfl<|by
 have h2:=hm.1
 have hm:=hm.2
 refine bF hm λ v1 hv1 hm=>?_
 refine ⟨_,_,(CQ hv1),?_⟩
 (conv=>whnf)
 refine eD (ct:=[]) eX dk hm (λ g1=>⟨[(2,.fn 168 [.ptr 1 0 0,.ptr 2 0 0]),(3,.ptr 5 0 0),(6,.dF 6 0 v1.length false),(16,aU JN),(17,iV (JN.length:Int)),(18,iV (0:Int))],[(0,some (.map (.int .i64) [.bool] bX)),(1,some (.box [.mref 3])),(2,some (.box [.dF 4 g1.1 g1.2 false])),(3,some (.map (.int .i64) [(.int .i64)] zA)),(4,some (.row 1 qV.length (bA iV 0 qV))),(5,some (.box [aU JN,dK WV,.mref 0])),(6,some (.row 1 v1.length (bA iV 0 v1)))],7⟩) [(6,some 29)] [] ⟨rfl,⟨⟨rfl,r4,r4,trivial⟩,r4,⟨rfl,rfl,rfl,rfl,nofun⟩,sr,r2,r2,trivial⟩,⟨⟨rfl,rfl,rfl⟩,⟨r2,trivial⟩,⟨⟨rfl,rfl,rfl,rfl,nofun⟩,trivial⟩,⟨rfl,rfl,rfl⟩,⟨rfl,rfl,(λ _ _=>.refl _)⟩,⟨sr,sr,r2,trivial⟩,⟨rfl,rfl,(λ _ _=>.refl _)⟩,trivial⟩⟩ ?_
 intro ah g1 hm
 (conv=>whnf)
 have h1:=hm.1
 have hm:=hm.2
 have c2:=hm.1
 have hm:=hm.2
 refine aS (λ q=>Bool.noConfusion (c2.symm.trans q)) (λ _=>?_)
 (conv=>whnf)
 have hm:r=(g1.1,g1.2):=hm
 subst hm
 refine ⟨[],[],?_⟩
 (conv=>whnf)
 exact ⟨⟨rfl,trivial,⟨⟨rfl,rfl,rfl⟩,⟨r2,trivial⟩,⟨⟨rfl,rfl,rfl,rfl,nofun⟩,trivial⟩,⟨rfl,rfl,rfl⟩,⟨rfl,rfl,(λ _ _=>.refl _)⟩,trivial⟩⟩,trivial⟩
theorem F7 {from_:Int} {r:iJ→Option Int} (hm:Bn JN WV from_ bX r):S 99 [.agg [aU JN,dK WV,.mref 0],iV from_] [.map (.int .i64) [.bool] bX] (.mref 1) [.map (.int .i64) [.bool] bX,.map (.int .i64) [(.int .i64)] r] :=sp Tryz.func99 rfl<|lf hm (λ g1=>⟨[(2,.ptr 1 0 0),(5,.ptr 2 0 0),(6,.ptr 3 0 0)],[(0,some (.map (.int .i64) [.bool] bX)),(1,some (.box [aU JN,dK WV,.mref 0])),(2,some (.box [.mref 4])),(3,some (.box [.dF 5 g1.1 g1.2.1 false])),(4,some (.map (.int .i64) [(.int .i64)] (Rq (λ _=>none) (.i from_) (0:Int)))),(5,some (.row 1 g1.2.2.length (bA iV 0 g1.2.2)))],6⟩) [(2,some 49),(3,some 81),(4,some 17),(5,some 73)] [] <|λ ah g1 hm=>by
 have h10:=hm.1
 have hm:=hm.2
 refine jq hm (λ c3 hm=>?_) (λ c3 hm=>?_)
 ·(conv=>whnf)
  refine aN hm λ h7 hm=>?_
  (conv=>whnf)
  refine bF hm λ v3 hv3 hm=>?_
  refine ⟨_,_,(CS hv3),?_⟩
  (conv=>whnf)
  have h8:=hm.1
  have hm:=hm.2
  refine aN hm λ h9 hm=>?_
  (conv=>whnf)
  exact ⟨((v3.1+1),(v3.2 - 1),g1.2.2),[(3,some 86)],[],hm,⟨rfl,⟨r4,r4,r4,trivial⟩,⟨⟨rfl,rfl,rfl⟩,⟨sr,sr,r2,trivial⟩,⟨r2,trivial⟩,⟨⟨rfl,rfl,rfl,rfl,nofun⟩,trivial⟩,⟨rfl,rfl,rfl⟩,⟨rfl,rfl,(λ _ _=>.refl _)⟩,trivial⟩⟩⟩
 ·(conv=>whnf)
  have hm:r=(Rq (λ _=>none) (.i from_) (0:Int)):=hm
  subst hm
  refine ⟨[],[(1,some 4)],?_⟩
  (conv=>whnf)
  exact ⟨⟨rfl,trivial,⟨⟨rfl,rfl,rfl⟩,⟨rfl,rfl,rfl⟩,trivial⟩⟩,r2⟩
theorem SF {from_:List Int} {dQ:List Int} {r:List aD×Int} (hm:TR l_ from_ dQ iq r):S 40 [aU l_,ak from_,ak dQ,dK iq] [] (.jM [fH r.1,iV r.2]) [] :=sp Tryz.func40 rfl<|sq hm Q8 λ v1 hm=>by
 have c1:=hm.1
 have hm:=hm.2
 refine aS (λ q=>Bool.noConfusion (c1.symm.trans q)) (λ _=>?_)
 (conv=>whnf)
 refine bF hm λ v2 hv2 hm=>?_
 refine ⟨_,_,(sN hv2),?_⟩
 (conv=>whnf)
 refine bF hm λ v3 hv3 hm=>?_
 refine ⟨_,_,(F7 hv3),?_⟩
 (conv=>whnf)
 refine bF hm λ v4 hv4 hm=>?_
 refine ⟨_,_,(sN hv4),?_⟩
 (conv=>whnf)
 have c2:=hm.1
 have hm:=hm.2
 refine aS (λ q=>Bool.noConfusion (c2.symm.trans q)) (λ _=>?_)
 (conv=>whnf)
 refine eD (ct:=[]) eX dk hm (λ g1=>⟨[(10,.ptr 0 0 0),(12,.ptr 1 0 0),(13,iV v4),(16,.ptr 2 0 0)],[(0,some (.box [aU v1.1,dK v1.2.1,.mref 3])),(1,some (.box [.mref 4])),(2,some (.box [.sl 0 0 true cK])),(3,some (.map (.int .i64) [.bool] v1.2.2.2)),(4,some (.map (.int .i64) [(.int .i64)] v3))],5⟩) [(0,some 80),(1,some 160),(2,some 288),(3,some 48),(4,some 152)] [] ⟨rfl,⟨r4,r4,r2,r4,trivial⟩,⟨⟨sr,sr,r2,trivial⟩,⟨r2,trivial⟩,⟨sr,trivial⟩,⟨rfl,rfl,rfl⟩,⟨rfl,rfl,rfl⟩,trivial⟩⟩ ?_
 intro ah g1 hm
 (conv=>whnf)
 have c4:=hm.1
 have hm:=hm.2
 refine aS (λ q=>Bool.noConfusion (c4.symm.trans q)) (λ _=>?_)
 (conv=>whnf)
 have hm:r=(([]:List aD),(0:Int)):=hm
 subst hm
 refine ⟨[],[],?_⟩
 (conv=>whnf)
 exact ⟨⟨rfl,trivial,trivial⟩,⟨⟨rfl,(λ h=>absurd rfl h),nofun,(λ _ h=>absurd h (Nat.not_lt_zero _))⟩,r2,trivial⟩⟩
theorem Nf {Ee:Int} {a3_:List aO} {a4_:List Int} {r:List aD×Int} (hm:Kw CF CG Ee Ef Eh CJ wU vo wV EY wW Ed Kk Kl Km MV Bh Kn a3_ a4_ r):S 39 [.ro [aU CF,aT CG,iV Ee,aX Ef,bV Eh,bI CJ],.ro [ak wU,av vo,ak wV,bn EY,av wW,av Ed],.ro [ak Kk,av Kl,ak Km,bn MV,av Bh,av Kn],.ro [dB a3_],.ro [ak a4_]] [] (.jM [fH r.1,iV r.2]) [] :=sp Tryz.func39 rfl<|sq hm Q7 λ v1 hm=>sq hm SF λ v2 hm=>by cases hm;exact re
theorem wC {s_:List aD} {r:Unit} (hm:p9 s_ r):S 32 [fH s_] [] (.jM []) [] :=sp Tryz.func32 rfl<|sn hm λ _ hm=>l0 hm (λ g1=>⟨[(0,fH s_),(2,iV (0:Int)),(3,iV ((s_.length:Int) - (1:Int)))],[],0⟩) <|λ ah g1 hm=>by
 have c2:=hm.1
 have hm:=hm.2
 refine aS (λ q=>Bool.noConfusion (c2.symm.trans q)) (λ _=>?_)
 (conv=>whnf)
 have hm:r=():=hm
 subst hm
 refine ⟨[],[],?_⟩
 (conv=>whnf)
 exact ⟨⟨rfl,trivial,trivial⟩,trivial⟩
theorem SG {l_:List dG} {from_:List Bool} {dQ:List Bool} {r:List aD×Int} (hm:TS l_ from_ dQ r):S 43 [bI l_,av from_,av dQ] [] (.jM [fH r.1,iV r.2]) [] :=sp Tryz.func43 rfl<|sq hm vS λ v1 hm=>by
 have c1:=hm.1
 have hm:=hm.2
 refine aS (λ q=>Bool.noConfusion (c1.symm.trans q)) (λ _=>?_)
 (conv=>whnf)
 refine bF hm λ v2 hv2 hm=>?_
 refine ⟨_,_,(vW hv2),?_⟩
 (conv=>whnf)
 refine bF hm λ v3 hv3 hm=>?_
 refine ⟨_,_,(λ q0=>(vW (hv3 q0))),?_⟩
 (conv=>whnf)
 have c2:=hm.1
 have hm:=hm.2
 refine aS (λ q=>Bool.noConfusion (c2.symm.trans q)) (λ _=>?_)
 (conv=>whnf)
 refine eD (ct:=[]) eX dk hm (λ g1=>⟨[(1,av from_),(2,av dQ),(8,.sl 0 0 true cK),(9,.sl 0 0 true cK),(25,iV (l_.length:Int)),(26,iV (0:Int))],[],0⟩) [] [] ⟨rfl,⟨sr,sr,sr,sr,r2,r2,trivial⟩,trivial⟩ ?_
 intro ah g1 hm
 (conv=>whnf)
 have c4:=hm.1
 have hm:=hm.2
 refine aS (λ q=>Bool.noConfusion (c4.symm.trans q)) (λ _=>?_)
 (conv=>whnf)
 refine bF hm λ v4 hv4 hm=>?_
 refine ⟨_,_,((wC hv4).le ⟨(.sl rfl (λ h=>absurd rfl h) nofun (λ _ h=>absurd h (Nat.not_lt_zero _))),trivial⟩ trivial),?_⟩
 (conv=>whnf)
 refine aN hm λ h1 hm=>?_
 (conv=>whnf)
 have hm:r=(([]:List aD),(0:Int)):=hm
 subst hm
 refine ⟨[40],[],?_⟩
 (conv=>whnf)
 exact ⟨⟨rfl,trivial,trivial⟩,(by (conv=>whnf); exact ⟨(by (conv=>whnf); exact ⟨rfl,(λ h=>absurd rfl h),nofun,(λ _ h=>absurd h (Nat.not_lt_zero _))⟩),(by (conv=>whnf); exact ⟨(by first | ((conv=>whnf); exact r2) | exact r2),trivial⟩)⟩)⟩
theorem Ng {Ee:Int} {r:List aD×Int} (hm:Ky CF CG Ee Ef Eh CJ wU vo wV EY wW Ed Kk Kl Km MV Bh Kn r):S 42 [.ro [aU CF,aT CG,iV Ee,aX Ef,bV Eh,bI CJ],.ro [ak wU,av vo,ak wV,bn EY,av wW,av Ed],.ro [ak Kk,av Kl,ak Km,bn MV,av Bh,av Kn]] [] (.jM [fH r.1,iV r.2]) [] :=sp Tryz.func42 rfl<|sq hm SG λ v1 hm=>by cases hm;exact re
theorem Nh {r:List aD×Int} (hm:Kz a1_ a2_ r):S 44 [.ro [.fn 33 []],.ro [.pm (.int .i64) [(.int .i64)] a1_],.ro [.pm (.int .i64) [(.int .i64)] a2_]] [] (.jM [fH r.1,iV r.2]) [] :=sp Tryz.func44 rfl<|sq hm zR λ v1 hm=>by cases hm;exact re
theorem Ni {CF:List Int} {CG:List Bool} {Ee:List Int} {Ef:List au} {Eh:List Bool} {CJ:List Bool} {aay:List Int} {aaz:List Bool} {aaA:List Int} {aaB:List au} {P5:List Bool} {P6:List Bool} {r:List aD×Int} (hm:KA CF CG Ee Ef Eh CJ aay aaz aaA aaB P5 P6 r):S 45 [.ro [.fn 31 [.ro [ak CF,av CG,ak Ee,bn Ef,av Eh,av CJ],.ro [ak aay,av aaz,ak aaA,bn aaB,av P5,av P6]]]] [] (.jM [fH r.1,iV r.2]) [] :=sp Tryz.func45 rfl<|sq hm zQ λ v1 hm=>by cases hm;exact re
theorem DN {l_:List aO} {from_:aF} {dQ:aF} {iI:List Int} {r:Int×List aD} (hm:GQ b_ l_ from_ dQ iI r):S 10 [iM b_,dB l_,gN from_,gN dQ,ak iI] [] (.jM [.dF 0 0 r.2.length false,iV r.1]) [.row 3 r.2.length (bA fG dJ r.2)] :=sp Tryz.func10 rfl<|sq hm OY λ v1 hm=>by
 have c1:=hm.1
 have hm:=hm.2
 refine aS (λ q=>Bool.noConfusion (c1.symm.trans q)) (λ _=>?_)
 (conv=>whnf)
 refine bF hm λ v2 hv2 hm=>?_
 refine ⟨_,_,(rG hv2),?_⟩
 (conv=>whnf)
 refine bF hm λ v3 hv3 hm=>?_
 refine ⟨_,_,(rG hv3),?_⟩
 (conv=>whnf)
 refine TJ 8 ?_
 refine iT (ct:=[]) eX dk ?_
 (conv=>whnf)
 refine aN hm λ h1 hm=>?_
 (conv=>whnf)
 refine bF hm λ v4 hv4 hm=>?_
 refine ⟨_,_,(M9 hv4),?_⟩
 (conv=>whnf)
 have c2:=hm.1
 have hm:=hm.2
 refine aS (λ q=>Bool.noConfusion (c2.symm.trans q)) (λ _=>?_)
 (conv=>whnf)
 refine aN hm λ h2 hm=>?_
 (conv=>whnf)
 refine aN hm λ h3 hm=>?_
 (conv=>whnf)
 refine iT (ct:=[]) eX dk ?_
 (conv=>whnf)
 refine aN hm λ h4 hm=>?_
 (conv=>whnf)
 refine bF hm λ v5 hv5 hm=>?_
 refine ⟨_,_,(Na hv5),?_⟩
 (conv=>whnf)
 have c3:=hm.1
 have hm:=hm.2
 refine aS (λ q=>Bool.noConfusion (c3.symm.trans q)) (λ _=>?_)
 (conv=>whnf)
 refine aN hm λ h5 hm=>?_
 (conv=>whnf)
 refine aN hm λ h6 hm=>?_
 (conv=>whnf)
 refine iT (ct:=[]) eX dk ?_
 (conv=>whnf)
 refine aN hm λ h7 hm=>?_
 (conv=>whnf)
 refine bF hm λ v6 hv6 hm=>?_
 refine ⟨_,_,(Nb hv6),?_⟩
 (conv=>whnf)
 have c4:=hm.1
 have hm:=hm.2
 refine aS (λ q=>Bool.noConfusion (c4.symm.trans q)) (λ _=>?_)
 (conv=>whnf)
 refine aN hm λ h8 hm=>?_
 (conv=>whnf)
 refine aN hm λ h9 hm=>?_
 (conv=>whnf)
 refine iT (ct:=[]) eX dk ?_
 (conv=>whnf)
 refine aN hm λ h10 hm=>?_
 (conv=>whnf)
 refine bF hm λ v7 hv7 hm=>?_
 refine ⟨_,_,(Nf hv7),?_⟩
 (conv=>whnf)
 have c5:=hm.1
 have hm:=hm.2
 refine aS (λ q=>Bool.noConfusion (c5.symm.trans q)) (λ _=>?_)
 (conv=>whnf)
 refine aN hm λ h11 hm=>?_
 (conv=>whnf)
 refine aN hm λ h12 hm=>?_
 (conv=>whnf)
 refine iT (ct:=[]) eX dk ?_
 (conv=>whnf)
 refine aN hm λ h13 hm=>?_
 (conv=>whnf)
 refine bF hm λ v8 vZ hm=>?_
 refine ⟨_,_,(Ng vZ),?_⟩
 (conv=>whnf)
 have c6:=hm.1
 have hm:=hm.2
 refine aS (λ q=>Bool.noConfusion (c6.symm.trans q)) (λ _=>?_)
 (conv=>whnf)
 refine aN hm λ h14 hm=>?_
 (conv=>whnf)
 refine aN hm λ h15 hm=>?_
 (conv=>whnf)
 refine iT (ct:=[]) eX dk ?_
 (conv=>whnf)
 refine aN hm λ h16 hm=>?_
 (conv=>whnf)
 refine bF hm λ v9 QB hm=>?_
 refine ⟨_,_,(Nh QB),?_⟩
 (conv=>whnf)
 have c7:=hm.1
 have hm:=hm.2
 refine aS (λ q=>Bool.noConfusion (c7.symm.trans q)) (λ _=>?_)
 (conv=>whnf)
 refine aN hm λ h17 hm=>?_
 (conv=>whnf)
 refine aN hm λ h18 hm=>?_
 (conv=>whnf)
 refine iT (ct:=[]) eX dk ?_
 (conv=>whnf)
 refine aN hm λ h19 hm=>?_
 (conv=>whnf)
 refine bF hm λ v10 Ar hm=>?_
 refine ⟨_,_,(Ni Ar),?_⟩
 (conv=>whnf)
 have c8:=hm.1
 have hm:=hm.2
 refine aS (λ q=>Bool.noConfusion (c8.symm.trans q)) (λ _=>?_)
 (conv=>whnf)
 refine aN hm λ h20 hm=>?_
 (conv=>whnf)
 refine aN hm λ h21 hm=>?_
 (conv=>whnf)
 refine iT (ct:=[]) eX dk ?_
 (conv=>whnf)
 have c9:=hm.1
 have hm:=hm.2
 refine aS (λ q=>Bool.noConfusion (c9.symm.trans q)) (λ _=>?_)
 (conv=>whnf)
 have hm:r=((0:Int),((((((v4.1++v5.1)++v6.1)++v7.1)++v8.1)++v9.1)++v10.1)):=hm
 subst hm
 refine ⟨[],[(0,some 1384)],?_⟩
 (conv=>whnf)
 exact ⟨⟨rfl,trivial,⟨⟨rfl,oz,(iP oz (iP oz (iP oz (iP oz (iP oz (iP rfl (λ _ _=>.refl _) rfl (λ _ _=>.refl _)) rfl (λ _ _=>.refl _)) rfl (λ _ _=>.refl _)) rfl (λ _ _=>.refl _)) rfl (λ _ _=>.refl _)) rfl (λ _ _=>.refl _))⟩,trivial⟩⟩,⟨⟨rfl,rfl,rfl,oz,nofun⟩,r2,trivial⟩⟩
theorem Cg {s_:List au} {r:List au} (hm:lF s_ r):S 173 [bn s_] [] (.dF 0 0 r.length false) [.row 3 r.length (bA jd bE r)] :=by
 obtain ⟨h1,hm⟩:=hm
 have hm:r=s_:=hm
 subst hm
 refine tC (ct:=[1]) eX Tryz.func173 rfl rfl (Nat.le_of_ble_eq_true rfl) dk (Nat.le_of_ble_eq_true rfl) ?_
 (conv=>whnf)
 refine WB (ct:=[]) eX (eX.slice (t:=39) (e:=65) rfl rfl rfl).1 dk dk dk dk dk [(2,.sl 0 0 true cK),(0,bn r)] [] 8 rfl ?_ (λ hn=>?_) ?_
 ·exact rfl
 ·(conv=>whnf)
  have hn:r.length=0:=hn
  refine ⟨[],[(0,none)],?_⟩
  (conv=>whnf)
  exact ⟨⟨rfl,trivial,⟨hn,trivial⟩⟩,⟨rfl,rfl,rfl,rfl,rfl,hn⟩⟩
 ·(conv=>whnf)
  refine ⟨by rw [Nat.zero_add]; exact h1,?_⟩
  (conv=>whnf)
  refine ⟨[],[(0,some 24)],?_⟩
  (conv=>whnf)
  exact ⟨⟨rfl,trivial,⟨⟨rfl,Nat.zero_add _,iP (l:=[]) rfl (λ _ h=>absurd h (Nat.not_lt_zero _)) rfl (λ _ _=>.refl _)⟩,trivial⟩⟩,⟨rfl,rfl,rfl,Nat.zero_add _,nofun⟩⟩
theorem mX {g_:aF} {r:List Int×List Bool×List Int×List au×List Bool×List Bool} (hm:qF g_ r):S 108 [gN g_] [] (.agg [.dF 0 0 r.1.length false,.dF 1 0 r.2.1.length false,.dF 2 0 r.2.2.1.length false,.dF 3 0 r.2.2.2.1.length false,.dF 4 0 r.2.2.2.2.1.length false,.dF 5 0 r.2.2.2.2.2.length false]) [.row 1 r.1.length (bA iV 0 r.1),.row 1 r.2.1.length (bA AV.bool false r.2.1),.row 1 r.2.2.1.length (bA iV 0 r.2.2.1),.row 3 r.2.2.2.1.length (bA jd bE r.2.2.2.1),.row 1 r.2.2.2.2.1.length (bA AV.bool false r.2.2.2.2.1),.row 1 r.2.2.2.2.2.length (bA AV.bool false r.2.2.2.2.2)] :=sp Tryz.func108 rfl<|sq hm o9 λ v1 hm=>sq hm L6 λ v2 hm=>sq hm Cg λ v3 hm=>sq hm kT λ v4 hm=>sq hm kT λ v5 hm=>by cases hm;exact rt [] [(0,some 32),(1,some 56),(2,some 57),(3,some 80),(4,some 104),(5,some 128)]
theorem Ch {at_:Int} {x_:Int} {bX:List Int} {r:Bool×List Int} (hm:rU at_ x_ bX r):S 182 [.dF 0 0 bX.length false,iV at_,iV x_] [.row 1 bX.length (bA iV 0 bX)] (.bool r.1) [.row 1 r.2.length (bA iV 0 r.2)] :=sp Tryz.func182 rfl<|si hm (λ _ hm=>by cases hm;exact re) λ _ hm=>sn hm λ _ hm=>by cases hm;exact re
theorem mq {at_:Int} {x_:Bool} {bX:List Bool} {r:Bool×List Bool} (hm:kY at_ x_ bX r):S 183 [.dF 0 0 bX.length false,iV at_,.bool x_] [.row 1 bX.length (bA AV.bool false bX)] (.bool r.1) [.row 1 r.2.length (bA AV.bool false r.2)] :=sp Tryz.func183 rfl<|si hm (λ _ hm=>by cases hm;exact re) λ _ hm=>sn hm λ _ hm=>by cases hm;exact re
theorem O5 {u_:au} {wU:Int} {vo:Int} {wV:Int} (hm:rV u_ wU vo wV r):S 185 [jd u_,.ro [iV wU,iV vo,iV wV]] [] (.bool r) [] :=sp Tryz.func185 rfl<|by cases hm;exact re
theorem xA {s_:List au} {D9:Int} {Cu:Int} {r:Int} (hm:lN s_ D9 Cu Ea r):S 184 [bn s_,.fn 185 [.ro [iV D9,iV Cu,iV Ea]]] [] (iV r) [] :=sp Tryz.func184 rfl<|l0 hm (λ g1=>⟨[(0,bn s_),(1,.fn 185 [.ro [iV D9,iV Cu,iV Ea]]),(7,iV (s_.length:Int)),(8,iV g1)],[],0⟩) <|λ ah g1 hm=>si hm (λ _ hm=>sn hm λ _ hm=>sq hm O5 λ v3 hm=>si hm (λ _ hm=>by cases hm;exact re) λ _ hm=>sn hm λ _ hm=>le hm) λ _ hm=>by cases hm;exact re
theorem Ay {i_:Int} {j_:Int} {bX:List au} {r:Nat×List au} (hm:kQ i_ j_ bX r):S 186 [.dF 0 0 bX.length false,iV i_,iV j_] [.row 3 bX.length (bA jd bE bX)] (.dF 0 0 r.1 false) [.row 3 r.2.length (bA jd bE r.2)] :=sp Tryz.func186 rfl<|sn hm λ _ hm=>si hm (λ _ hm=>by cases hm;exact re) λ _ hm=>s2 hm λ _ _ hm=>s2 hm λ _ _ hm=>by cases hm;exact rt [] [] (by (conv=>whnf);exact ⟨⟨rfl,trivial,⟨⟨rfl,oz,(aiW oz (aiW rfl (λ _ _=>.refl _) oz (agY (a:=(0+j_.toNat)) (N:=bX.length) (λ _ _=>.refl _) (by first | omega | (simp; omega)))) oz (PK jd bE))⟩,trivial⟩⟩,⟨rfl,rfl,rfl,rfl,nofun⟩⟩)
theorem SH {w_:aD} {C8:List Int} {C9:List Bool} {zA:List Int} {qV:List au} {Da:List Bool} {Db:List Bool} {r:Bool×Nat×List Int×List Bool×List Int×List Bool×List Bool×List au} (hm:Dc w_ C8 C9 zA qV Da Db r):S 110 [.ptr 0 0 0,fG w_] [.box [.dF 1 0 C8.length false,.dF 2 0 C9.length false,.dF 3 0 zA.length false,.dF 4 0 qV.length false,.dF 5 0 Da.length false,.dF 6 0 Db.length false],.row 1 C8.length (bA iV 0 C8),.row 1 C9.length (bA AV.bool false C9),.row 1 zA.length (bA iV 0 zA),.row 3 qV.length (bA jd bE qV),.row 1 Da.length (bA AV.bool false Da),.row 1 Db.length (bA AV.bool false Db)] (.bool r.1) [.box [.dF 1 0 r.2.2.1.length false,.dF 2 0 r.2.2.2.1.length false,.dF 3 0 r.2.2.2.2.1.length false,.dF 7 0 r.2.1 false,.dF 5 0 r.2.2.2.2.2.1.length false,.dF 6 0 r.2.2.2.2.2.2.1.length false],.row 1 r.2.2.1.length (bA iV 0 r.2.2.1),.row 1 r.2.2.2.1.length (bA AV.bool false r.2.2.2.1),.row 1 r.2.2.2.2.1.length (bA iV 0 r.2.2.2.2.1),apk,.row 1 r.2.2.2.2.2.1.length (bA AV.bool false r.2.2.2.2.2.1),.row 1 r.2.2.2.2.2.2.1.length (bA AV.bool false r.2.2.2.2.2.2.1),.row 3 r.2.2.2.2.2.2.2.length (bA jd bE r.2.2.2.2.2.2.2)] :=ZQ [20] Tryz.func110 rfl<|si hm (λ _ hm=>by cases hm;exact rt [] [(7,some 4)]) λ _ hm=>si hm (λ _ hm=>sq hm Ch λ v1 hm=>by
 have h1:=hm.1
 have hm:=hm.2
 have hm:r=(v1.1,qV.length,v1.2,C9,zA,Da,Db,qV):=hm
 subst hm
 refine ⟨[],[(7,some 4)],?_⟩
 (conv=>whnf)
 exact ⟨⟨rfl,trivial,⟨⟨⟨rfl,rfl,rfl,(by first | omega | (simp; omega)),nofun⟩,⟨rfl,rfl,rfl,rfl,nofun⟩,⟨rfl,rfl,rfl,rfl,nofun⟩,⟨rfl,rfl,rfl,rfl,nofun⟩,⟨rfl,rfl,rfl,rfl,nofun⟩,⟨rfl,rfl,rfl,rfl,nofun⟩,trivial⟩,⟨rfl,rfl,(λ _ _=>.refl _)⟩,⟨rfl,rfl,(λ _ _=>.refl _)⟩,⟨rfl,rfl,(λ _ _=>.refl _)⟩,⟨rfl,rfl,(λ _ _=>.refl _)⟩,⟨rfl,rfl,(λ _ _=>.refl _)⟩,⟨rfl,rfl,(λ _ _=>.refl _)⟩,trivial⟩⟩,rfl⟩) λ _ hm=>si hm (λ _ hm=>sq hm Ch λ v2 hm=>by
 have h2:=hm.1
 have hm:=hm.2
 have hm:r=(v2.1,qV.length,C8,C9,v2.2,Da,Db,qV):=hm
 subst hm
 refine ⟨[],[(7,some 4)],?_⟩
 (conv=>whnf)
 exact ⟨⟨rfl,trivial,⟨⟨⟨rfl,rfl,rfl,rfl,nofun⟩,⟨rfl,rfl,rfl,rfl,nofun⟩,⟨rfl,rfl,rfl,(by first | omega | (simp; omega)),nofun⟩,⟨rfl,rfl,rfl,rfl,nofun⟩,⟨rfl,rfl,rfl,rfl,nofun⟩,⟨rfl,rfl,rfl,rfl,nofun⟩,trivial⟩,⟨rfl,rfl,(λ _ _=>.refl _)⟩,⟨rfl,rfl,(λ _ _=>.refl _)⟩,⟨rfl,rfl,(λ _ _=>.refl _)⟩,⟨rfl,rfl,(λ _ _=>.refl _)⟩,⟨rfl,rfl,(λ _ _=>.refl _)⟩,⟨rfl,rfl,(λ _ _=>.refl _)⟩,trivial⟩⟩,rfl⟩) λ _ hm=>si hm (λ _ hm=>si hm (λ _ hm=>sq hm mq λ v3 hm=>by
 have h3:=hm.1
 have hm:=hm.2
 have hm:r=(((decide (w_.Value≤(1:Int)))&&v3.1),qV.length,C8,v3.2,zA,Da,Db,qV):=hm
 subst hm
 refine ⟨[],[(7,some 4)],?_⟩
 (conv=>whnf)
 exact ⟨⟨rfl,trivial,⟨⟨⟨rfl,rfl,rfl,rfl,nofun⟩,⟨rfl,rfl,rfl,(by first | omega | (simp; omega)),nofun⟩,⟨rfl,rfl,rfl,rfl,nofun⟩,⟨rfl,rfl,rfl,rfl,nofun⟩,⟨rfl,rfl,rfl,rfl,nofun⟩,⟨rfl,rfl,rfl,rfl,nofun⟩,trivial⟩,⟨rfl,rfl,(λ _ _=>.refl _)⟩,⟨rfl,rfl,(λ _ _=>.refl _)⟩,⟨rfl,rfl,(λ _ _=>.refl _)⟩,⟨rfl,rfl,(λ _ _=>.refl _)⟩,⟨rfl,rfl,(λ _ _=>.refl _)⟩,⟨rfl,rfl,(λ _ _=>.refl _)⟩,trivial⟩⟩,rfl⟩) λ _ hm=>sn hm λ _ hm=>by cases hm;exact rt [] [(7,some 4)]) λ _ hm=>si hm (λ _ hm=>si hm (λ _ hm=>sq hm mq λ v4 hm=>by
 have h5:=hm.1
 have hm:=hm.2
 have hm:r=(((decide (w_.Value≤(1:Int)))&&v4.1),qV.length,C8,C9,zA,v4.2,Db,qV):=hm
 subst hm
 refine ⟨[],[(7,some 4)],?_⟩
 (conv=>whnf)
 exact ⟨⟨rfl,trivial,⟨⟨⟨rfl,rfl,rfl,rfl,nofun⟩,⟨rfl,rfl,rfl,rfl,nofun⟩,⟨rfl,rfl,rfl,rfl,nofun⟩,⟨rfl,rfl,rfl,rfl,nofun⟩,⟨rfl,rfl,rfl,(by first | omega | (simp; omega)),nofun⟩,⟨rfl,rfl,rfl,rfl,nofun⟩,trivial⟩,⟨rfl,rfl,(λ _ _=>.refl _)⟩,⟨rfl,rfl,(λ _ _=>.refl _)⟩,⟨rfl,rfl,(λ _ _=>.refl _)⟩,⟨rfl,rfl,(λ _ _=>.refl _)⟩,⟨rfl,rfl,(λ _ _=>.refl _)⟩,⟨rfl,rfl,(λ _ _=>.refl _)⟩,trivial⟩⟩,rfl⟩) λ _ hm=>sn hm λ _ hm=>by cases hm;exact rt [] [(7,some 4)]) λ _ hm=>si hm (λ _ hm=>si hm (λ _ hm=>sq hm mq λ v5 hm=>by
 have h7:=hm.1
 have hm:=hm.2
 have hm:r=(((decide (w_.Value≤(1:Int)))&&v5.1),qV.length,C8,C9,zA,Da,v5.2,qV):=hm
 subst hm
 refine ⟨[],[(7,some 4)],?_⟩
 (conv=>whnf)
 exact ⟨⟨rfl,trivial,⟨⟨⟨rfl,rfl,rfl,rfl,nofun⟩,⟨rfl,rfl,rfl,rfl,nofun⟩,⟨rfl,rfl,rfl,rfl,nofun⟩,⟨rfl,rfl,rfl,rfl,nofun⟩,⟨rfl,rfl,rfl,rfl,nofun⟩,⟨rfl,rfl,rfl,(by first | omega | (simp; omega)),nofun⟩,trivial⟩,⟨rfl,rfl,(λ _ _=>.refl _)⟩,⟨rfl,rfl,(λ _ _=>.refl _)⟩,⟨rfl,rfl,(λ _ _=>.refl _)⟩,⟨rfl,rfl,(λ _ _=>.refl _)⟩,⟨rfl,rfl,(λ _ _=>.refl _)⟩,⟨rfl,rfl,(λ _ _=>.refl _)⟩,trivial⟩⟩,rfl⟩) λ _ hm=>sn hm λ _ hm=>by cases hm;exact rt [] [(7,some 4)]) λ _ hm=>si hm (λ _ hm=>sq hm EA λ v6 hm=>si hm (λ _ hm=>by cases hm;exact rt [] [(7,some 4)]) λ _ hm=>ck [20] (oH w_ C8 C9 zA Da Db) r (λ g1=>⟨[(0,.ptr 0 0 0),(3,.ptr 7 0 0)],[(0,some (.box [.dF 1 0 C8.length false,.dF 2 0 C9.length false,.dF 3 0 zA.length false,.dF 4 0 g1.1 false,.dF 5 0 Da.length false,.dF 6 0 Db.length false])),(1,some (.row 1 C8.length (bA iV 0 C8))),(2,some (.row 1 C9.length (bA AV.bool false C9))),(3,some (.row 1 zA.length (bA iV 0 zA))),(4,some (.row 3 g1.2.length (bA jd bE g1.2))),(5,some (.row 1 Da.length (bA AV.bool false Da))),(6,some (.row 1 Db.length (bA AV.bool false Db))),(7,some (.box [iV w_.eT,iV w_.Unit,iV w_.Value]))],8⟩) (sq hm xA λ v9 hm=>si hm (λ _ hm=>sn hm λ _ hm=>sq hm Ay λ v10 hm=>by
 have h15:=hm.1
 have hm:=hm.2
 exact ⟨(v10.1,v10.2),[],[],hm,⟨rfl,⟨r4,r4,trivial⟩,⟨⟨⟨rfl,rfl,rfl,rfl,nofun⟩,⟨rfl,rfl,rfl,rfl,nofun⟩,⟨rfl,rfl,rfl,rfl,nofun⟩,⟨rfl,rfl,rfl,rfl,nofun⟩,⟨rfl,rfl,rfl,rfl,nofun⟩,⟨rfl,rfl,rfl,rfl,nofun⟩,trivial⟩,⟨rfl,rfl,(λ _ _=>.refl _)⟩,⟨rfl,rfl,(λ _ _=>.refl _)⟩,⟨rfl,rfl,(λ _ _=>.refl _)⟩,⟨rfl,rfl,(λ _ _=>.refl _)⟩,⟨rfl,rfl,(λ _ _=>.refl _)⟩,⟨rfl,rfl,(λ _ _=>.refl _)⟩,⟨r2,r2,r2,trivial⟩,trivial⟩⟩⟩) λ _ hm=>le hm) λ g1 hm=>by
 have h13:=hm.1
 have hm:=hm.2
 refine jq hm (λ c13 hm=>?_) (λ c13 hm=>?_)
 ·(conv=>whnf)
  refine aN hm λ h11 hm=>?_
  (conv=>whnf)
  refine aN hm λ h12 hm=>?_
  (conv=>whnf)
  have hm:r=(true,(g1.1+1),C8,C9,zA,Da,Db,((g1.2.take (g1.1))++([(⟨(-1:Int),(⟨w_.Unit,(w_.Value - (1:Int))⟩:gM)⟩:au)]:List au))):=hm
  subst hm
  refine ⟨[],[(7,some 136)],?_⟩
  (conv=>whnf)
  exact ⟨⟨rfl,trivial,⟨⟨⟨rfl,rfl,rfl,rfl,nofun⟩,⟨rfl,rfl,rfl,rfl,nofun⟩,⟨rfl,rfl,rfl,rfl,nofun⟩,⟨rfl,rfl,rfl,rfl,nofun⟩,⟨rfl,rfl,rfl,rfl,nofun⟩,⟨rfl,rfl,rfl,rfl,nofun⟩,trivial⟩,⟨rfl,rfl,(λ _ _=>.refl _)⟩,⟨rfl,rfl,(λ _ _=>.refl _)⟩,⟨rfl,rfl,(λ _ _=>.refl _)⟩,⟨rfl,rfl,(λ _ _=>.refl _)⟩,⟨rfl,rfl,(λ _ _=>.refl _)⟩,⟨rfl,oz,(iP oz (iG (f:=jd) (d:=bE) (by first | omega | exact Nat.min_le_left _ _ | exact Nat.le_trans (Nat.min_le_left _ _) om | (simp; omega))) rfl (fT jd bE [(⟨(-1:Int),(⟨w_.Unit,(w_.Value - (1:Int))⟩:gM)⟩:au)]))⟩,trivial⟩⟩,rfl⟩
 ·(conv=>whnf)
  have hm:r=(true,g1.1,C8,C9,zA,Da,Db,g1.2):=hm
  subst hm
  refine ⟨[],[(7,some 4)],?_⟩
  (conv=>whnf)
  exact ⟨⟨rfl,trivial,⟨⟨⟨rfl,rfl,rfl,rfl,nofun⟩,⟨rfl,rfl,rfl,rfl,nofun⟩,⟨rfl,rfl,rfl,rfl,nofun⟩,⟨rfl,rfl,rfl,rfl,nofun⟩,⟨rfl,rfl,rfl,rfl,nofun⟩,⟨rfl,rfl,rfl,rfl,nofun⟩,trivial⟩,⟨rfl,rfl,(λ _ _=>.refl _)⟩,⟨rfl,rfl,(λ _ _=>.refl _)⟩,⟨rfl,rfl,(λ _ _=>.refl _)⟩,⟨rfl,rfl,(λ _ _=>.refl _)⟩,⟨rfl,rfl,(λ _ _=>.refl _)⟩,⟨rfl,rfl,(λ _ _=>.refl _)⟩,trivial⟩⟩,rfl⟩) λ _ hm=>by cases hm;exact rt [] [(7,some 4)]
end Go.Proofs.YtifekdmmpbcdgaaGreatDoor

/- Parts of the proof: fk, GaF, NzA, NbA, NbB, NbC, NbD. -/
import Derived.Test.YtfeoedkmndkbjaaGreatDoorQB
import Derived.Test.YtfeoedkmndkbjaaGreatDoorProg
import Derived.KernelRfl
import Derived.Test.YtfeoedkmndkbjaaGreatDoorQA
import Derived.Test.YtfeoedkmndkbjaaGreatDoorQD
namespace Go.Proofs.YtfeoedkmndkbjaaGreatDoor
open Go Go.Sx
def aK:fk:=
 [(2,⟨.int .i64,1,[.int .i64 0],[],8⟩),
  (3,⟨.int .i64,1,[.int .i64 0],[],8⟩),
  (4,⟨.bool,1,[.bool false],[],1⟩),
  (5,⟨.int .u8,1,[.int .u8 0],[],1⟩),
  (9,⟨.str,1,[.string ⟨#[]⟩],[],16⟩),
  (12,⟨.int .u64,1,[.int .u64 0],[],8⟩),
  (13,⟨.struct,2,[.string ⟨#[]⟩,.int .u64 0],[(0,1,false),(1,1,false)],24⟩),
  (21,⟨.int .i32,1,[.int .i32 0],[],4⟩),
  (22,⟨.slice 58,1,[.slice none 0 0],[],24⟩),
  (23,⟨.slice 5,1,[.slice none 0 0],[],24⟩),
  (24,⟨.struct,5,[.int .i64 0,.int .i64 0,.int .i64 0,.int .i64 0,.slice none 0 0],[(0,1,false),(1,1,false),(2,1,false),(3,1,false),(4,1,false)],56⟩),
  (25,⟨.struct,5,[.int .i64 0,.int .i64 0,.int .i64 0,.int .i64 0,.slice none 0 0],[(0,1,false),(1,1,false),(2,1,false),(3,1,false),(4,1,false)],56⟩),
  (29,⟨.slice 25,1,[.slice none 0 0],[],24⟩),
  (31,⟨.struct,3,[.int .i64 0,.int .i64 0,.slice none 0 0],[(0,1,false),(1,1,false),(2,1,false)],40⟩),
  (32,⟨.struct,3,[.int .i64 0,.int .i64 0,.slice none 0 0],[(0,1,false),(1,1,false),(2,1,false)],40⟩),
  (33,⟨.int .i64,1,[.int .i64 0],[],8⟩),
  (36,⟨.struct,5,[.int .i64 0,.int .i64 0,.int .i64 0,.int .i64 0,.slice none 0 0],[(0,1,false),(1,1,false),(2,1,false),(3,1,false),(4,1,false)],56⟩),
  (37,⟨.struct,3,[.int .i64 0,.int .i64 0,.slice none 0 0],[(0,1,false),(1,1,false),(2,1,false)],40⟩),
  (46,⟨.slice 57,1,[.slice none 0 0],[],24⟩),
  (49,⟨.struct,3,[.int .i64 0,.int .i64 0,.slice none 0 0],[(0,1,false),(1,1,false),(2,1,false)],40⟩),
  (50,⟨.struct,3,[.int .i64 0,.int .i64 0,.slice none 0 0],[(0,1,false),(1,1,false),(2,1,false)],40⟩),
  (51,⟨.slice 9,1,[.slice none 0 0],[],24⟩),
  (56,⟨.struct,3,[.string ⟨#[]⟩,.bool false,.slice none 0 0],[(0,1,false),(1,1,false),(2,1,false)],48⟩),
  (57,⟨.struct,3,[.string ⟨#[]⟩,.bool false,.slice none 0 0],[(0,1,false),(1,1,false),(2,1,false)],48⟩),
  (58,⟨.struct,3,[.string ⟨#[]⟩,.bool false,.slice none 0 0],[(0,1,false),(1,1,false),(2,1,false)],48⟩),
  (61,⟨.other,1,[.nilFunc],[],8⟩),
  (62,⟨.arr 7 61,7,[.nilFunc,.nilFunc,.nilFunc,.nilFunc,.nilFunc,.nilFunc,.nilFunc],[],56⟩),
  (72,⟨.arr 12 3,12,[.int .i64 0,.int .i64 0,.int .i64 0,.int .i64 0,.int .i64 0,.int .i64 0,.int .i64 0,.int .i64 0,.int .i64 0,.int .i64 0,.int .i64 0,.int .i64 0],[],96⟩),
  (73,⟨.struct,14,[.int .i64 0,.int .i64 0,.int .i64 0,.int .i64 0,.int .i64 0,.int .i64 0,.int .i64 0,.int .i64 0,.int .i64 0,.int .i64 0,.int .i64 0,.int .i64 0,.int .i64 0,.int .i64 0],[(0,1,false),(1,1,false),(2,12,true)],112⟩),
  (74,⟨.struct,14,[.int .i64 0,.int .i64 0,.int .i64 0,.int .i64 0,.int .i64 0,.int .i64 0,.int .i64 0,.int .i64 0,.int .i64 0,.int .i64 0,.int .i64 0,.int .i64 0,.int .i64 0,.int .i64 0],[(0,1,false),(1,1,false),(2,12,true)],112⟩),
  (77,⟨.ptr 117,1,[.pointer none],[],8⟩),
  (82,⟨.struct,14,[.int .i64 0,.int .i64 0,.int .i64 0,.int .i64 0,.int .i64 0,.int .i64 0,.int .i64 0,.int .i64 0,.int .i64 0,.int .i64 0,.int .i64 0,.int .i64 0,.int .i64 0,.int .i64 0],[(0,1,false),(1,1,false),(2,12,true)],112⟩),
  (89,⟨.ptr 91,1,[.pointer none],[],8⟩),
  (90,⟨.struct,2,[.pointer none,.slice none 0 0],[(0,1,false),(1,1,false)],32⟩),
  (91,⟨.struct,2,[.pointer none,.slice none 0 0],[(0,1,false),(1,1,false)],32⟩),
  (97,⟨.slice 3,1,[.slice none 0 0],[],24⟩),
  (102,⟨.ptr 105,1,[.pointer none],[],8⟩),
  (103,⟨.arr 32 82,448,(List.replicate 448 (.int .i64 0)),[],3584⟩),
  (104,⟨.struct,450,([.slice none 0 0]++List.replicate 448 (.int .i64 0) ++ [.slice none 0 0]),[(0,1,false),(1,448,true),(449,1,false)],3632⟩),
  (105,⟨.struct,450,([.slice none 0 0]++List.replicate 448 (.int .i64 0) ++ [.slice none 0 0]),[(0,1,false),(1,448,true),(449,1,false)],3632⟩),
  (111,⟨.slice 113,1,[.slice none 0 0],[],24⟩),
  (112,⟨.struct,2,[.string ⟨#[]⟩,.int .i64 0],[(0,1,false),(1,1,false)],24⟩),
  (113,⟨.struct,2,[.string ⟨#[]⟩,.int .i64 0],[(0,1,false),(1,1,false)],24⟩),
  (114,⟨.map 3 111,1,[.map none],[],8⟩),
  (115,⟨.arr 32 3,32,(List.replicate 32 (.int .i64 0)),[],256⟩),
  (116,⟨.struct,34,([.slice none 0 0] ++ [.map none]++List.replicate 32 (.int .i64 0)),[(0,1,false),(1,1,false),(2,32,true)],288⟩),
  (117,⟨.struct,34,([.slice none 0 0] ++ [.map none]++List.replicate 32 (.int .i64 0)),[(0,1,false),(1,1,false),(2,32,true)],288⟩),
  (127,⟨.slice 132,1,[.slice none 0 0],[],24⟩),
  (131,⟨.struct,2,[.string ⟨#[]⟩,.int .i64 0],[(0,1,false),(1,1,false)],24⟩),
  (132,⟨.struct,2,[.string ⟨#[]⟩,.int .i64 0],[(0,1,false),(1,1,false)],24⟩),
  (146,⟨.map 9 4,1,[.map none],[],8⟩),
  (151,⟨.ptr 5,1,[.pointer none],[],8⟩),
  (169,⟨.slice 82,1,[.slice none 0 0],[],24⟩),
  (174,⟨.slice 176,1,[.slice none 0 0],[],24⟩),
  (175,⟨.struct,2,[.int .i64 0,.slice none 0 0],[(0,1,false),(1,1,false)],32⟩),
  (176,⟨.struct,2,[.int .i64 0,.slice none 0 0],[(0,1,false),(1,1,false)],32⟩),
  (178,⟨.int .u64,1,[.int .u64 0],[],8⟩),
  (181,⟨.map 3 3,1,[.map none],[],8⟩),
  (182,⟨.map 3 4,1,[.map none],[],8⟩),
  (190,⟨.int .u64,1,[.int .u64 0],[],8⟩),
  (200,⟨.arr 256 4,256,(List.replicate 256 (.bool false)),[],256⟩),
  (201,⟨.arr 256 4,256,(List.replicate 256 (.bool false)),[],256⟩),
  (205,⟨.ptr 201,1,[.pointer none],[],8⟩),
  (222,⟨.int .i64,1,[.int .i64 0],[],8⟩),
  (230,⟨.int .u32,1,[.int .u32 0],[],4⟩),
  (237,⟨.int .u64,1,[.int .u64 0],[],8⟩),
  (241,⟨.ptr 3,1,[.pointer none],[],8⟩),
  (243,⟨.ptr 237,1,[.pointer none],[],8⟩),
  (246,⟨.arr 256 5,256,(List.replicate 256 (.int .u8 0)),[],256⟩),
  (247,⟨.struct,2,[.int .u8 0,.int .u8 0],[(0,1,false),(1,1,false)],2⟩),
  (248,⟨.struct,2,[.int .u8 0,.int .u8 0],[(0,1,false),(1,1,false)],2⟩),
  (249,⟨.arr 16 248,32,(List.replicate 32 (.int .u8 0)),[],32⟩)]
theorem ab:bn Tryz.prog aK:=vY (by kernel_rfl)
end Go.Proofs.YtfeoedkmndkbjaaGreatDoor
namespace Go.Sx
open Go Go.RowKit
set_option linter.unusedVariables false
set_option linter.unusedSimpArgs false
def xh (wA:World) (S:Nat→Prop) (w:World):Prop:=∀ k,k<wA.heap.size→¬ S k→w.heap[k]? = wA.heap[k]?
def AK (wA:World) (S:Nat→Prop) (T e:TypeId) (l:List UInt8) (w:World):Prop:=xh wA S w∧Lib.IsBuilder T e wA.heap.size wA.heap.size (l.map ao) w
theorem AN (l:List UInt8):Lib.strCells ⟨l.toArray⟩=l.map ao:=by
 simp[Lib.strCells,ao]
section
variable {P:Program} {aK:fk} {w0:World} {R:Nat→Nat→Prop} {av:Nat→Prop} {bs:List (Nat×Nat)} {cs:List (List Value)} {F:Fx}
theorem s4 {wA w:World} {S:Nat→Prop} {T e:TypeId} {l:List UInt8} (hS : ∀ k,S k→k<wA.heap.size) (hs:wA.heap.size≤w.heap.size) (ho:xh wA S w)
 (hb:Lib.IsBuilder T e wA.heap.size wA.heap.size (l.map ao) w):Holds S w (AK wA S T e l):=by
 refine⟨fun k=>k<w.heap.size∧¬ S k,fun k hk=>hk,fun w' hw=>⟨fun k hk hn=>(hw k ⟨by omega,hn⟩).trans (ho k hk hn),?_⟩⟩
 have hat : ∀ p,Lib.BuilderAt T e wA.heap.size wA.heap.size p (l.map ao) w→Lib.BuilderAt T e wA.heap.size wA.heap.size p (l.map ao) w':=by
  rintro p ⟨h1,v,h2,⟨h3,h4⟩,h5⟩
  have hnb : ∀ k,wA.heap.size≤k→¬ S k:=fun k hk hn=>by
   have:=hS k hn
   omega
  refine⟨h1,v,(hw _ ⟨aW h2,hnb _ (Nat.le_refl _)⟩).trans h2,⟨h3,?_⟩,h5⟩
  rcases h4 with h4 | ⟨g,cap,cur,q1,q2,q3,q4⟩
  · exact .inl h4
  · exact .inr ⟨g,cap,cur,q1,q2,(hw _ ⟨aW q3,hnb _ q2⟩).trans q3,q4⟩
 rcases hb with hb | hb
 · exact .inl (hat _ hb)
 · exact .inr (hat _ hb)
theorem DA {w:World} (h:St w0 R av w bs cs F) : ∀ k,Av av bs F.rs k→k<w.heap.size:=fun k hk=>h.D5 hk
theorem aj.Cj (hT:bn P aK) {e eb:TypeId} {ti:TI} (ht:look aK e=some ti) (hz:ti.zero = [.pointer none,.slice none 0 0]) {K:KV}
 (h : ∀ wA,(∀ w,xh wA (Av av bs F.rs) w→F.D w)→(∀ k,Av av bs F.rs k→k<wA.heap.size)→w0.heap.size≤wA.heap.size→
  K (.pointer (some ⟨wA.heap.size,0,none⟩)) bs cs ⟨AK wA (Av av bs F.rs) e eb [],F.rs⟩) :
 aj P w0 R av (Instr.alloc e true (.tuple #[])) bs cs F K:=by
 refine bT.2 fun w hst=>?_
 obtain⟨i,d,z,h1,h2,h3,h4,h5,h6,-,-⟩:=aA (hT _ _ ht)
 have hn:=hst.newRow ti.zero e
 have hlt:=DA hst
 have hk:fE w { w with heap:=w.heap.push (.cells ti.zero.toArray e) }:=
  d_ rfl rfl rfl (by simp) (fun b hb=>by simp[Array.getElem?_push,Nat.ne_of_lt hb])
 have hst1:=hst.qD hk
 have hD0 : ∀ w',xh w (Av av bs F.rs) w'→F.D w':=fun w' hw'=>by
  obtain⟨S,hS,hD⟩:=hst.data
  exact hD w' fun b hb=>hw' b (hS b hb).1 (hS b hb).2
 have hsz:=hst.dB.size
 refine⟨_,{ w with heap:=w.heap.push (.cells ti.zero.toArray e) },[],cs,_,?_,?_,by rw[List.append_nil];exact h w hD0 hlt hsz⟩
 · unfold Instr.alloc
   rw[ag (dW h1 h3 w)]
   rw[h6]
   rfl
 · rw[List.append_nil]
   refine⟨hst1.dB,hst1.box,hst1.nd,hst1.own,hst1.avlt,hst1.rows,s4 hlt (by simp) (fun k hk hn=>by simp[Array.getElem?_push,Nat.ne_of_lt hk]) ?_⟩
   refine .inl ⟨Nat.le_refl _,.slice none 0 0,?_,⟨by simp,.inl ⟨rfl,rfl⟩⟩,by simp[Value.ownBlock]⟩
   simp[hz]
theorem St.below {wA w w':World} {S:Nat→Prop} {D D':World→Prop} {rs:List (Nat×Row)} (h:St w0 R av w bs cs ⟨D,rs⟩) (hS : ∀ k,Av av bs rs k→k<wA.heap.size) (h0:w0.heap.size≤wA.heap.size)
 (hb:Below wA.heap.size w w') (hd:Holds (Av av bs rs) w' D'):St w0 R av w' bs cs ⟨D',rs⟩:=by
 have hx : ∀ x∈bs,x.1<wA.heap.size:=fun x hx=>hS _ (.inr (.inl ⟨x,hx,rfl⟩))
 have hr : ∀ r∈rs,r.1<wA.heap.size:=fun r hr=>hS _ (.inr (.inr ⟨r,hr,rfl⟩))
 refine⟨⟨hb.os.trans h.dB.os,hb.tape.trans h.dB.tape,hb.output.trans h.dB.output,Nat.le_trans h.dB.size hb.size,fun b o ho=>?_⟩,h.box.of_same fun x hx'=>hb.block _ (hx x hx'),h.nd,h.own,h.avlt,
  fun r hr'=>⟨(h.rows r hr').1.of_same (hb.block _ (hr r hr')),(h.rows r hr').2⟩,hd⟩
 obtain⟨o',h1,h2⟩:=h.dB.obj b o ho
 have:b<w0.heap.size:=aW ho
 exact⟨o',by rw[hb.block b (by omega)];exact h1,h2⟩
theorem xh.below {wA w w':World} {S:Nat→Prop} (h:xh wA S w) (hb:Below wA.heap.size w w'):xh wA S w':=fun k hk hn=>(hb.block k hk).trans (h k hk hn)
end
end Go.Sx
namespace Go.Proofs.YtfeoedkmndkbjaaGreatDoor
open Go Go.Sx
set_option linter.unusedVariables false
set_option linter.unusedSimpArgs false
section
variable {w0:World} {R:Nat→Nat→Prop} {av:Nat→Prop} {bs:List (Nat×Nat)} {cs:List (List Value)} {rs:List (Nat×Row)}
theorem ak.Cg {wA:World} {l s:List UInt8} {K:KV} (hS : ∀ k,Av av bs rs k→k<wA.heap.size) (h0:w0.heap.size≤wA.heap.size) (hl:l.length+s.length≤1000000)
 (h : ∀ v,K v bs cs ⟨AK wA (Av av bs rs) 91 5 (l++s),rs⟩) :
 ak Tryz.prog w0 R av 52 [.pointer (some ⟨wA.heap.size,0,none⟩),aC s] bs cs ⟨AK wA (Av av bs rs) 91 5 l,rs⟩ K:=by
 refine cQ.2 ⟨⟨_,Tryz.func52,by decide,by decide⟩,fun w hst=>?_⟩
 obtain⟨ho,hb⟩:=hst.now
 have hsz:wA.heap.size≤w.heap.size:=by
  rcases hb with⟨-,v,h2,-⟩ | ⟨-,v,h2,-⟩<;>exact Nat.le_of_lt (aW h2)
 refine(Tryz.Builder_WriteString wA.heap.size wA.heap.size (l.map ao) ⟨s.toArray⟩ w hb (by simp[ByteArray.size];omega) hsz).mono ?_
 rintro e w' ⟨rfl,hat,hbel⟩
 rw[AN,← List.map_append] at hat
 exact⟨_,[],cs,_,rfl,by rw[List.append_nil];exact hst.below (S:=Av av bs rs) hS h0 hbel (s4 hS (Nat.le_trans hsz hbel.size) (ho.below hbel) (.inr hat)),by rw[List.append_nil];exact h _⟩
theorem ak.zU {wA:World} {l:List UInt8} {K:KV} (hS : ∀ k,Av av bs rs k→k<wA.heap.size) (h0:w0.heap.size≤wA.heap.size)
 (h:K (aC l) bs cs ⟨xh wA (Av av bs rs),rs⟩) :
 ak Tryz.prog w0 R av 53 [.pointer (some ⟨wA.heap.size,0,none⟩)] bs cs ⟨AK wA (Av av bs rs) 91 5 l,rs⟩ K:=by
 refine cQ.2 ⟨⟨_,Tryz.func53,by decide,by decide⟩,fun w hst=>?_⟩
 obtain⟨ho,hb⟩:=hst.now
 have hsz:wA.heap.size≤w.heap.size:=by
  rcases hb with⟨-,v,h2,-⟩ | ⟨-,v,h2,-⟩<;>exact Nat.le_of_lt (aW h2)
 refine(Tryz.Builder_String_any wA.heap.size wA.heap.size l w hb hsz).mono ?_
 rintro e w' ⟨rfl,hbel⟩
 refine⟨_,[],cs,_,rfl,by rw[List.append_nil];exact hst.below (S:=Av av bs rs) hS h0 hbel ⟨fun k=>k<wA.heap.size∧¬ Av av bs rs k,fun k hk=>⟨by have:=hbel.size;omega,hk.2⟩,fun w'' hw k hk hn=>(hw k ⟨hk,hn⟩).trans (ho.below hbel k hk hn)⟩,by rw[List.append_nil];exact h⟩
end
end Go.Proofs.YtfeoedkmndkbjaaGreatDoor
namespace Go.Proofs.YtfeoedkmndkbjaaGreatDoor
open Go Go.Sx
theorem mixed:Tryz.prog.follows .mixedOrders=true:=by kernel_rfl
set_option maxRecDepth 100000
set_option maxHeartbeats 4000000
set_option linter.unusedVariables false
set_option linter.unusedSimpArgs false
def s_ (x k:Nat):Nat:=if x/2 ^ k%2=1 then x else x+2 ^ k
def bX (x k:Nat):Nat:=if x/2 ^ k%2=1 then x - 2 ^ k else x
theorem lx {p:Nat→Nat→Prop} [∀ x k,Decidable (p x k)] (h:(List.range 256).all (fun x=>(List.range 8).all fun k=>decide (p x k))=true) {x k:Nat} (hx:x<256) (hk:k<8):p x k:=by
 rw[List.all_eq_true] at h
 have:=h x (List.mem_range.2 hx)
 rw[List.all_eq_true] at this
 simpa using this k (List.mem_range.2 hk)
theorem uP {x k:Nat} (hx:x<256) (hk:k<8):Sx.bits .or .u8 (x:Int) (IntKind.u8.wrap (1*2 ^ k))=(s_ x k:Int):=
 lx (p:=fun x k=>Sx.bits .or .u8 (x:Int) (IntKind.u8.wrap (1*2 ^ k))=(s_ x k:Int)) (by decide +kernel) hx hk
theorem qP {x k:Nat} (hx:x<256) (hk:k<8):Sx.bits .andNot .u8 (x:Int) (IntKind.u8.wrap (1*2 ^ k))=(bX x k:Int):=
 lx (p:=fun x k=>Sx.bits .andNot .u8 (x:Int) (IntKind.u8.wrap (1*2 ^ k))=(bX x k:Int)) (by decide +kernel) hx hk
theorem zu {x k:Nat} (hx:x<256) (hk:k<8):Sx.bits .and .u8 ((x/2 ^ k:Nat):Int) 1=((x/2 ^ k%2:Nat):Int):=
 lx (p:=fun x k=>Sx.bits .and .u8 ((x/2 ^ k:Nat):Int) 1=((x/2 ^ k%2:Nat):Int)) (by decide +kernel) hx hk
theorem DK {x k:Nat} (hx:x<256) (hk:k<8):s_ (bX x k) k=s_ x k:=
 lx (p:=fun x k=>s_ (bX x k) k=s_ x k) (by decide +kernel) hx hk
theorem qo {x k:Nat} (hx:x<256) (hk:k<8):s_ x k<256:=
 lx (p:=fun x k=>s_ x k<256) (by decide +kernel) hx hk
theorem pQ {x k:Nat} (hx:x<256) (hk:k<8):bX x k<256:=
 lx (p:=fun x k=>bX x k<256) (by decide +kernel) hx hk
def da (b:List UInt8) (i:Nat):Bool:=decide (i/8<b.length)&&decide (aJ b (i/8)/2 ^ (i%8)%2=1)
def cq (b:List UInt8) (i:Nat) (on:Bool):List UInt8:=b.set (i/8) (UInt8.ofNat (if on then s_ (aJ b (i/8)) (i%8) else bX (aJ b (i/8)) (i%8)))
theorem bz (b:List UInt8) (i:Nat) (on:Bool):(cq b i on).length=b.length:=by simp[cq]
theorem tc (b:List UInt8) (h:Hd) (hh:h.Ok b.length) (i:Nat) (hi:i≤1000000) (hb:b.length≤1000000):af Tryz.prog 103 [h.v b.length,.int .i64 (i:Int)] (fun w=>By w h b) (fun v F=>v = .bool (da b i)):=by
 refine af.aF ab Tryz.func103 rfl (by decide) (n:=Tryz.f103.ntmps - 2) rfl rfl fun w0 av=>?_
 have hw:IntKind.i64.wrap (Int.tdiv (i:Int) (Int.ofNat 8))=((i/8:Nat):Int):=kI i 8 (by omega)
 have hm:Int.tmod (i:Int) (Int.ofNat 8)=((i%8:Nat):Int):=dL i 8
 conv=>whnf
 repeat (refine aa.of ?_;conv=>whnf)
 refine aH.split (fun ht=>?_) (fun ht=>?_)
 · conv=>whnf
   have hlt:i/8<b.length:=by
    simp only[bI,au,Bool.and_eq_true,decide_eq_true_eq] at ht
    have:=ht.2
    rw[hw] at this
    omega
   refine aj.ah (ai.cL ab (t:=23) rfl rfl rfl rfl (i/8) hw hlt hh fun ad had=>?_)
   conv=>whnf
   refine aj.ah (ai.cy ab (t:=5) rfl rfl had (.fact fun w h=>h) rfl hlt ?_)
   conv=>whnf
   refine aj.ah (ai.shr (a:=aJ b (i/8)) hm (by show i%8≤8;omega) ?_)
   conv=>whnf
   repeat (refine aa.of ?_;conv=>whnf)
   refine⟨_,aq.refl _,?_⟩
   show Value.bool (true&&cN (Sx.bits .and .u8 ((aJ b (i/8)/2 ^ (i%8):Nat):Int) 1) 1)=_
   rw[zu (bJ _ _) (Nat.mod_lt _ (by decide)),aD]
   unfold da
   rw[decide_eq_true hlt,Bool.true_and]
   generalize aJ b (i/8)/2 ^ (i%8)%2=q
   congr 1
   rw[Bool.eq_iff_iff]
   simp only[Bool.true_and,beq_iff_eq,decide_eq_true_eq]
   omega
 · conv=>whnf
   repeat (refine aa.of ?_;conv=>whnf)
   refine⟨_,aq.refl _,?_⟩
   have hlt : ¬ i/8<b.length:=by
    simp only[bI,au,Bool.and_eq_false_iff,decide_eq_false_iff_not] at ht
    rw[hw] at ht
    omega
   unfold da
   rw[decide_eq_false hlt]
   rfl
theorem sO (b:List UInt8) (h:Hd) (hh:h.Ok b.length) (i:Nat) (on:Bool) (hi:i/8<b.length) (hb:b.length≤1000000):af Tryz.prog 85 [h.v b.length,.int .i64 (i:Int),.bool on] (fun w=>By w h b) (lq (cq b i on)):=by
 refine af.aF ab Tryz.func85 rfl (by decide) (n:=Tryz.f85.ntmps - 3) rfl rfl fun w0 av=>?_
 have hw:IntKind.i64.wrap (Int.tdiv (i:Int) (Int.ofNat 8))=((i/8:Nat):Int):=kI i 8 (by omega)
 have hm:Int.tmod (i:Int) (Int.ofNat 8)=((i%8:Nat):Int):=dL i 8
 have h8:i%8<8:=Nat.mod_lt _ (by decide)
 conv=>whnf
 repeat (refine aa.of ?_;conv=>whnf)
 refine aj.build ab (t:=23) rfl rfl rfl [] rfl rfl (by simp) (by decide) fun b0=>?_
 conv=>whnf
 refine aj.c_ (F':=⟨fun w=>By w h b,[]⟩) (aq.of_le ⟨by simp,fun w hw=>hw⟩) ?_
 refine aj.eQ ab (t:=23) (xt:=23) rfl rfl rfl rfl rfl rfl rfl rfl (l:=b) (.fact fun w hw=>hw) (by omega) hb fun b1 c1 Z hc hZ=>?_
 conv=>whnf
 refine aI.draw ab mixed rfl rfl ?_
 conv=>whnf
 repeat' (first
  | (refine And.intro ?_ ?_<;>conv=>whnf)
  | (refine ax.same rfl ?_;conv=>whnf)
  | (refine ax.row rfl ?_;conv=>whnf)
  | (refine ax.call rfl ?_;conv=>whnf)
  | (refine bG.of ?_;conv=>whnf)
  | (refine aa.of ?_;conv=>whnf)
  | (refine ai.jf ab (t:=23) rfl rfl rfl rfl (i/8) hw hi ?_;conv=>whnf)
  | (refine ai.sM ab (t:=5) rfl rfl (l:=b) (bp.bytes (Z:=Z) (by simp)) hi ?_;conv=>whnf)
  | (refine ai.shl (j:=i%8) hm (by show i%8≤8;omega) ?_;conv=>whnf)
  | (refine a_.cC ab (t:=5) rfl rfl (r1:=[]) (r2:=[]) (l:=b) (Z:=Z) (bX (aJ b (i/8)) (i%8)) rfl (qP (bJ _ _) h8) (pQ (bJ _ _) h8) hi ?_;conv=>whnf)
  | (refine ax.mk ?_ ?_;(focus (first | exact aq.refl _ | exact aq.left _ _ | exact aq.of_le ⟨List.sublist_append_left _ _,fun w h=>h⟩ | exact aq.of_le ⟨List.Sublist.refl _,fun w h=>h.1⟩));conv=>whnf))
 refine aH.split (fun hon=>?_) (fun hon=>?_)
 · conv=>whnf
   have e1:aJ (dm b (i/8) (bX (aJ b (i/8)) (i%8))) (i/8)=bX (aJ b (i/8)) (i%8):=by rw[dy hi (pQ (bJ _ _) h8),if_pos rfl]
   have e2:(dm b (i/8) (bX (aJ b (i/8)) (i%8))).length=b.length:=dn ..
   have e3:dm (dm b (i/8) (bX (aJ b (i/8)) (i%8))) (i/8) (s_ (aJ b (i/8)) (i%8))=cq b i on:=by
    subst hon
    simp[dm,cq]
   generalize hb':dm b (i/8) (bX (aJ b (i/8)) (i%8))=b' at *
   refine aI.draw ab mixed rfl rfl ?_
   conv=>whnf
   repeat' (first
    | (refine And.intro ?_ ?_<;>conv=>whnf)
    | (refine ax.same rfl ?_;conv=>whnf)
    | (refine ax.row rfl ?_;conv=>whnf)
    | (refine ax.call rfl ?_;conv=>whnf)
    | (refine bG.of ?_;conv=>whnf)
    | (refine aa.of ?_;conv=>whnf)
    | (refine ai.jf ab (t:=23) rfl rfl rfl rfl (i/8) hw hi ?_;conv=>whnf)
    | (refine ai.sM ab (t:=5) rfl rfl (l:=b') (bp.bytes (Z:=Z) (by simp)) (by omega) ?_;conv=>whnf)
    | (refine ai.shl (j:=i%8) hm (by show i%8≤8;omega) ?_;conv=>whnf)
    | (refine a_.cC ab (t:=5) rfl rfl (r1:=[]) (r2:=[]) (l:=b') (Z:=Z) (s_ (aJ b (i/8)) (i%8)) rfl ((uP (bJ _ _) h8).trans (by rw[e1,DK (bJ _ _) h8])) (qo (bJ _ _) h8) (by omega) ?_;conv=>whnf)
    | (refine ax.mk ?_ ?_;(focus (first | exact aq.refl _ | exact aq.left _ _ | exact aq.of_le ⟨List.sublist_append_left _ _,fun w h=>h⟩ | exact aq.of_le ⟨List.Sublist.refl _,fun w h=>h.1⟩));conv=>whnf))
   rw[e3]
   exact mZ (bz ..).symm hc
 · conv=>whnf
   repeat (refine aa.of ?_;conv=>whnf)
   have e3:dm b (i/8) (bX (aJ b (i/8)) (i%8))=cq b i on:=by
    subst hon
    simp[dm,cq]
   rw[e3]
   exact mZ (bz ..).symm hc
theorem tI (b:List UInt8) (h:Hd) (hh:h.Ok b.length) (i:Nat) (on:Bool) (hi:i/8<b.length) (hb:b.length≤1000000) :
 af Tryz.prog 41 [h.v b.length,.int .i64 (i:Int),.bool on] (fun w=>By w h b) (fun v F=>∃ k:Hd,v = .tuple #[k.v b.length,.int .i64 0]∧k.Ok b.length∧F=⟨fun w=>By w k (cq b i on),[]⟩):=by
 refine af.aF ab Tryz.func41 rfl (by decide) (n:=Tryz.f41.ntmps - 3) rfl rfl fun w0 av=>?_
 have hw:IntKind.i64.wrap (Int.tdiv (i:Int) (Int.ofNat 8))=((i/8:Nat):Int):=kI i 8 (by omega)
 conv=>whnf
 repeat (refine aa.of ?_;conv=>whnf)
 generalize hc:(mL _ _||_)=c
 cases c
 rotate_left
 · exfalso
   simp only[au,bI,Bool.or_eq_true,decide_eq_true_eq] at hc
   rcases hc with hc | hc
   · omega
   · rw[show(Int.ofNat (7+1))=Int.ofNat 8 from rfl,hw] at hc
     omega
 conv=>whnf
 refine ak.pure (sO b h hh i on hi hb) (fun w hw=>hw) (fun v D hv=>?_)
 obtain⟨k,rfl,hk,rfl⟩:=hv
 rw[bz] at hk ⊢
 conv=>whnf
 exact⟨_,aq.of_le ⟨by simp[Fx.and],fun w hw=>hw.2⟩,k,rfl,hk,rfl⟩
theorem vm (b:List UInt8) (h:Hd) (i j:Nat) (hb:b.length≤1000000) (hij:i≤j∧j≤8*b.length) :
 af Tryz.prog 151 [h.v b.length,.int .i64 (i:Int),.int .i64 (j:Int)] (fun w=>True) (fun v F=>v = .bool true):=by
 refine af.aF ab Tryz.func151 rfl (by decide) (n:=Tryz.f151.ntmps - 3) rfl rfl fun w0 av=>?_
 conv=>whnf
 repeat (refine aa.of ?_;conv=>whnf)
 refine⟨_,aq.refl _,?_⟩
 congr 1
 simp only[eU,bI,Bool.and_eq_true,decide_eq_true_eq]
 rw[wrap_i64 (by omega)]
 omega
def cI (b:List UInt8):Option Nat:=(List.range' 18 78).find? fun i=>!da b i
theorem qq {b:List UInt8} {i:Nat} (h1:18≤i) (h2:i<96) (hb : ∀ j,18≤j→j<i→da b j=true) (hi:da b i=false):cI b=some i:=by
 unfold cI
 rw[List.find?_range'_eq_some]
 refine⟨by simp[hi],?_,?_⟩
 · rw[List.mem_range'_1]
   omega
 · intro j hj hj2
   simp[hb j hj hj2]
theorem qB {b:List UInt8} (hb : ∀ j,18≤j→j<96→da b j=true):cI b=none:=by
 unfold cI
 rw[List.find?_eq_none]
 intro j hj
 rw[List.mem_range'_1] at hj
 simp[hb j (by omega) (by omega)]
def aE (n:Nat):Value:=.int .i64 (n:Int)
def CL (b:List UInt8) (v:Value) (F:Fx):Prop:=
 match cI b with
 | none=>∃ e:Int,e=13∧v = .tuple #[.slice none 0 0,.slice none 0 0,.int .i64 e]∧F=⟨fun w=>True,[]⟩
 | some i=>∃ (l k:Hd) (e:Int),e=0∧v = .tuple #[l.v 1,k.v b.length,.int .i64 e]∧l.Ok 1∧k.Ok b.length∧F=⟨fun w=>aB w l.a [aE i]∧By w k (cq b i true),[]⟩
theorem yc (b:List UInt8) (h:Hd) (hh:h.Ok b.length) (hb:b.length=12):af Tryz.prog 127 [h.v b.length,.int .i64 18,.int .i64 96,.int .i64 1] (fun w=>By w h b) (CL b):=by
 generalize hone:(1:Int)=one
 generalize h96:(96:Int)=n96
 generalize h18:(18:Int)=n18
 refine af.aF ab Tryz.func127 rfl (by decide) (n:=Tryz.f127.ntmps - 4) rfl rfl fun w0 av=>?_
 conv=>whnf
 subst h18 h96
 refine ak.val (vm b h 18 96 (by omega) (by omega)) (fun w hw=>trivial) (fun v D hv=>?_)
 obtain⟨vv,hvv⟩ : ∃ vv,vv=true:=⟨_,rfl⟩
 rw[← hvv] at hv
 subst hv
 conv=>whnf
 repeat (refine aa.of ?_;conv=>whnf)
 refine aH.no (by subst hvv hone;simp[au]) ?_
 conv=>whnf
 generalize h96:(96:Int)=n96
 refine aI.loop ab (ι:=Nat×Bool×Option Addr×Nat×List Value×Hd) ([11,12,13]++List.range' 25 22)
  (fun x=>(18≤x.1∧x.1≤96)∧x.2.2.2.2.2.Ok b.length∧match x.2.1 with
   | false=>(∀ j,18≤j→j<x.1→da b j=true)∧x.2.2.1=none∧x.2.2.2.1=0∧x.2.2.2.2.1 = []
   | true=>19≤x.1∧cI b=some (x.1 - 1)∧Own 1 1 x.2.2.1 x.2.2.2.1 x.2.2.2.2.1 [aE (x.1 - 1)])
  (fun x=>[(11,.v (.slice x.2.2.1 (cond x.2.1 1 0) x.2.2.2.1)),(12,.v (x.2.2.2.2.2.v b.length)),(13,.v (.int .i64 (x.1:Int)))]) (fun _=>[])
  (fun x=>⟨fun w=>By w h b∧By w x.2.2.2.2.2 (cond x.2.1 (cq b (x.1 - 1) true) b),aR x.2.2.1 x.2.2.2.2.1⟩)
  (fun x=>96 - x.1) (18,false,none,0,[],h) ⟨⟨Nat.le_refl _,by omega⟩,hh,fun j h1 h2=>by omega,rfl,rfl,rfl⟩ ?_ rfl (aq.of_le ⟨by simp[aR],fun w hw=>by exact⟨hw,hw⟩⟩) fun x hx=>?_
 · conv=>whnf
   repeat (first | exact aw.nil | refine aw.any ?_ | refine aw.cons ?_)
 obtain⟨i,fo,a,cap,C,k⟩:=x
 obtain⟨⟨hi1,hi2⟩,hk,hx⟩:=hx
 dsimp only at hi1 hi2 hk hx ⊢
 cases fo
 · obtain⟨hall,rfl,rfl,rfl⟩:=hx
   conv=>whnf
   repeat (refine aa.of ?_;conv=>whnf)
   refine aH.split (fun ht=>?_) (fun ht=>?_)
   · conv=>whnf
     have hlt:i<96:=by
      subst h96
      simp only[au,Bool.and_eq_true,decide_eq_true_eq] at ht
      omega
     refine ak.val (tc b h hh i (by omega) (by omega)) (fun w hw=>hw.1) (fun v D hv=>?_)
     generalize hg:da b i=g at hv
     subst hv
     conv=>whnf
     cases g
     · conv=>whnf
       repeat' (first
        | (refine aH.yes rfl ?_;conv=>whnf))
       refine aj.build ab (t:=97) rfl rfl rfl [.int .i64 (i:Int)] rfl rfl (by simp[Value.cells]) (by decide) fun b0=>?_
       conv=>whnf
       refine aj.c_ (F':=⟨fun w=>By w h b∧By w k b,[]++aR none [] ++ [(b0,Row.c [aE i])]⟩) (aq.of_le ⟨by simp[Value.cells,aR,aE],fun w hw=>hw⟩) ?_
       refine aj.append ab (t:=97) (xt:=97) rfl rfl rfl rfl rfl rfl (r1:=[]) (r2:=[(b0,Row.c [aE i])]) (M:=[aE i]) (Own.nil 1) (bp.row (by simp)) rfl (by simp[aE,aO]) (by simp) (by simp) fun a' c' C' hO'=>?_
       conv=>whnf
       refine ak.pure (sO b k hk i true (by omega) (by omega)) (fun w hw=>hw.2) (fun v D hv=>?_)
       obtain⟨k2,rfl,hk2,rfl⟩:=hv
       rw[bz] at hk2 ⊢
       conv=>whnf
       refine⟨(i+1,true,a',c',C',k2),⟨⟨⟨by dsimp only;omega,by dsimp only;omega⟩,hk2,by dsimp only;omega,?_,?_⟩,by dsimp only;omega⟩,?_,?_,?_⟩
       · exact qq hi1 hlt hall hg
       · simpa using hO'
       · conv=>whnf
         refine⟨?_,rfl⟩
         repeat (first | exact aw.nil | refine aw.any ?_ | refine aw.cons ?_ | refine aw.eq (by rw[wrap_i64 (by omega)];rfl) ?_)
       · conv=>whnf
         exact trivial
       · refine aq.of_le ⟨by simp[Fx.and,aR],fun w hw=>⟨hw.1.1,hw.2⟩⟩
     · conv=>whnf
       repeat' (first
        | (refine aH.no rfl ?_;conv=>whnf))
       refine⟨(i+1,false,none,0,[],k),⟨⟨⟨by dsimp only;omega,by dsimp only;omega⟩,hk,fun j h1 h2=>?_,rfl,rfl,rfl⟩,by dsimp only;omega⟩,?_,?_,aq.refl _⟩
       · rcases Nat.lt_or_eq_of_le (Nat.lt_succ_iff.1 h2) with h3 | h3
         · exact hall j h1 h3
         · subst h3
           exact hg
       · conv=>whnf
         refine⟨?_,rfl⟩
         repeat (first | exact aw.nil | refine aw.any ?_ | refine aw.cons ?_ | refine aw.eq (by rw[wrap_i64 (by omega)];rfl) ?_)
       · conv=>whnf
         exact trivial
   · conv=>whnf
     have hie:i=96:=by
      subst h96
      subst hone
      simp[au] at ht
      omega
     refine aH.yes (by subst hone;simp[au]) ?_
     conv=>whnf
     refine⟨⟨fun w=>True,[]⟩,aq.bare fun w hw=>trivial,?_⟩
     unfold CL
     rw[qB (fun j h1 h2=>hall j h1 (by omega))]
     exact⟨13,rfl,rfl,rfl⟩
 · obtain⟨hi3,hfr,hO⟩:=hx
   conv=>whnf
   repeat (refine aa.of ?_;conv=>whnf)
   refine aH.no (by subst hone;simp[au]) ?_
   conv=>whnf
   refine aH.no (by subst hone;simp[au]) ?_
   conv=>whnf
   refine⟨⟨fun w=>aB w a [aE (i - 1)]∧By w k (cq b (i - 1) true),[]⟩,(Own.gives hO).trans (aq.imp fun w hw=>⟨hw.2,hw.1.2⟩),?_⟩
   unfold CL
   rw[hfr]
   exact⟨⟨a,cap⟩,k,0,rfl,rfl,hO.hd,hk,rfl⟩
theorem ea (h:Hd) (m n:Nat) (hh:h.Ok m) (hn:128*(n+1)≤m) (hm:m≤1000000):af Tryz.prog 39 [h.v m,.int .i64 (n:Int)] (fun w=>True) (fun v F=>v=(Hd.sub h (128*n)).v 128):=by
 have hc:=hh.cap
 refine af.aF ab Tryz.func39 rfl (by decide) (n:=Tryz.f39.ntmps - 2) rfl rfl fun w0 av=>?_
 conv=>whnf
 refine aj.ah (ai.pD ab (t:=23) rfl rfl rfl rfl (128*n) 128
  (by show IntKind.i64.wrap ((n:Int)*128)=_;rw[wrap_i64 (by omega)];omega) (by show IntKind.i64.wrap ((IntKind.i64.wrap ((n:Int)+1))*128)=_;rw[wrap_i64 (n:=(n:Int)+1) (by omega),wrap_i64 (by omega)];omega) (by omega) ?_)
 conv=>whnf
 exact⟨_,aq.refl _,rfl⟩
theorem pE (n:Nat) (hn:n≤1000):af Tryz.prog 86 [.int .i64 (n:Int)] (fun w=>True) (fun v F=>v = .int .i64 ((1792+16*n:Nat):Int)):=by
 refine af.aF ab Tryz.func86 rfl (by decide) (n:=Tryz.f86.ntmps - 1) rfl rfl fun w0 av=>?_
 conv=>whnf
 refine⟨_,aq.refl _,?_⟩
 show Value.int _ _=Value.int _ _
 congr 1
 rw[wrap_i64 (n:=16*(n:Int)) (by omega),wrap_i64 (by omega)]
 omega
def bg (k s:Nat) (b:Nat→Nat):List Value:=[aE k,aE s,aE (b 0),aE (b 1),aE (b 2),aE (b 3),aE (b 4),aE (b 5),aE (b 6),aE (b 7),aE (b 8),aE (b 9),aE (b 10),aE (b 11)]
theorem ju {k s:Nat} {b:Nat→Nat} {i:Nat} (hi:i<12) (v:Nat):laid (bg k s b) (2+i) [aE v]=bg k s (fun j=>if j=i then v else b j):=by
 match i,hi with
 | 0,_ | 1,_ | 2,_ | 3,_ | 4,_ | 5,_ | 6,_ | 7,_ | 8,_ | 9,_ | 10,_ | 11,_=>rfl
theorem cP {k s:Nat} {b:Nat→Nat} {i:Nat} (hi:i<12):(bg k s b)[2+i]? = some (aE (b i)):=by
 match i,hi with
 | 0,_ | 1,_ | 2,_ | 3,_ | 4,_ | 5,_ | 6,_ | 7,_ | 8,_ | 9,_ | 10,_ | 11,_=>rfl
theorem gS {k s:Nat} {b b':Nat→Nat} (h : ∀ i,i<12→b i=b' i):bg k s b=bg k s b':=by
 simp only[bg,h 0 (by decide),h 1 (by decide),h 2 (by decide),h 3 (by decide),h 4 (by decide),h 5 (by decide),h 6 (by decide),h 7 (by decide),h 8 (by decide),h 9 (by decide),h 10 (by decide),h 11 (by decide)]
def rk (d:List UInt8) (n:Nat):Nat:=aJ d (1792+16*n)
def rs (d:List UInt8) (n:Nat):Nat:=256*aJ d (1792+16*n+1)+aJ d (1792+16*n+2)
def rb (d:List UInt8) (n i:Nat):Nat:=aJ d (1792+16*n+(3+i))
def rp (d:List UInt8) (n:Nat):Nat:=aJ d (1792+16*n+15)
theorem ej (l:List UInt8) (i:Nat):IntKind.i64.wrap (aJ l i:Int)=(aJ l i:Int):=by
 have:=bJ l i
 rw[wrap_i64 (by omega)]
theorem nN (d:List UInt8) (h:Hd) (n:Nat) (hh:h.Ok d.length) (hd:d.length=12288) (hn:n<32):af Tryz.prog 102 [h.v d.length,.int .i64 (n:Int)] (fun w=>By w h d) (fun v F=>v = .agg ⟨bg (rk d n) (rs d n) (rb d n)⟩):=by
 have hc:=hh.cap
 refine af.aF ab Tryz.func102 rfl (by decide) (n:=Tryz.f102.ntmps - 2) rfl rfl fun w0 av=>?_
 refine nG ?_
 refine tP (ti:=(Sx.look aK 74).get rfl) rfl rfl ?_
 conv=>whnf
 intro b0
 conv=>whnf
 refine ak.val (pE n (by omega)) (fun w hw=>trivial) (fun v D hv=>?_)
 subst hv
 conv=>whnf
 refine ak.val (pE n (by omega)) (fun w hw=>trivial) (fun v D hv=>?_)
 subst hv
 conv=>whnf
 refine aj.ah (ai.pD ab (t:=23) rfl rfl rfl rfl (1792+16*n) 16
  rfl (by show IntKind.i64.wrap (((1792+16*n:Nat):Int)+16)=_;rw[wrap_i64 (by omega)];omega) (by omega) ?_)
 have hsub:=fun w (hw:By w h d)=>By.sub hw (l:=1792+16*n) (k:=16) (by omega)
 have hcl:(cut d (1792+16*n) 16).length=16:=aZ (by omega)
 have hok:(Hd.sub h (1792+16*n)).Ok 16:=Hd.eu hh (by omega)
 conv=>whnf
 refine aI.draw ab mixed rfl rfl ?_
 conv=>whnf
 repeat' (first
  | (refine And.intro ?_ ?_<;>conv=>whnf)
  | (refine ax.same rfl ?_;conv=>whnf)
  | (refine ax.row rfl ?_;conv=>whnf)
  | (refine ax.call rfl ?_;conv=>whnf)
  | (refine bG.of ?_;conv=>whnf)
  | (refine aa.of ?_;conv=>whnf)
  | (refine ai.cL ab (t:=23) rfl rfl rfl rfl 0 rfl (by decide) hok fun ad had=>?_;conv=>whnf)
  | (refine ai.cL ab (t:=23) rfl rfl rfl rfl 1 rfl (by decide) hok fun ad had=>?_;conv=>whnf)
  | (refine ai.cL ab (t:=23) rfl rfl rfl rfl 2 rfl (by decide) hok fun ad had=>?_;conv=>whnf)
  | (refine ai.cy ab (t:=5) rfl rfl had (.fact fun w h=>hsub w h) rfl (by omega) ?_;conv=>whnf)
  | (refine ax.mk ?_ ?_;(focus (first | exact aq.refl _ | exact aq.left _ _ | exact aq.of_le ⟨List.sublist_append_left _ _,fun w h=>h⟩ | exact aq.of_le ⟨List.Sublist.refl _,fun w h=>h.1⟩));conv=>whnf))
 intro b1
 conv=>whnf
 repeat' (first
  | (refine And.intro ?_ ?_<;>conv=>whnf)
  | (refine ax.same rfl ?_;conv=>whnf)
  | (refine ax.row rfl ?_;conv=>whnf)
  | (refine ax.call rfl ?_;conv=>whnf)
  | (refine bG.of ?_;conv=>whnf)
  | (refine aa.of ?_;conv=>whnf)
  | (refine ax.mk ?_ ?_;(focus (first | exact aq.refl _ | exact aq.left _ _ | exact aq.of_le ⟨List.sublist_append_left _ _,fun w h=>h⟩ | exact aq.of_le ⟨List.Sublist.refl _,fun w h=>h.1⟩));conv=>whnf))
 simp only[a8 (show 1792+16*n+16≤d.length by omega) (show 0<16 by decide),a8 (show 1792+16*n+16≤d.length by omega) (show 1<16 by decide),a8 (show 1792+16*n+16≤d.length by omega) (show 2<16 by decide)]
 have e1:IntKind.i64.wrap (aJ d (1792+16*n+0):Int)=(rk d n:Int):=ej _ _
 have e2:IntKind.i64.wrap (IntKind.i64.wrap (256*IntKind.i64.wrap (aJ d (1792+16*n+1):Int))+IntKind.i64.wrap (aJ d (1792+16*n+2):Int))=(rs d n:Int):=by
  have h1:=bJ d (1792+16*n+1)
  have h2:=bJ d (1792+16*n+2)
  rw[ej,ej,wrap_i64 (n:=256*(aJ d (1792+16*n+1):Int)) (by omega),wrap_i64 (by omega)]
  unfold rs
  omega
 refine aI.loop ab (ι:=Nat) ([7]++List.range' 30 13) (fun x=>x≤12)
  (fun x=>[(7,.v (.int .i64 (x:Int)))]) (fun x=>[((Sx.look aK 74).get rfl).zero,bg (rk d n) (rs d n) fun j=>if j<x then rb d n j else 0]) (fun _=>⟨fun w=>By w h d,[]⟩)
  (fun x=>12 - x) 0 (Nat.zero_le _) ?_ (by simp only[e1,e2];rfl) (aq.refl _) fun i hi=>?_
 · conv=>whnf
   repeat (first | exact aw.nil | refine aw.any ?_ | refine aw.cons ?_)
 conv=>whnf
 refine aH.split (fun hlt=>?_) (fun hlt=>?_)
 · conv=>whnf
   have hlt':i<12:=by
    simp only[au,decide_eq_true_eq] at hlt
    omega
   refine aj.ah (ai.cL ab (t:=23) rfl rfl rfl rfl (3+i) (by rw[wrap_i64 (by omega)];rfl) (by omega) hok fun ad had=>?_)
   conv=>whnf
   refine aj.ah (ai.cy ab (t:=5) rfl rfl had (.fact fun w h=>hsub w h) rfl (by omega) ?_)
   conv=>whnf
   rw[bL hlt']
   conv=>whnf
   refine eB (by simp[bg];omega) ?_
   conv=>whnf
   refine⟨i+1,⟨hlt',by dsimp only;omega⟩,?_,?_,aq.refl _⟩
   · conv=>whnf
     refine⟨?_,rfl⟩
     repeat (first | exact aw.nil | refine aw.any ?_ | refine aw.cons ?_ | refine aw.eq (by rw[wrap_i64 (by omega)];rfl) ?_)
   · conv=>whnf
     refine⟨⟨rfl,rfl⟩,⟨rfl,?_⟩,trivial⟩
     rw[a8 (by omega) (by omega),ej]
     dsimp only
     rw[Nat.mul_one,Nat.zero_add]
     show laid (bg _ _ _) (2+i) [aE (rb d n i)]=_
     rw[ju hlt']
     refine gS fun j hj=>?_
     by_cases hji:j=i
     · subst hji
       simp
     · simp only[if_neg hji]
       by_cases h1:j<i
       · rw[if_pos h1,if_pos (by omega)]
       · rw[if_neg h1,if_neg (by omega)]
 · conv=>whnf
   have hie:i=12:=by
    simp only[au,decide_eq_false_iff_not] at hlt
    omega
   subst hie
   refine⟨_,aq.refl _,?_⟩
   have e:=gS (k:=rk d n) (s:=rs d n) (b:=fun j=>if j<12 then rb d n j else 0) (b':=rb d n) fun j hj=>by simp[hj]
   exact congrArg (fun l=>Value.agg ⟨l⟩) e
def gz (l:List UInt8):Bool:=l.all (· == 0)
theorem e8 {l:List UInt8}:gz l=true↔∀ i,i<l.length→aJ l i=0:=by
 unfold gz
 rw[List.all_eq_true]
 constructor
 · intro h i hi
   rw[lJ hi]
   have:=h _ (List.getElem_mem hi)
   simp at this
   rw[this]
   rfl
 · intro h x hx
   obtain⟨i,hi,rfl⟩:=List.getElem_of_mem hx
   have:=h i hi
   rw[lJ hi] at this
   simpa using UInt8.toNat_inj.1 this
theorem mG (l:List UInt8) (h:Hd) (hh:h.Ok l.length) (hl:l.length≤1000000):af Tryz.prog 100 [h.v l.length] (fun w=>By w h l) (fun v F=>v = .bool (gz l)):=by
 refine af.aF ab Tryz.func100 rfl (by decide) (n:=Tryz.f100.ntmps - 1) rfl rfl fun w0 av=>?_
 conv=>whnf
 refine aI.loop ab (ι:=Nat) ([3]++List.range' 4 11) (fun x=>x≤l.length∧∀ j,j<x→aJ l j=0)
  (fun x=>[(3,.v (.int .i64 (x:Int)))]) (fun _=>[]) (fun _=>⟨fun w=>By w h l,[]⟩)
  (fun x=>l.length - x) 0 ⟨Nat.zero_le _,fun j hj=>by omega⟩ ?_ rfl (aq.refl _) fun i hi=>?_
 · conv=>whnf
   repeat (first | exact aw.nil | refine aw.any ?_ | refine aw.cons ?_)
 obtain⟨hi,hall⟩:=hi
 conv=>whnf
 refine aH.split (fun hlt=>?_) (fun hlt=>?_)
 · conv=>whnf
   have hlt':i<l.length:=by
    simp only[au,decide_eq_true_eq] at hlt
    omega
   refine aj.ah (ai.cL ab (t:=23) rfl rfl rfl rfl i rfl hlt' hh fun ad had=>?_)
   conv=>whnf
   refine aj.ah (ai.cy ab (t:=5) rfl rfl had (.fact fun w h=>h) rfl hlt' ?_)
   conv=>whnf
   refine aH.split (fun h0=>?_) (fun h0=>?_)
   · conv=>whnf
     refine⟨_,aq.refl _,?_⟩
     have:gz l=false:=by
      rw[Bool.eq_false_iff,Ne,e8]
      intro hh
      have:=hh i hlt'
      simp[ar,this] at h0
     rw[this]
   · conv=>whnf
     refine⟨i+1,⟨⟨hlt',fun j hj=>?_⟩,by dsimp only;omega⟩,?_,?_,aq.refl _⟩
     · rcases Nat.lt_or_eq_of_le (Nat.lt_succ_iff.1 hj) with h1 | h1
       · exact hall j h1
       · subst h1
         simp[ar] at h0
         omega
     · conv=>whnf
       refine⟨?_,rfl⟩
       repeat (first | exact aw.nil | refine aw.any ?_ | refine aw.cons ?_ | refine aw.eq (by rw[wrap_i64 (by omega)];rfl) ?_)
     · conv=>whnf
       exact trivial
 · conv=>whnf
   have hie:i=l.length:=by
    simp only[au,decide_eq_false_iff_not] at hlt
    omega
   subst hie
   exact⟨_,aq.refl _,by rw[e8.2 hall]⟩
def fG (k s:Nat) (b:Nat→Nat):List UInt8:=[UInt8.ofNat k,UInt8.ofNat (s/256),UInt8.ofNat (s%256)]++(List.range 12).map (fun i=>UInt8.ofNat (b i)) ++ [0]
theorem kQ (k s:Nat) (b:Nat→Nat):(fG k s b).length=16:=by simp[fG]
def cS (d:List UInt8) (n k s:Nat) (b:Nat→Nat):List UInt8:=lay d (1792+16*n) (fG k s b)
theorem bf {d:List UInt8} (hd:d.length=12288) {n:Nat} (hn:n<32) (k s:Nat) (b:Nat→Nat):(cS d n k s b).length=12288:=by
 unfold cS
 rw[ct (by rw[kQ];omega),hd]
theorem fB (d:List UInt8) (h:Hd) (n k s:Nat) (b:Nat→Nat) (hh:h.Ok d.length) (hd:d.length=12288) (hn:n<32) (hk:k≤1000000) (hs:s≤1000000) (hb : ∀ i,b i≤1000000) :
 af Tryz.prog 42 [h.v d.length,.int .i64 (n:Int),.agg ⟨bg k s b⟩] (fun w=>By w h d) (vq (cS d n k s b)):=by
 have hc:=hh.cap
 refine af.aF ab Tryz.func42 rfl (by decide) (n:=Tryz.f42.ntmps - 3) rfl rfl fun w0 av=>?_
 conv=>whnf
 intro b0
 conv=>whnf
 refine aj.build ab (t:=23) rfl rfl rfl [] rfl rfl (by simp) (by decide) fun b1=>?_
 conv=>whnf
 refine aj.c_ (F':=⟨fun w=>By w h d,[]⟩) (aq.of_le ⟨by simp,fun w hw=>hw⟩) ?_
 refine aj.eQ ab (t:=23) (xt:=23) rfl rfl rfl rfl rfl rfl rfl rfl (l:=d) (.fact fun w hw=>hw) (by omega) (by omega) fun b2 c2 Z hc2 hZ=>?_
 conv=>whnf
 refine aj.build ab (t:=23) rfl rfl rfl [.int .u8 (IntKind.u8.wrap (k:Int)),.int .u8 (IntKind.u8.wrap (IntKind.i64.wrap (Int.tdiv (s:Int) (Int.ofNat 256)))),.int .u8 (IntKind.u8.wrap (Int.tmod (s:Int) (Int.ofNat 256)))] rfl rfl (by simp[Value.cells]) (by decide) fun b3=>?_
 have e1:IntKind.i64.wrap (Int.tdiv (s:Int) (Int.ofNat 256))=((s/256:Nat):Int):=kI s 256 (by omega)
 have e2:Int.tmod (s:Int) (Int.ofNat 256)=((s%256:Nat):Int):=dL s 256
 rw[e1,e2]
 simp only[lG]
 conv=>whnf
 let pre:Nat→List UInt8:=fun i=>[UInt8.ofNat k,UInt8.ofNat (s/256),UInt8.ofNat (s%256)]++(List.range i).map (fun i=>UInt8.ofNat (b i))
 have pre_len : ∀ i,(pre i).length=3+i:=fun i=>by simp[pre];omega
 refine aI.loop ab (ι:=Nat×Option Addr×Nat×List Value) ([8,9]++List.range' 25 12) (fun x=>x.1≤12∧Own 1 (3+x.1) x.2.1 x.2.2.1 x.2.2.2 ((pre x.1).map ao))
  (fun x=>[(8,.v (.slice x.2.1 (3+x.1) x.2.2.1)),(9,.v (.int .i64 (x.1:Int)))]) (fun _=>[bg k s b]) (fun x=>⟨fun w=>By w h d,[(b2,Row.c (d.map ao++Z))]++aR x.2.1 x.2.2.2⟩)
  (fun x=>12 - x.1) (0,some ⟨b3,0,none⟩,3,(pre 0).map ao) ⟨Nat.zero_le _,Own.full (by simp[pre])⟩ ?_ rfl (aq.of_le ⟨by simp[Value.cells,aR,pre,ao],fun w hw=>hw⟩) fun x hx=>?_
 · conv=>whnf
   repeat (first | exact aw.nil | refine aw.any ?_ | refine aw.cons ?_)
 obtain⟨i,a,cap,C⟩:=x
 obtain⟨hi,hO⟩:=hx
 dsimp only at hi hO ⊢
 obtain⟨ba,rfl⟩:=ij hO (by omega)
 conv=>whnf
 refine aH.split (fun hlt=>?_) (fun hlt=>?_)
 · conv=>whnf
   have hlt':i<12:=by
    simp only[au,decide_eq_true_eq] at hlt
    omega
   rw[bL hlt']
   conv=>whnf
   refine cF (x:=aE (b i)) (by dsimp only;rw[Nat.mul_one,Nat.zero_add];exact cP hlt') ?_
   conv=>whnf
   refine aj.build ab (t:=23) rfl rfl rfl [.int .u8 (IntKind.u8.wrap (b i:Int))] rfl rfl (by simp[Value.cells]) (by decide) fun b4=>?_
   rw[lG]
   conv=>whnf
   refine aj.c_ (F':=⟨fun w=>By w h d,[(b2,Row.c (d.map ao++Z))]++aR (some ⟨ba,0,none⟩) C ++ [(b4,Row.c [ao (UInt8.ofNat (b i))])]⟩) (aq.of_le ⟨by simp[Value.cells,aR,ao],fun w hw=>hw⟩) ?_
   refine aj.append ab (t:=23) (xt:=23) rfl rfl rfl rfl rfl rfl (r1:=[(b2,Row.c (d.map ao++Z))]) (r2:=[(b4,Row.c [ao (UInt8.ofNat (b i))])]) (M:=[ao (UInt8.ofNat (b i))]) hO (bp.row (by simp)) rfl (by simp[ao,aO]) (by omega) (by simp;omega) fun a' c' C' hO'=>?_
   conv=>whnf
   refine⟨(i+1,a',c',C'),⟨⟨hlt',?_⟩,by dsimp only;omega⟩,?_,?_,?_⟩
   · have:pre (i+1)=pre i ++ [UInt8.ofNat (b i)]:=by simp[pre,List.range_succ]
     dsimp only
     rw[this,List.map_append]
     exact hO'
   · conv=>whnf
     refine⟨?_,rfl⟩
     repeat (first | exact aw.nil | refine aw.any ?_ | refine aw.cons ?_ | refine aw.eq (by rw[wrap_i64 (by omega)];rfl) ?_)
   · conv=>whnf
     exact⟨⟨rfl,rfl⟩,trivial⟩
   · refine aq.of_le ⟨by simp,fun w hw=>hw⟩
 · conv=>whnf
   have hie:i=12:=by
    simp only[au,decide_eq_false_iff_not] at hlt
    omega
   subst hie
   refine aI.draw ab mixed rfl rfl ?_
   conv=>whnf
   repeat' (first
    | (refine And.intro ?_ ?_<;>conv=>whnf)
    | (refine ax.same rfl ?_;conv=>whnf)
    | (refine ax.row rfl ?_;conv=>whnf)
    | (refine ax.call rfl ?_;conv=>whnf)
    | (refine bG.of ?_;conv=>whnf)
    | (refine aa.of ?_;conv=>whnf)
    | (refine ak.val (pE n (by omega)) (fun w hw=>trivial) (fun v D hv=>?_);subst hv;conv=>whnf)
    | (refine ai.pD ab (t:=23) rfl rfl rfl rfl (h:=⟨some ⟨b2,0,none⟩,c2⟩) (1792+16*n) 16 rfl (by show IntKind.i64.wrap (((1792+16*n:Nat):Int)+16)=_;rw[wrap_i64 (by omega)];omega) (by dsimp only;omega) ?_;conv=>whnf)
    | (refine aj.build ab (t:=23) rfl rfl rfl [.int .u8 0] rfl rfl (by simp[Value.cells]) (by decide) fun b5=>?_;conv=>whnf)
    | (refine aj.append ab (t:=23) (xt:=23) rfl rfl rfl rfl rfl rfl (r1:=[(b2,Row.c (d.map ao++Z))]) (r2:=[(b5,Row.c [.int .u8 0])]) (M:=[.int .u8 0]) hO (bp.row (by simp[Value.cells])) rfl (by simp[aO]) (by omega) (by simp) fun a' c' C' hO'=>?_;conv=>whnf)
    | (refine ax.mk ?_ ?_;(focus (first | exact aq.refl _ | exact aq.left _ _ | exact aq.of_le ⟨List.sublist_append_left _ _,fun w h=>h⟩ | exact aq.of_le ⟨List.Sublist.refl _,fun w h=>h.1⟩));conv=>whnf))
   all_goals (
    have hpre:(pre 12).map ao ++ [.int .u8 0]=(fG k s b).map ao:=by simp[pre,fG];rfl
    rw[hpre] at hO'
    rw[dO (show c2≠1792+16*n by omega)])
   all_goals (
    refine aj.qe ab (t:=23) rfl rfl rfl rfl (r1:=[]) (r2:=aR a' C' ++ [(b5,Row.c [.int .u8 0])]) (b:=b2) (k:=1792+16*n) (l:=d) (m:=fG k s b) (Z:=Z) rfl ?_ (kQ ..) (by omega) (by omega) ?_
    · exact Own.Db hO' (r1:=[(b2,Row.c (d.map ao++Z))]) (r2:=[(b5,Row.c [.int .u8 0])])
    conv=>whnf)
   all_goals exact la (l:=cS d n k s b) (by rw[bf hd hn,hd]) hc2
theorem rU (d:List UInt8) (h:Hd) (n k s:Nat) (b:Nat→Nat) (hh:h.Ok d.length) (hd:d.length=12288) (hn:n<32) (hk:k≤1000000) (hs:s≤1000000) (hb : ∀ i,b i≤1000000) :
 af Tryz.prog 42 [h.v d.length,.int .i64 (n:Int),.agg ⟨bg k s b⟩] (fun w=>By w h d) (lq (cS d n k s b)):=
 (fB d h n k s b hh hd hn hk hs hb).EE
def bA (d:List UInt8):List UInt8:=cut d 1664 12
theorem aU {d:List UInt8} (hd:d.length=12288):(bA d).length=12:=aZ (by omega)
theorem iV (d:List UInt8) (h:Hd) (hh:h.Ok d.length) (hd:d.length=12288):af Tryz.prog 40 [h.v d.length] (fun w=>By w h d) (lq (bA d)):=by
 have hc:=hh.cap
 refine af.aF ab Tryz.func40 rfl (by decide) (n:=Tryz.f40.ntmps - 1) rfl rfl fun w0 av=>?_
 conv=>whnf
 refine aj.build ab (t:=23) rfl rfl rfl [] rfl rfl (by simp) (by decide) fun b1=>?_
 conv=>whnf
 refine ak.c_ (F':=⟨fun w=>By w h d,[]⟩) (aq.of_le ⟨by simp,fun w hw=>hw⟩) ?_
 refine ak.val (ea h d.length 13 hh (by omega) (by omega)) (fun w hw=>trivial) (fun v D hv=>?_)
 subst hv
 conv=>whnf
 refine aj.ah (ai.gA ab (t:=23) rfl rfl rfl 12 rfl (by show 12≤h.c - 128*13;omega) ?_)
 conv=>whnf
 refine aj.DE ab (t:=23) (xt:=23) rfl rfl rfl rfl rfl rfl (M:=(bA d).map ao) (.fact fun w hw=>By.sub hw (l:=1664) (k:=12) (by omega)) (by simp[aU hd]) (by omega) (by simp) fun k hk=>?_
 conv=>whnf
 refine⟨⟨fun w=>By w k (bA d),[]⟩,aq.of_le ⟨by simp,fun w hw=>hw.2⟩,k,?_,?_,rfl⟩
 · rw[aU hd]
 · rw[aU hd]
   exact hk
def cD (d b:List UInt8):List UInt8:=lay d 1664 b
theorem aP {d b:List UInt8} (hd:d.length=12288) (hb:b.length=12):(cD d b).length=12288:=by
 unfold cD
 rw[ct (by omega),hd]
theorem jn (d:List UInt8) (h:Hd) (hh:h.Ok d.length) (hd:d.length=12288) (b:List UInt8) (k:Hd) (hk:k.Ok b.length) (hb:b.length=12) :
 af Tryz.prog 43 [h.v d.length,k.v b.length] (fun w=>By w h d∧By w k b) (vq (cD d b)):=by
 have hc:=hh.cap
 refine af.aF ab Tryz.func43 rfl (by decide) (n:=Tryz.f43.ntmps - 2) rfl rfl fun w0 av=>?_
 conv=>whnf
 refine aj.build ab (t:=23) rfl rfl rfl [] rfl rfl (by simp) (by decide) fun b1=>?_
 conv=>whnf
 refine aj.c_ (F':=⟨fun w=>By w h d∧By w k b,[]⟩) (aq.of_le ⟨by simp,fun w hw=>hw⟩) ?_
 refine aj.eQ ab (t:=23) (xt:=23) rfl rfl rfl rfl rfl rfl rfl rfl (l:=d) (.fact fun w hw=>hw.1) (by omega) (by omega) fun b2 c2 Z hc2 hZ=>?_
 conv=>whnf
 refine ak.val (ea ⟨some ⟨b2,0,none⟩,c2⟩ d.length 13 ⟨fun h=>(by cases h),hc2⟩ (by omega) (by omega)) (fun w hw=>trivial) (fun v D hv=>?_)
 rw[dO (by omega)] at hv
 subst hv
 conv=>whnf
 refine aj.qe ab (t:=23) rfl rfl rfl rfl (r1:=[]) (r2:=[]) (b:=b2) (k:=1664) (l:=d) (m:=b) (Z:=Z) rfl (.fact fun w hw=>hw.2) rfl (by omega) (by omega) ?_
 conv=>whnf
 exact la (l:=cD d b) (by rw[aP hd hb,hd]) hc2
theorem kx (d:List UInt8) (h:Hd) (hh:h.Ok d.length) (hd:d.length=12288) (b:List UInt8) (k:Hd) (hk:k.Ok b.length) (hb:b.length=12) :
 af Tryz.prog 43 [h.v d.length,k.v b.length] (fun w=>By w h d∧By w k b) (lq (cD d b)):=(jn d h hh hd b k hk hb).EE
end Go.Proofs.YtfeoedkmndkbjaaGreatDoor

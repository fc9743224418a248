/- Parts of the proof: FcI. -/
import Derived.Test.YtfeoedkmndkbjaaGreatDoorQN
import Derived.Test.YtfeoedkmndkbjaaGreatDoorQP
import Derived.Test.YtfeoedkmndkbjaaGreatDoorRows
import Derived.SizedLaws
namespace Go.Proofs.YtfeoedkmndkbjaaGreatDoor
open Go Go.Sx Go.ChangeShapes Go.WideShapes
set_option maxRecDepth 100000
set_option maxHeartbeats 2000000
set_option linter.unusedVariables false
set_option linter.unusedSimpArgs false
theorem eC.agree {W w':World} {a:Option Addr} {l:List Fl} (hs:eC W a l) (hw : ∀ b,b<W.heap.size→w'.heap[b]? = W.heap[b]?):eC w' a l:=
 ⟨aB.agree hs.1 hw,fun p hp=>Sx.By.agree (hs.2 p hp) hw⟩
section
variable {H:Type} {enc:TypeId×Value→H} {w:World} {base:Nat} {spare:Nat→Bool} {held:Bool} {r:Reach} {b0:Nat}
theorem Dc:Tryz.prog.cellsOf 3=1:=eD ab (t:=3) rfl
theorem Ek:Tryz.prog.cellsOf 4=1:=eD ab (t:=4) rfl
theorem DB:Tryz.prog.cellsOf 5=1:=eD ab (t:=5) rfl
theorem EB:Tryz.prog.cellsOf 9=1:=eD ab (t:=9) rfl
theorem B2:Tryz.prog.cellsOf 23=1:=eD ab (t:=23) rfl
theorem D9:Tryz.prog.cellsOf 58=3:=eD ab (t:=58) rfl
theorem nD {n:Nat} {v:Value} {x:DataW H×List MemPlace} (h:DataW.trod enc Tryz.prog w base spare held n 3 [v]=some x) : ∃ z:Int,v = .int .i64 z∧-9223372036854775808≤z∧z≤9223372036854775807:=by
 obtain⟨z,h1,_,hw⟩:=DataW.trod_int Tryz.underlying3 h
 cases h1
 exact⟨z,rfl,bounds_i64 hw⟩
theorem Bh {n:Nat} {v:Value} {x:DataW H×List MemPlace} (h:DataW.trod enc Tryz.prog w base spare held n 9 [v]=some x) : ∃ s:List UInt8,v=aC s:=by
 obtain⟨z,h1,_⟩:=DataW.trod_string Tryz.underlying9 h
 cases h1
 exact⟨z.data.toList,rfl⟩
theorem Al {n:Nat} {v:Value} {x:DataW H×List MemPlace} (h:DataW.trod enc Tryz.prog w base spare held n 4 [v]=some x) : ∃ b:Bool,v = .bool b:=by
 obtain⟨z,h1,_⟩:=DataW.trod_bool Tryz.underlying4 h
 cases h1
 exact⟨z,rfl⟩
theorem x7 {n:Nat} {cs:List Value} (hl:cs.length=3) {x:DataW H×List MemPlace} (h:DataW.trod enc Tryz.prog w base spare held n 58 cs=some x) :
 ∃ p:Fl,cs=xZ p∧p.h.Ok p.data.length∧By w p.h p.data:=by
 obtain⟨x0,x1,x2,rfl⟩ : ∃ a b c,cs = [a,b,c]:=by
  rcases cs with _ | ⟨a,_ | ⟨b,_ | ⟨c,_ | ⟨d,l⟩⟩⟩⟩<;>simp at hl
  exact⟨a,b,c,rfl⟩
 obtain⟨_,_,h0⟩:=iL Tryz.underlying58 h 0 (u:=9) (o:=0) rfl EB
 obtain⟨_,_,h1⟩:=iL Tryz.underlying58 h 1 (u:=4) (o:=1) rfl Ek
 obtain⟨_,_,h2⟩:=iL Tryz.underlying58 h 2 (u:=23) (o:=2) rfl B2
 obtain⟨s,rfl⟩:=Bh h0
 obtain⟨b,rfl⟩:=Al h1
 obtain⟨k,l,rfl,hk,hb⟩:=rR Tryz.underlying23 Tryz.underlying5 DB h2
 exact⟨⟨s,b,k,l⟩,rfl,hk,hb⟩
theorem tY {t e:TypeId} (ht:Tryz.prog.underlying t=some (.slice e)) {v:Value} (hv:Value.okWide Tryz.prog w r b0 t v):v.cells.toList = [v]:=by
 have hc:Cell.okWide Tryz.prog w r b0 t v:=by simpa only[Value.okWide,ht] using hv
 cases v<;>first | rfl | (simp[Cell.okWide,Cell.ok,ht] at hc)
theorem yd {v:Value} {d:DataW H} {p:List MemPlace} (hv:Value.okWide Tryz.prog w r b0 22 v) (h:DataW.Trod enc Tryz.prog w base spare held 22 v d p) :
 ∃ (k:Hd) (l:List Fl),v=k.v l.length∧k.Ok l.length∧(∀ x∈l,x.h.Ok x.data.length)∧eC w k.a l∧(l = []∨∃ el sp,d = .slice el sp∧el.length=l.length):=by
 obtain⟨n,hn⟩:=h
 rw[tY Tryz.underlying22 hv] at hn
 obtain⟨k,L,rfl,hk,hr,hc,hsz⟩:=rP Tryz.underlying22 D9 (by decide) hn
 obtain⟨l,rfl,hg⟩:=uK (f:=xZ) (good:=fun p=>p.h.Ok p.data.length∧By w p.h p.data) (L:=L) fun c hcm=>by
  obtain⟨hl,m,y,hy⟩:=hc c hcm
  exact x7 hl hy
 refine⟨k,l,by simp,by simpa using hk,fun p hp=>(hg p hp).1,⟨?_,fun p hp=>(hg p hp).2⟩,?_⟩
 · show aB w k.a (dN l)
   rw[dN,List.flatMap_def]
   exact hr
 · rcases hsz with h | ⟨el,sp,h1,h2⟩
   · exact .inl (by simpa using h)
   · exact .inr ⟨el,sp,h1,by simpa using h2⟩
theorem ym {ts:List TypeId} {ds:List (DataW H)} {j:Nat} {d:DataW H} (hz:(DataW.weightsEach Tryz.prog ts ds).all (·≤reachBytes)=true) (ht:ts[j]? = some 22) (hd:ds[j]? = some d)
 {l:List Fl} (h:l = []∨∃ el sp,d = .slice el sp∧el.length=l.length):l.length≤3000000000000000000:=by
 rcases h with rfl | ⟨el,sp,rfl,hl⟩
 · simp
 · have:=sized_slice hz ht hd Tryz.underlying22
   have e:Tryz.prog.bytesOf 58=48:=by kernel_rfl
   rw[e] at this
   unfold reachBytes at this
   omega
end
end Go.Proofs.YtfeoedkmndkbjaaGreatDoor

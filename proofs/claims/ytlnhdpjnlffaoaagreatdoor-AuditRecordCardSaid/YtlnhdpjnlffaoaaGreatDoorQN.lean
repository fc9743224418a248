/- Parts of the proof: AbQ. -/
import Derived.Test.YtlnhdpjnlffaoaaGreatDoorQJ
import Derived.Test.YtlnhdpjnlffaoaaGreatDoorQM
namespace Go.Proofs.YtlnhdpjnlffaoaaGreatDoor
open Go Go.Sx
set_option maxRecDepth 100000
set_option maxHeartbeats 4000000
set_option linter.unusedVariables false
set_option linter.unusedSimpArgs false
theorem _root_.Go.Sx.ah.pre {P:Program} {f:FuncId} {vs:List Value} {Pre Pre':World→Prop} {Rel:Value→Fx→Prop} (h:ah P f vs Pre Rel) (hp : ∀ w,Pre' w→Pre w):ah P f vs Pre' Rel:=by
 unfold ah at h ⊢
 exact⟨h.1,fun av w hav hw=>h.2 av w hav (hw.imp hp)⟩
def dr (s:bQ) (k:Nat):Bool:=match k with
 | 1=>jn s
 | 2=>allI 32 (kindOk s.T)
 | 3=>allI 32 (iN s.T)
 | 4=>lJ s
 | 5=>tJ s
 | 6=>allI 32 (nA fun i=>(s.sp i).l.length)
 | 7=>o_ s
 | 8=>rP s
 | 9=>lI s
 | 10=>vL s
 | 11=>oz s.D
 | 12=>sL s
 | 13=>mS s
 | 14=>sG s
 | _=>false
def rn (f:FuncId):Value:=.func (.func f) #[] #[]
def yx:List Value:=[.agg ⟨[dS [112,97,114,116,115],rn 61]⟩,.agg ⟨[dS [107,105,110,100,115],rn 62]⟩,.agg ⟨[dS [119,97,105,116,105,110,103],rn 63]⟩,
 .agg ⟨[dS [113,117,101,117,101],rn 64]⟩,.agg ⟨[dS [114,105,103,104,116,115],rn 65]⟩,.agg ⟨[dS [115,112,97,99,101,115],rn 66]⟩,
 .agg ⟨[dS [116,114,97,110,115,102,101,114],rn 67]⟩,.agg ⟨[dS [103,114,97,110,116,101,100],rn 68]⟩,.agg ⟨[dS [97,108,111,110,101],rn 69]⟩,
 .agg ⟨[dS [109,101,115,115,97,103,101,115],rn 70]⟩,.agg ⟨[dS [100,111,119,110],rn 71]⟩,.agg ⟨[dS [105,110,116,101,114,114,117,112,116,115],rn 72]⟩,
 .agg ⟨[dS [114,101,99,111,114,100],rn 73]⟩,.agg ⟨[dS [116,105,109,101],rn 74]⟩]
def vg:List Value:=yx.flatMap fun x=>x.cells.toList
theorem mR:ah Tryz.prog 24 [] (fun _=>True) (fun v F=>∃ b:Nat,v = .slice (some ⟨b,0,none⟩) 14 14∧F=⟨fun w=>af w (some ⟨b,0,none⟩) vg,[]⟩):=by
 refine ah.aK ae Tryz.func24 rfl (by decide) (n:=Tryz.f24.ntmps - 0) rfl rfl fun w0 av=>?_
 conv=>whnf
 repeat (refine aa.of ?_;conv=>whnf)
 refine ar.build ae (t:=185) rfl rfl rfl yx rfl rfl (by simp[Value.cells,yx]) (by decide) fun b=>?_
 conv=>whnf
 repeat (refine aa.of ?_;conv=>whnf)
 exact⟨_,ao.trans (ao.of_le (F':=⟨fun w=>True,[(b,Row.c vg)]⟩) ⟨List.Sublist.refl _,fun w hw=>hw⟩) (ao.trans ao.share1 (ao.imp fun w hw=>hw.2)),b,rfl,rfl⟩
theorem zk (C:List Value) (s:bQ) (hC:dM C s) (ho:s.Ok) (k:Nat) (h1:1≤k) (h2:k≤14) :
 ∃ f,vg[(k - 1)*2+1]? = some (rn f)∧ah Tryz.prog f [.agg ⟨C⟩] (fun w=>s.Rows w∧bu w) (fun v F=>v = .bool (dr s k)):=by
 have hS : ∀ i,i<32→C[275+i]? = some ((s.sp i).h.v (s.sp i).l.length):=hC.sp
 match k,h1,h2 with
 | 1,_,_=>exact⟨_,rfl,(sT C s hC ho).pre (fun w hw=>hw.1)⟩
 | 2,_,_=>exact⟨_,rfl,(sF C s.T hC.vR).pre (fun w hw=>trivial)⟩
 | 3,_,_=>exact⟨_,rfl,(n9 C s.T hC.vR hC.one).pre (fun w hw=>trivial)⟩
 | 4,_,_=>exact⟨_,rfl,(rV C s hC ho).pre (fun w hw=>hw.1)⟩
 | 5,_,_=>exact⟨_,rfl,(qI C s hC ho).pre (fun w hw=>hw.1)⟩
 | 6,_,_=>exact⟨_,rfl,(pI C (fun i=>(s.sp i).h) (fun i=>(s.sp i).l.length) hC.len hS).pre (fun w hw=>trivial)⟩
 | 7,_,_=>exact⟨_,rfl,(na C s hC ho).pre (fun w hw=>hw.1)⟩
 | 8,_,_=>exact⟨_,rfl,(ov C s hC ho).pre (fun w hw=>hw.1)⟩
 | 9,_,_=>exact⟨_,rfl,(sA C s hC ho).pre (fun w hw=>hw.1)⟩
 | 10,_,_=>exact⟨_,rfl,(m_ C s hC ho).pre (fun w hw=>hw)⟩
 | 11,_,_=>exact⟨_,rfl,(tU C s.D hC.len hC.D).pre (fun w hw=>trivial)⟩
 | 12,_,_=>exact⟨_,rfl,(ll C s hC ho).pre (fun w hw=>hw.1)⟩
 | 13,_,_=>exact⟨_,rfl,(qC C s hC ho).pre (fun w hw=>hw.1)⟩
 | 14,_,_=>exact⟨_,rfl,(ux C s hC ho).pre (fun w hw=>hw.1)⟩
 | k+15,_,h=>omega
theorem uO (C:List Value) (s:bQ) (hC:dM C s) (ho:s.Ok) (k:Nat) (h1:1≤k) (h2:k≤14) :
 ah Tryz.prog 12 [.agg ⟨C⟩,.int .i64 (k:Int)] (fun w=>s.Rows w∧bu w) (fun v F=>v = .bool (dr s k)):=by
 obtain⟨f,hf,hs⟩:=zk C s hC ho k h1 h2
 generalize dr s k=q at *
 have g1:hJ (k:Int) 1=true:=by simp[aJ];omega
 have g2:mX (k:Int) 14=true:=by simp[aI];omega
 have hw1:IntKind.i64.wrap ((k:Int) - 1)=((k - 1:Nat):Int):=by
  rw[wrap_i64 (by omega)]
  omega
 refine ah.aK ae Tryz.func12 rfl (by decide) (n:=Tryz.f12.ntmps - 2) rfl rfl fun w0 av=>?_
 conv=>whnf
 repeat (refine aa.of ?_;conv=>whnf)
 refine ar.cA fun br=>?_
 conv=>whnf
 repeat (refine aa.of ?_;conv=>whnf)
 refine az.draw ae mixed rfl rfl ?_
 conv=>whnf
 repeat' (first
  | (refine And.intro ?_ ?_<;>conv=>whnf)
  | (refine an.same rfl ?_;conv=>whnf)
  | (refine an.row rfl ?_;conv=>whnf)
  | (refine an.call rfl ?_;conv=>whnf)
  | (refine aS.of ?_;conv=>whnf)
  | (refine aa.of ?_;conv=>whnf)
  | (rw[g1];conv=>whnf)
  | (rw[g2];conv=>whnf)
  | (refine aw.pure mR (fun w hw=>trivial) (fun v D hv=>?_);obtain⟨b,rfl,rfl⟩:=hv;conv=>whnf)
  | (refine ak.aW ae rfl rfl (ad:=⟨br,0,none⟩) (k:=0) (L:=C) (m:=C) (aG.row (List.Mem.head _)) rfl (by rw[List.drop_zero];exact List.take_of_length_le (by rw[hC.len];exact Nat.le_refl _)) hC.len ?_;conv=>whnf)
  | (refine ak.dY ae (t:=188) rfl rfl ?_;refine rN (n:=376) (fun S h=>h) hC.len (by kernel_rfl) ?_;conv=>whnf)
  | (refine ak.index ae (t:=185) rfl rfl rfl (by rw[hw1];omega) (by rw[hw1];omega) (by simp) fun ad had=>?_;conv=>whnf)
  | (refine ar.aj (ak.index ae (t:=185) rfl rfl rfl (by rw[hw1];omega) (by rw[hw1];omega) (by simp) fun ad had=>?_);conv=>whnf)
  | (refine ak.aF ae rfl rfl (ad:=⟨b,0,none⟩) (k:=(k - 1)*2+1) (L:=vg) (v:=rn f) (.fact fun w hw=>hw.2) (fun _=>by cases had;rw[hw1];exact Addr.cU rfl _ _) hf ?_;conv=>whnf)
  | (refine aw.val hs (fun w hw=>hw.1) (fun v D hv=>?_);subst hv;conv=>whnf)
  | (refine an.mk ?_ ?_;(focus (first | exact ao.refl _ | exact ao.left _ _ | exact ao.of_le ⟨List.sublist_append_left _ _,fun w h=>h⟩ | exact ao.of_le ⟨List.Sublist.refl _,fun w h=>h.1⟩));conv=>whnf))
 all_goals exact⟨_,ao.refl _,rfl⟩
def eY (s:bQ):Nat→Nat→Nat
 | 0,_=>0
 | f+1,n=>if dr s n then eY s f (n+1) else n
def gp (s:bQ):Nat:=eY s 14 1
theorem ja (s:bQ) : ∀ f n,0<n→(eY s f n=0↔∀ k,n≤k→k<n+f→dr s k=true)
 | 0,n,h=>⟨fun _ k h1 h2=>by omega,fun _=>rfl⟩
 | f+1,n,h=>by
  unfold eY
  by_cases hr:dr s n=true
  · rw[if_pos hr,ja s f (n+1) (by omega)]
    constructor
    · intro h1 k h2 h3
      by_cases hk:k=n
      · rw[hk];exact hr
      · exact h1 k (by omega) (by omega)
    · intro h1 k h2 h3
      exact h1 k (by omega) (by omega)
  · rw[if_neg hr]
    constructor
    · intro h1;omega
    · intro h1;exact absurd (h1 n (Nat.le_refl _) (by omega)) hr
theorem mK (s:bQ) {k:Nat} (hk:dr s k=false) : ∀ f n,n≤k→k<n+f→(∀ j,n≤j→j<k→dr s j=true)→eY s f n=k
 | 0,n,h1,h2,_=>by omega
 | f+1,n,h1,h2,h3=>by
  unfold eY
  by_cases hn:n=k
  · subst hn
    rw[if_neg (by rw[hk];decide)]
  · rw[if_pos (h3 n (Nat.le_refl _) (by omega))]
    exact mK s hk f (n+1) (by omega) (by omega) fun j hj=>h3 j (by omega)
theorem vO {s:bQ}:gp s=0↔∀ k,1≤k→k≤14→dr s k=true:=by
 unfold gp
 rw[ja s 14 1 (by decide)]
 exact⟨fun h k h1 h2=>h k h1 (by omega),fun h k h1 h2=>h k h1 (by omega)⟩
theorem wz {s:bQ} {k:Nat} (h1:1≤k) (h2:k≤14) (hk:dr s k=false) (h : ∀ j,1≤j→j<k→dr s j=true):gp s=k:=mK s hk 14 1 h1 (by omega) h
theorem fW (C:List Value) (s:bQ) (hC:dM C s) (ho:s.Ok) :
 ah Tryz.prog 10 [.agg ⟨C⟩] (fun w=>s.Rows w∧bu w) (fun v F=>v = .tuple ⟨[.int .i64 (gp s:Int),.bool (decide (gp s=0))]⟩):=by
 obtain⟨N,hN⟩ : ∃ N,gp s=N:=⟨_,rfl⟩
 rw[hN]
 unfold gp at hN
 refine ah.aK ae Tryz.func10 rfl (by decide) (n:=Tryz.f10.ntmps - 1) rfl rfl fun w0 av=>?_
 conv=>whnf
 repeat (refine aa.of ?_;conv=>whnf)
 refine ar.cA fun br=>?_
 conv=>whnf
 repeat (refine aa.of ?_;conv=>whnf)
 refine az.loop ae (ι:=Nat) (List.range' 4 10) (fun x=>x≤14∧eY s (14 - x) (x+1)=N)
  (fun x=>[(4,.v (.int .i64 ((x+1:Nat):Int)))]) (fun _=>[]) (fun _=>⟨fun w=>s.Rows w∧bu w,[(br,Row.c C)]⟩)
  (fun x=>14 - x) 0 ⟨Nat.zero_le _,hN⟩ ?_ rfl (ao.of_le ⟨by simp[Value.cells],fun w hw=>hw⟩) fun i hi=>?_
 · conv=>whnf
   repeat (first | exact ax.nil | refine ax.any ?_ | refine ax.cons ?_)
 obtain⟨hi,hinv⟩:=hi
 conv=>whnf
 repeat (refine aa.of ?_;conv=>whnf)
 refine bU.split (fun hlt=>?_) (fun hlt=>?_)
 · have hlt':i<14:=by
    simp[aI] at hlt
    omega
   have h1:=uO C s hC ho (i+1) (by omega) (by omega)
   rw[show 14 - i=(14 - (i+1))+1 from by omega] at hinv
   unfold eY at hinv
   generalize dr s (i+1)=q at *
   conv=>whnf
   repeat (refine aa.of ?_;conv=>whnf)
   refine ar.aj (ak.aW ae rfl rfl (ad:=⟨br,0,none⟩) (k:=0) (L:=C) (m:=C) (aG.row (List.Mem.head _)) rfl (by rw[List.drop_zero];exact List.take_of_length_le (by rw[hC.len];exact Nat.le_refl _)) hC.len ?_)
   conv=>whnf
   repeat (refine aa.of ?_;conv=>whnf)
   refine aw.val h1 (fun w hw=>hw) (fun v D hv=>?_)
   subst hv
   cases q
   · have hNe:N=i+1:=hinv.symm
     conv=>whnf
     repeat (refine aa.of ?_;conv=>whnf)
     refine⟨_,ao.refl _,?_⟩
     rw[hNe]
     rfl
   · conv=>whnf
     repeat (refine aa.of ?_;conv=>whnf)
     refine⟨i+1,⟨⟨hlt',hinv⟩,by dsimp only;omega⟩,?_,?_,ao.refl _⟩
     · conv=>whnf
       refine⟨?_,rfl⟩
       repeat (first | exact ax.nil | refine ax.any ?_ | refine ax.cons ?_ | refine ax.eq (congrArg (fun z=>SV.v (Value.int .i64 z)) (by rw[wrap_i64 (by omega)];omega)) ?_)
     · conv=>whnf
       exact trivial
 · have hie:i=14:=by
    simp[aI] at hlt
    omega
   subst hie
   have hN0:N=0:=hinv.symm
   rw[hN0]
   conv=>whnf
   repeat (refine aa.of ?_;conv=>whnf)
   exact⟨_,ao.refl _,rfl⟩
theorem rB:ah Tryz.prog 16 [.int .i64 4] (fun _=>True) (fun v F=>v=dS [113,117,101,117,101]):=by
 obtain⟨n,hn⟩ : ∃ n:Int,n=4:=⟨_,rfl⟩
 rw[← hn]
 have g1:ly n 1=false:=by simp[au,hn]
 have g2:mc n 14=false:=by simp[aH,hn]
 have hw1:IntKind.i64.wrap (n - 1)=3:=by rw[hn];rfl
 refine ah.aK ae Tryz.func16 rfl (by decide) (n:=Tryz.f16.ntmps - 1) rfl rfl fun w0 av=>?_
 conv=>whnf
 repeat (refine aa.of ?_;conv=>whnf)
 repeat' (first
  | (refine And.intro ?_ ?_<;>conv=>whnf)
  | (refine an.same rfl ?_;conv=>whnf)
  | (refine an.row rfl ?_;conv=>whnf)
  | (refine an.call rfl ?_;conv=>whnf)
  | (refine aS.of ?_;conv=>whnf)
  | (refine aa.of ?_;conv=>whnf)
  | (rw[g1];conv=>whnf)
  | (rw[g2];conv=>whnf)
  | (refine bU.no (by simp[g1,g2]) ?_;conv=>whnf)
  | (refine aw.pure mR (fun w hw=>trivial) (fun v D hv=>?_);obtain⟨b,rfl,rfl⟩:=hv;conv=>whnf)
  | (refine ar.aj (ak.index ae (t:=185) rfl rfl rfl (by rw[hw1];decide) (by rw[hw1];decide) (by simp) fun ad had=>?_);conv=>whnf)
  | (refine ar.aj (ak.aF ae rfl rfl (ad:=⟨b,0,none⟩) (k:=6) (L:=vg) (v:=dS [113,117,101,117,101]) (.fact fun w hw=>hw.2) (fun _=>by cases had;rw[hw1];rfl) rfl ?_);conv=>whnf)
  | (refine an.mk ?_ ?_;(focus (first | exact ao.refl _ | exact ao.left _ _ | exact ao.of_le ⟨List.sublist_append_left _ _,fun w h=>h⟩ | exact ao.of_le ⟨List.Sublist.refl _,fun w h=>h.1⟩));conv=>whnf))
 all_goals exact⟨_,ao.refl _,rfl⟩
end Go.Proofs.YtlnhdpjnlffaoaaGreatDoor

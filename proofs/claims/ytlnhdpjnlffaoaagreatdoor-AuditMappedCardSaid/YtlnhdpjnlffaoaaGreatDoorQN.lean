/- Parts of the proof: AbQ. -/
import Derived.Test.YtlnhdpjnlffaoaaGreatDoorQJ
import Derived.Test.YtlnhdpjnlffaoaaGreatDoorQM
namespace Go.Proofs.YtlnhdpjnlffaoaaGreatDoor
open Go Go.Sx
set_option maxRecDepth 100000
set_option maxHeartbeats 4000000
set_option linter.unusedVariables false
set_option linter.unusedSimpArgs false
theorem _root_.Go.Sx.ah.pre {P:Program} {f:FuncId} {vs:List Value} {Pre Pre':World→Prop} {Rel:Value→Fx→Prop} (h:ah P f vs Pre Rel) (hp : ∀ w,Pre' w→Pre w):ah P f vs Pre' Rel:=by
 unfold ah at h ⊢
 exact⟨h.1,fun av w hav hw=>h.2 av w hav (hw.imp hp)⟩
def dt (s:bR) (k:Nat):Bool:=match k with
 | 1=>dW s
 | 2=>allI 32 (kindOk s.T)
 | 3=>allI 32 (iA s.T)
 | 4=>lI s
 | 5=>tB s
 | 6=>allI 32 (jf fun i=>(s.sp i).l.length)
 | 7=>oT s
 | 8=>r4 s
 | 9=>g_ s
 | 10=>vH s
 | 11=>oc s.D
 | 12=>rz s
 | 13=>wD s
 | 14=>sN s
 | _=>false
def re (f:FuncId):Value:=.func (.func f) #[] #[]
def yS:List Value:=[.agg ⟨[dS [112,97,114,116,115],re 61]⟩,.agg ⟨[dS [107,105,110,100,115],re 62]⟩,.agg ⟨[dS [119,97,105,116,105,110,103],re 63]⟩,
 .agg ⟨[dS [113,117,101,117,101],re 64]⟩,.agg ⟨[dS [114,105,103,104,116,115],re 65]⟩,.agg ⟨[dS [115,112,97,99,101,115],re 66]⟩,
 .agg ⟨[dS [116,114,97,110,115,102,101,114],re 67]⟩,.agg ⟨[dS [103,114,97,110,116,101,100],re 68]⟩,.agg ⟨[dS [97,108,111,110,101],re 69]⟩,
 .agg ⟨[dS [109,101,115,115,97,103,101,115],re 70]⟩,.agg ⟨[dS [100,111,119,110],re 71]⟩,.agg ⟨[dS [105,110,116,101,114,114,117,112,116,115],re 72]⟩,
 .agg ⟨[dS [114,101,99,111,114,100],re 73]⟩,.agg ⟨[dS [116,105,109,101],re 74]⟩]
def wE:List Value:=yS.flatMap fun x=>x.cells.toList
theorem mf:ah Tryz.prog 24 [] (fun _=>True) (fun v F=>∃ b:Nat,v = .slice (some ⟨b,0,none⟩) 14 14∧F=⟨fun w=>af w (some ⟨b,0,none⟩) wE,[]⟩):=by
 refine ah.aK ae Tryz.func24 rfl (by decide) (n:=Tryz.f24.ntmps - 0) rfl rfl fun w0 av=>?_
 conv=>whnf
 repeat (refine aa.of ?_;conv=>whnf)
 refine ar.build ae (t:=185) rfl rfl rfl yS rfl rfl (by simp[Value.cells,yS]) (by decide) fun b=>?_
 conv=>whnf
 repeat (refine aa.of ?_;conv=>whnf)
 exact⟨_,ao.trans (ao.of_le (F':=⟨fun w=>True,[(b,Row.c wE)]⟩) ⟨List.Sublist.refl _,fun w hw=>hw⟩) (ao.trans ao.share1 (ao.imp fun w hw=>hw.2)),b,rfl,rfl⟩
theorem yE (C:List Value) (s:bR) (hC:dM C s) (ho:s.Ok) (k:Nat) (h1:1≤k) (h2:k≤14) :
 ∃ f,wE[(k - 1)*2+1]? = some (re f)∧ah Tryz.prog f [.agg ⟨C⟩] (fun w=>s.Rows w∧bD w) (fun v F=>v = .bool (dt s k)):=by
 have hS : ∀ i,i<32→C[275+i]? = some ((s.sp i).h.v (s.sp i).l.length):=hC.sp
 match k,h1,h2 with
 | 1,_,_=>exact⟨_,rfl,(sB C s hC ho).pre (fun w hw=>hw.1)⟩
 | 2,_,_=>exact⟨_,rfl,(rp C s.T hC.u4).pre (fun w hw=>trivial)⟩
 | 3,_,_=>exact⟨_,rfl,(oW C s.T hC.u4 hC.one).pre (fun w hw=>trivial)⟩
 | 4,_,_=>exact⟨_,rfl,(ri C s hC ho).pre (fun w hw=>hw.1)⟩
 | 5,_,_=>exact⟨_,rfl,(pR C s hC ho).pre (fun w hw=>hw.1)⟩
 | 6,_,_=>exact⟨_,rfl,(pQ C (fun i=>(s.sp i).h) (fun i=>(s.sp i).l.length) hC.len hS).pre (fun w hw=>trivial)⟩
 | 7,_,_=>exact⟨_,rfl,(mY C s hC ho).pre (fun w hw=>hw.1)⟩
 | 8,_,_=>exact⟨_,rfl,(oO C s hC ho).pre (fun w hw=>hw.1)⟩
 | 9,_,_=>exact⟨_,rfl,(ru C s hC ho).pre (fun w hw=>hw.1)⟩
 | 10,_,_=>exact⟨_,rfl,(nj C s hC ho).pre (fun w hw=>hw)⟩
 | 11,_,_=>exact⟨_,rfl,(uw C s.D hC.len hC.D).pre (fun w hw=>trivial)⟩
 | 12,_,_=>exact⟨_,rfl,(lj C s hC ho).pre (fun w hw=>hw.1)⟩
 | 13,_,_=>exact⟨_,rfl,(pK C s hC ho).pre (fun w hw=>hw.1)⟩
 | 14,_,_=>exact⟨_,rfl,(ug C s hC ho).pre (fun w hw=>hw.1)⟩
 | k+15,_,h=>omega
theorem ua (C:List Value) (s:bR) (hC:dM C s) (ho:s.Ok) (k:Nat) (h1:1≤k) (h2:k≤14) :
 ah Tryz.prog 12 [.agg ⟨C⟩,.int .i64 (k:Int)] (fun w=>s.Rows w∧bD w) (fun v F=>v = .bool (dt s k)):=by
 obtain⟨f,hf,hs⟩:=yE C s hC ho k h1 h2
 generalize dt s k=q at *
 have g1:gQ (k:Int) 1=true:=by simp[aI];omega
 have g2:mX (k:Int) 14=true:=by simp[aJ];omega
 have hw1:IntKind.i64.wrap ((k:Int) - 1)=((k - 1:Nat):Int):=by
  rw[wrap_i64 (by omega)]
  omega
 refine ah.aK ae Tryz.func12 rfl (by decide) (n:=Tryz.f12.ntmps - 2) rfl rfl fun w0 av=>?_
 conv=>whnf
 repeat (refine aa.of ?_;conv=>whnf)
 refine ar.cA fun br=>?_
 conv=>whnf
 repeat (refine aa.of ?_;conv=>whnf)
 refine az.draw ae mixed rfl rfl ?_
 conv=>whnf
 repeat' (first
  | (refine And.intro ?_ ?_<;>conv=>whnf)
  | (refine an.same rfl ?_;conv=>whnf)
  | (refine an.row rfl ?_;conv=>whnf)
  | (refine an.call rfl ?_;conv=>whnf)
  | (refine aS.of ?_;conv=>whnf)
  | (refine aa.of ?_;conv=>whnf)
  | (rw[g1];conv=>whnf)
  | (rw[g2];conv=>whnf)
  | (refine aw.pure mf (fun w hw=>trivial) (fun v D hv=>?_);obtain⟨b,rfl,rfl⟩:=hv;conv=>whnf)
  | (refine ak.aU ae rfl rfl (ad:=⟨br,0,none⟩) (k:=0) (L:=C) (m:=C) (aG.row (List.Mem.head _)) rfl (by rw[List.drop_zero];exact List.take_of_length_le (by rw[hC.len];exact Nat.le_refl _)) hC.len ?_;conv=>whnf)
  | (refine ak.dY ae (t:=188) rfl rfl ?_;refine rS (n:=376) (fun S h=>h) hC.len (by kernel_rfl) ?_;conv=>whnf)
  | (refine ak.index ae (t:=185) rfl rfl rfl (by rw[hw1];omega) (by rw[hw1];omega) (by simp) fun ad had=>?_;conv=>whnf)
  | (refine ar.aj (ak.index ae (t:=185) rfl rfl rfl (by rw[hw1];omega) (by rw[hw1];omega) (by simp) fun ad had=>?_);conv=>whnf)
  | (refine ak.aE ae rfl rfl (ad:=⟨b,0,none⟩) (k:=(k - 1)*2+1) (L:=wE) (v:=re f) (.fact fun w hw=>hw.2) (fun _=>by cases had;rw[hw1];exact Addr.cV rfl _ _) hf ?_;conv=>whnf)
  | (refine aw.val hs (fun w hw=>hw.1) (fun v D hv=>?_);subst hv;conv=>whnf)
  | (refine an.mk ?_ ?_;(focus (first | exact ao.refl _ | exact ao.left _ _ | exact ao.of_le ⟨List.sublist_append_left _ _,fun w h=>h⟩ | exact ao.of_le ⟨List.Sublist.refl _,fun w h=>h.1⟩));conv=>whnf))
 all_goals exact⟨_,ao.refl _,rfl⟩
def eX (s:bR):Nat→Nat→Nat
 | 0,_=>0
 | f+1,n=>if dt s n then eX s f (n+1) else n
def fE (s:bR):Nat:=eX s 14 1
theorem ji (s:bR) : ∀ f n,0<n→(eX s f n=0↔∀ k,n≤k→k<n+f→dt s k=true)
 | 0,n,h=>⟨fun _ k h1 h2=>by omega,fun _=>rfl⟩
 | f+1,n,h=>by
  unfold eX
  by_cases hr:dt s n=true
  · rw[if_pos hr,ji s f (n+1) (by omega)]
    constructor
    · intro h1 k h2 h3
      by_cases hk:k=n
      · rw[hk];exact hr
      · exact h1 k (by omega) (by omega)
    · intro h1 k h2 h3
      exact h1 k (by omega) (by omega)
  · rw[if_neg hr]
    constructor
    · intro h1;omega
    · intro h1;exact absurd (h1 n (Nat.le_refl _) (by omega)) hr
theorem mT (s:bR) {k:Nat} (hk:dt s k=false) : ∀ f n,n≤k→k<n+f→(∀ j,n≤j→j<k→dt s j=true)→eX s f n=k
 | 0,n,h1,h2,_=>by omega
 | f+1,n,h1,h2,h3=>by
  unfold eX
  by_cases hn:n=k
  · subst hn
    rw[if_neg (by rw[hk];decide)]
  · rw[if_pos (h3 n (Nat.le_refl _) (by omega))]
    exact mT s hk f (n+1) (by omega) (by omega) fun j hj=>h3 j (by omega)
theorem uV {s:bR}:fE s=0↔∀ k,1≤k→k≤14→dt s k=true:=by
 unfold fE
 rw[ji s 14 1 (by decide)]
 exact⟨fun h k h1 h2=>h k h1 (by omega),fun h k h1 h2=>h k h1 (by omega)⟩
theorem vJ {s:bR} {k:Nat} (h1:1≤k) (h2:k≤14) (hk:dt s k=false) (h : ∀ j,1≤j→j<k→dt s j=true):fE s=k:=mT s hk 14 1 h1 (by omega) h
theorem fZ (C:List Value) (s:bR) (hC:dM C s) (ho:s.Ok) :
 ah Tryz.prog 10 [.agg ⟨C⟩] (fun w=>s.Rows w∧bD w) (fun v F=>v = .tuple ⟨[.int .i64 (fE s:Int),.bool (decide (fE s=0))]⟩):=by
 obtain⟨N,hN⟩ : ∃ N,fE s=N:=⟨_,rfl⟩
 rw[hN]
 unfold fE at hN
 refine ah.aK ae Tryz.func10 rfl (by decide) (n:=Tryz.f10.ntmps - 1) rfl rfl fun w0 av=>?_
 conv=>whnf
 repeat (refine aa.of ?_;conv=>whnf)
 refine ar.cA fun br=>?_
 conv=>whnf
 repeat (refine aa.of ?_;conv=>whnf)
 refine az.loop ae (ι:=Nat) (List.range' 4 10) (fun x=>x≤14∧eX s (14 - x) (x+1)=N)
  (fun x=>[(4,.v (.int .i64 ((x+1:Nat):Int)))]) (fun _=>[]) (fun _=>⟨fun w=>s.Rows w∧bD w,[(br,Row.c C)]⟩)
  (fun x=>14 - x) 0 ⟨Nat.zero_le _,hN⟩ ?_ rfl (ao.of_le ⟨by simp[Value.cells],fun w hw=>hw⟩) fun i hi=>?_
 · conv=>whnf
   repeat (first | exact ax.nil | refine ax.any ?_ | refine ax.cons ?_)
 obtain⟨hi,hinv⟩:=hi
 conv=>whnf
 repeat (refine aa.of ?_;conv=>whnf)
 refine bT.split (fun hlt=>?_) (fun hlt=>?_)
 · have hlt':i<14:=by
    simp[aJ] at hlt
    omega
   have h1:=ua C s hC ho (i+1) (by omega) (by omega)
   rw[show 14 - i=(14 - (i+1))+1 from by omega] at hinv
   unfold eX at hinv
   generalize dt s (i+1)=q at *
   conv=>whnf
   repeat (refine aa.of ?_;conv=>whnf)
   refine ar.aj (ak.aU ae rfl rfl (ad:=⟨br,0,none⟩) (k:=0) (L:=C) (m:=C) (aG.row (List.Mem.head _)) rfl (by rw[List.drop_zero];exact List.take_of_length_le (by rw[hC.len];exact Nat.le_refl _)) hC.len ?_)
   conv=>whnf
   repeat (refine aa.of ?_;conv=>whnf)
   refine aw.val h1 (fun w hw=>hw) (fun v D hv=>?_)
   subst hv
   cases q
   · have hNe:N=i+1:=hinv.symm
     conv=>whnf
     repeat (refine aa.of ?_;conv=>whnf)
     refine⟨_,ao.refl _,?_⟩
     rw[hNe]
     rfl
   · conv=>whnf
     repeat (refine aa.of ?_;conv=>whnf)
     refine⟨i+1,⟨⟨hlt',hinv⟩,by dsimp only;omega⟩,?_,?_,ao.refl _⟩
     · conv=>whnf
       refine⟨?_,rfl⟩
       repeat (first | exact ax.nil | refine ax.any ?_ | refine ax.cons ?_ | refine ax.eq (congrArg (fun z=>SV.v (Value.int .i64 z)) (by rw[wrap_i64 (by omega)];omega)) ?_)
     · conv=>whnf
       exact trivial
 · have hie:i=14:=by
    simp[aJ] at hlt
    omega
   subst hie
   have hN0:N=0:=hinv.symm
   rw[hN0]
   conv=>whnf
   repeat (refine aa.of ?_;conv=>whnf)
   exact⟨_,ao.refl _,rfl⟩
theorem sA:ah Tryz.prog 16 [.int .i64 4] (fun _=>True) (fun v F=>v=dS [113,117,101,117,101]):=by
 obtain⟨n,hn⟩ : ∃ n:Int,n=4:=⟨_,rfl⟩
 rw[← hn]
 have g1:lz n 1=false:=by simp[au,hn]
 have g2:mr n 14=false:=by simp[aH,hn]
 have hw1:IntKind.i64.wrap (n - 1)=3:=by rw[hn];rfl
 refine ah.aK ae Tryz.func16 rfl (by decide) (n:=Tryz.f16.ntmps - 1) rfl rfl fun w0 av=>?_
 conv=>whnf
 repeat (refine aa.of ?_;conv=>whnf)
 repeat' (first
  | (refine And.intro ?_ ?_<;>conv=>whnf)
  | (refine an.same rfl ?_;conv=>whnf)
  | (refine an.row rfl ?_;conv=>whnf)
  | (refine an.call rfl ?_;conv=>whnf)
  | (refine aS.of ?_;conv=>whnf)
  | (refine aa.of ?_;conv=>whnf)
  | (rw[g1];conv=>whnf)
  | (rw[g2];conv=>whnf)
  | (refine bT.no (by simp[g1,g2]) ?_;conv=>whnf)
  | (refine aw.pure mf (fun w hw=>trivial) (fun v D hv=>?_);obtain⟨b,rfl,rfl⟩:=hv;conv=>whnf)
  | (refine ar.aj (ak.index ae (t:=185) rfl rfl rfl (by rw[hw1];decide) (by rw[hw1];decide) (by simp) fun ad had=>?_);conv=>whnf)
  | (refine ar.aj (ak.aE ae rfl rfl (ad:=⟨b,0,none⟩) (k:=6) (L:=wE) (v:=dS [113,117,101,117,101]) (.fact fun w hw=>hw.2) (fun _=>by cases had;rw[hw1];rfl) rfl ?_);conv=>whnf)
  | (refine an.mk ?_ ?_;(focus (first | exact ao.refl _ | exact ao.left _ _ | exact ao.of_le ⟨List.sublist_append_left _ _,fun w h=>h⟩ | exact ao.of_le ⟨List.Sublist.refl _,fun w h=>h.1⟩));conv=>whnf))
 all_goals exact⟨_,ao.refl _,rfl⟩
end Go.Proofs.YtlnhdpjnlffaoaaGreatDoor

/- Parts of the proof: AbQ. -/
import Derived.Test.YtlnhdpjnlffaoaaGreatDoorQJ
import Derived.Test.YtlnhdpjnlffaoaaGreatDoorQM
namespace Go.Proofs.YtlnhdpjnlffaoaaGreatDoor
open Go Go.Sx
set_option maxRecDepth 100000
set_option maxHeartbeats 4000000
set_option linter.unusedVariables false
set_option linter.unusedSimpArgs false
theorem _root_.Go.Sx.af.pre {P:Program} {f:FuncId} {vs:List Value} {Pre Pre':World→Prop} {Rel:Value→Fx→Prop} (h:af P f vs Pre Rel) (hp : ∀ w,Pre' w→Pre w):af P f vs Pre' Rel:=by
 unfold af at h ⊢
 exact⟨h.1,fun av w hav hw=>h.2 av w hav (hw.imp hp)⟩
def bR (s:bW) (k:Nat):Bool:=match k with
 | 1=>eh s
 | 2=>allI 32 (kindOk s.T)
 | 3=>allI 32 (ev s.T)
 | 4=>jB s
 | 5=>t_ s
 | 6=>allI 32 (gF fun i=>(s.sp i).l.length)
 | 7=>k7 s
 | 8=>vJ s
 | 9=>jE s
 | 10=>s6 s
 | 11=>kb s.D
 | 12=>oJ s
 | 13=>uS s
 | 14=>lA s
 | _=>false
def va (f:FuncId):Value:=.func (.func f) #[] #[]
def Cn:List Value:=[.agg ⟨[eJ [112,97,114,116,115],va 61]⟩,.agg ⟨[eJ [107,105,110,100,115],va 62]⟩,.agg ⟨[eJ [119,97,105,116,105,110,103],va 63]⟩,
 .agg ⟨[eJ [113,117,101,117,101],va 64]⟩,.agg ⟨[eJ [114,105,103,104,116,115],va 65]⟩,.agg ⟨[eJ [115,112,97,99,101,115],va 66]⟩,
 .agg ⟨[eJ [116,114,97,110,115,102,101,114],va 67]⟩,.agg ⟨[eJ [103,114,97,110,116,101,100],va 68]⟩,.agg ⟨[eJ [97,108,111,110,101],va 69]⟩,
 .agg ⟨[eJ [109,101,115,115,97,103,101,115],va 70]⟩,.agg ⟨[eJ [100,111,119,110],va 71]⟩,.agg ⟨[eJ [105,110,116,101,114,114,117,112,116,115],va 72]⟩,
 .agg ⟨[eJ [114,101,99,111,114,100],va 73]⟩,.agg ⟨[eJ [116,105,109,101],va 74]⟩]
def yM:List Value:=Cn.flatMap fun x=>x.cells.toList
theorem pI:af Tryz.prog 24 [] (fun _=>True) (fun v F=>∃ b:Nat,v = .slice (some ⟨b,0,none⟩) 14 14∧F=⟨fun w=>ai w (some ⟨b,0,none⟩) yM,[]⟩):=by
 refine af.aG ae Tryz.func24 rfl (by decide) (n:=Tryz.f24.ntmps - 0) rfl rfl fun w0 av=>?_
 conv=>whnf
 repeat (refine aa.of ?_;conv=>whnf)
 refine ar.build ae (t:=185) rfl rfl rfl Cn rfl rfl (by simp[Value.cells,Cn]) (by decide) fun b=>?_
 conv=>whnf
 repeat (refine aa.of ?_;conv=>whnf)
 exact⟨_,ax.trans (ax.of_le (F':=⟨fun w=>True,[(b,Row.c yM)]⟩) ⟨List.Sublist.refl _,fun w hw=>hw⟩) (ax.trans ax.share1 (ax.imp fun w hw=>hw.2)),b,rfl,rfl⟩
theorem CU (C:List Value) (s:bW) (hC:dV C s) (ho:s.Ok) (k:Nat) (h1:1≤k) (h2:k≤14) :
 ∃ f,yM[(k - 1)*2+1]? = some (va f)∧af Tryz.prog f [.agg ⟨C⟩] (fun w=>s.Rows w∧bJ w) (fun v F=>v = .bool (bR s k)):=by
 have hS : ∀ i,i<32→C[275+i]? = some ((s.sp i).h.v (s.sp i).l.length):=hC.sp
 match k,h1,h2 with
 | 1,_,_=>exact⟨_,rfl,(vG C s hC ho).pre (fun w hw=>hw.1)⟩
 | 2,_,_=>exact⟨_,rfl,(wx C s.T hC.y9).pre (fun w hw=>trivial)⟩
 | 3,_,_=>exact⟨_,rfl,(sr C s.T hC.y9 hC.one).pre (fun w hw=>trivial)⟩
 | 4,_,_=>exact⟨_,rfl,(wy C s hC ho).pre (fun w hw=>hw.1)⟩
 | 5,_,_=>exact⟨_,rfl,(tw C s hC ho).pre (fun w hw=>hw.1)⟩
 | 6,_,_=>exact⟨_,rfl,(uc C (fun i=>(s.sp i).h) (fun i=>(s.sp i).l.length) hC.len hS).pre (fun w hw=>trivial)⟩
 | 7,_,_=>exact⟨_,rfl,(qP C s hC ho).pre (fun w hw=>hw.1)⟩
 | 8,_,_=>exact⟨_,rfl,(rM C s hC ho).pre (fun w hw=>hw.1)⟩
 | 9,_,_=>exact⟨_,rfl,(vg C s hC ho).pre (fun w hw=>hw.1)⟩
 | 10,_,_=>exact⟨_,rfl,(qJ C s hC ho).pre (fun w hw=>hw)⟩
 | 11,_,_=>exact⟨_,rfl,(xH C s.D hC.len hC.D).pre (fun w hw=>trivial)⟩
 | 12,_,_=>exact⟨_,rfl,(mX C s hC ho).pre (fun w hw=>hw.1)⟩
 | 13,_,_=>exact⟨_,rfl,(tJ C s hC ho).pre (fun w hw=>hw.1)⟩
 | 14,_,_=>exact⟨_,rfl,(x6 C s hC ho).pre (fun w hw=>hw.1)⟩
 | k+15,_,h=>omega
theorem rm (C:List Value) (s:bW) (hC:dV C s) (ho:s.Ok) (k:Nat) (h1:1≤k) (h2:k≤14) :
 af Tryz.prog 12 [.agg ⟨C⟩,.int .i64 (k:Int)] (fun w=>s.Rows w∧bJ w) (fun v F=>v = .bool (bR s k)):=by
 obtain⟨f,hf,hs⟩:=CU C s hC ho k h1 h2
 generalize bR s k=q at *
 have g1:dL (k:Int) 1=true:=by simp[aD];omega
 have g2:eW (k:Int) 14=true:=by simp[aC];omega
 have hw1:IntKind.i64.wrap ((k:Int) - 1)=((k - 1:Nat):Int):=by
  rw[wrap_i64 (by omega)]
  omega
 refine af.aG ae Tryz.func12 rfl (by decide) (n:=Tryz.f12.ntmps - 2) rfl rfl fun w0 av=>?_
 conv=>whnf
 repeat (refine aa.of ?_;conv=>whnf)
 refine ar.bQ fun br=>?_
 conv=>whnf
 repeat (refine aa.of ?_;conv=>whnf)
 refine az.draw ae mixed rfl rfl ?_
 conv=>whnf
 repeat' (first
  | (refine cj.call rfl ?_;conv=>whnf)
  | (rw[g1];conv=>whnf)
  | (rw[g2];conv=>whnf)
  | (refine aw.pure pI (fun w hw=>trivial) (fun v D hv=>?_);obtain⟨b,rfl,rfl⟩:=hv;conv=>whnf)
  | (refine ak.aQ ae rfl rfl (ad:=⟨br,0,none⟩) (k:=0) (L:=C) (m:=C) (aK.row (List.Mem.head _)) rfl (by rw[List.drop_zero];exact List.take_of_length_le (by rw[hC.len];exact Nat.le_refl _)) hC.len ?_;conv=>whnf)
  | (refine ak.fo ae (t:=188) rfl rfl ?_;refine vA (n:=376) (fun S h=>h) hC.len (by kernel_rfl) ?_;conv=>whnf)
  | (refine ak.index ae (t:=185) rfl rfl rfl (by rw[hw1];omega) (by rw[hw1];omega) (by simp) fun ad had=>?_;conv=>whnf)
  | (refine ak.aH ae rfl rfl (ad:=⟨b,0,none⟩) (k:=(k - 1)*2+1) (L:=yM) (v:=va f) (.fact fun w hw=>hw.2) (fun _=>by cases had;rw[hw1];exact Addr.bD rfl _ _) hf ?_;conv=>whnf)
  | (refine aw.val hs (fun w hw=>hw.1) (fun v D hv=>?_);subst hv;conv=>whnf))
 all_goals exact⟨_,ax.refl _,rfl⟩
def dx (s:bW):Nat→Nat→Nat
 | 0,_=>0
 | f+1,n=>if bR s n then dx s f (n+1) else n
def dA (s:bW):Nat:=dx s 14 1
theorem kI (s:bW) : ∀ f n,0<n→(dx s f n=0↔∀ k,n≤k→k<n+f→bR s k=true)
 | 0,n,h=>⟨fun _ k h1 h2=>by omega,fun _=>rfl⟩
 | f+1,n,h=>by
  unfold dx
  by_cases hr:bR s n=true
  · rw[if_pos hr,kI s f (n+1) (by omega)]
    constructor
    · intro h1 k h2 h3
      by_cases hk:k=n
      · rw[hk];exact hr
      · exact h1 k (by omega) (by omega)
    · intro h1 k h2 h3
      exact h1 k (by omega) (by omega)
  · rw[if_neg hr]
    constructor
    · intro h1;omega
    · intro h1;exact absurd (h1 n (Nat.le_refl _) (by omega)) hr
theorem pt (s:bW) {k:Nat} (hk:bR s k=false) : ∀ f n,n≤k→k<n+f→(∀ j,n≤j→j<k→bR s j=true)→dx s f n=k
 | 0,n,h1,h2,_=>by omega
 | f+1,n,h1,h2,h3=>by
  unfold dx
  by_cases hn:n=k
  · subst hn
    rw[if_neg (by rw[hk];decide)]
  · rw[if_pos (h3 n (Nat.le_refl _) (by omega))]
    exact pt s hk f (n+1) (by omega) (by omega) fun j hj=>h3 j (by omega)
theorem yO {s:bW}:dA s=0↔∀ k,1≤k→k≤14→bR s k=true:=by
 unfold dA
 rw[kI s 14 1 (by decide)]
 exact⟨fun h k h1 h2=>h k h1 (by omega),fun h k h1 h2=>h k h1 (by omega)⟩
theorem CV {s:bW} {k:Nat} (h1:1≤k) (h2:k≤14) (hk:bR s k=false) (h : ∀ j,1≤j→j<k→bR s j=true):dA s=k:=pt s hk 14 1 h1 (by omega) h
theorem ka (C:List Value) (s:bW) (hC:dV C s) (ho:s.Ok) :
 af Tryz.prog 10 [.agg ⟨C⟩] (fun w=>s.Rows w∧bJ w) (fun v F=>v = .tuple ⟨[.int .i64 (dA s:Int),.bool (decide (dA s=0))]⟩):=by
 obtain⟨N,hN⟩ : ∃ N,dA s=N:=⟨_,rfl⟩
 rw[hN]
 unfold dA at hN
 refine af.aG ae Tryz.func10 rfl (by decide) (n:=Tryz.f10.ntmps - 1) rfl rfl fun w0 av=>?_
 conv=>whnf
 repeat (refine aa.of ?_;conv=>whnf)
 refine ar.bQ fun br=>?_
 conv=>whnf
 repeat (refine aa.of ?_;conv=>whnf)
 refine az.loop ae (ι:=Nat) (List.range' 4 10) (fun x=>x≤14∧dx s (14 - x) (x+1)=N)
  (fun x=>[(4,.v (.int .i64 ((x+1:Nat):Int)))]) (fun _=>[]) (fun _=>⟨fun w=>s.Rows w∧bJ w,[(br,Row.c C)]⟩)
  (fun x=>14 - x) 0 ⟨Nat.zero_le _,hN⟩ ?_ rfl (ax.of_le ⟨by simp[Value.cells],fun w hw=>hw⟩) fun i hi=>?_
 · conv=>whnf
   repeat (first | exact au.nil | refine au.any ?_ | refine au.cons ?_)
 obtain⟨hi,hinv⟩:=hi
 conv=>whnf
 repeat (refine aa.of ?_;conv=>whnf)
 refine bF.split (fun hlt=>?_) (fun hlt=>?_)
 · have hlt':i<14:=by
    simp[aC] at hlt
    omega
   have h1:=rm C s hC ho (i+1) (by omega) (by omega)
   rw[show 14 - i=(14 - (i+1))+1 from by omega] at hinv
   unfold dx at hinv
   generalize bR s (i+1)=q at *
   conv=>whnf
   repeat (refine aa.of ?_;conv=>whnf)
   refine ar.aj (ak.aQ ae rfl rfl (ad:=⟨br,0,none⟩) (k:=0) (L:=C) (m:=C) (aK.row (List.Mem.head _)) rfl (by rw[List.drop_zero];exact List.take_of_length_le (by rw[hC.len];exact Nat.le_refl _)) hC.len ?_)
   conv=>whnf
   repeat (refine aa.of ?_;conv=>whnf)
   refine aw.val h1 (fun w hw=>hw) (fun v D hv=>?_)
   subst hv
   cases q
   · have hNe:N=i+1:=hinv.symm
     conv=>whnf
     repeat (refine aa.of ?_;conv=>whnf)
     refine⟨_,ax.refl _,?_⟩
     rw[hNe]
     rfl
   · conv=>whnf
     repeat (refine aa.of ?_;conv=>whnf)
     refine⟨i+1,⟨⟨hlt',hinv⟩,by dsimp only;omega⟩,?_,?_,ax.refl _⟩
     · conv=>whnf
       refine⟨?_,rfl⟩
       repeat (first | exact au.nil | refine au.any ?_ | refine au.cons ?_ | refine au.eq (congrArg (fun z=>SV.v (Value.int .i64 z)) (by rw[wrap_i64 (by omega)];omega)) ?_)
     · conv=>whnf
       exact trivial
 · have hie:i=14:=by
    simp[aC] at hlt
    omega
   subst hie
   have hN0:N=0:=hinv.symm
   rw[hN0]
   conv=>whnf
   repeat (refine aa.of ?_;conv=>whnf)
   exact⟨_,ax.refl _,rfl⟩
theorem vY:af Tryz.prog 16 [.int .i64 4] (fun _=>True) (fun v F=>v=eJ [113,117,101,117,101]):=by
 obtain⟨n,hn⟩ : ∃ n:Int,n=4:=⟨_,rfl⟩
 rw[← hn]
 have g1:fI n 1=false:=by simp[ao,hn]
 have g2:gY n 14=false:=by simp[aB,hn]
 have hw1:IntKind.i64.wrap (n - 1)=3:=by rw[hn];rfl
 refine af.aG ae Tryz.func16 rfl (by decide) (n:=Tryz.f16.ntmps - 1) rfl rfl fun w0 av=>?_
 conv=>whnf
 repeat (refine aa.of ?_;conv=>whnf)
 repeat' (first
  | (rw[g1];conv=>whnf)
  | (rw[g2];conv=>whnf)
  | (refine aw.pure pI (fun w hw=>trivial) (fun v D hv=>?_);obtain⟨b,rfl,rfl⟩:=hv;conv=>whnf)
  | (refine ar.aj (ak.index ae (t:=185) rfl rfl rfl (by rw[hw1];decide) (by rw[hw1];decide) (by simp) fun ad had=>?_);conv=>whnf)
  | (refine ar.aj (ak.aH ae rfl rfl (ad:=⟨b,0,none⟩) (k:=6) (L:=yM) (v:=eJ [113,117,101,117,101]) (.fact fun w hw=>hw.2) (fun _=>by cases had;rw[hw1];rfl) rfl ?_);conv=>whnf))
 all_goals exact⟨_,ax.refl _,rfl⟩
end Go.Proofs.YtlnhdpjnlffaoaaGreatDoor

/- Parts of the proof: AbQ. -/
import Derived.Test.YtlnhdpjnlffaoaaGreatDoorQJ
import Derived.Test.YtlnhdpjnlffaoaaGreatDoorQM
namespace Go.Proofs.YtlnhdpjnlffaoaaGreatDoor
open Go Go.Sx
set_option maxRecDepth 100000
set_option maxHeartbeats 4000000
set_option linter.unusedVariables false
set_option linter.unusedSimpArgs false
theorem _root_.Go.Sx.ah.pre {P:Program} {f:FuncId} {vs:List Value} {Pre Pre':World→Prop} {Rel:Value→Fx→Prop} (h:ah P f vs Pre Rel) (hp : ∀ w,Pre' w→Pre w):ah P f vs Pre' Rel:=by
 unfold ah at h ⊢
 exact⟨h.1,fun av w hav hw=>h.2 av w hav (hw.imp hp)⟩
def dt (s:bH) (k:Nat):Bool:=match k with
 | 1=>jh s
 | 2=>allI 32 (kindOk s.T)
 | 3=>allI 32 (fp s.T)
 | 4=>fR s
 | 5=>tn s
 | 6=>allI 32 (nK fun i=>(s.sp i).l.length)
 | 7=>oG s
 | 8=>rL s
 | 9=>lx s
 | 10=>vn s
 | 11=>jW s.D
 | 12=>rA s
 | 13=>vb s
 | 14=>sO s
 | _=>false
def rl (f:FuncId):Value:=.func (.func f) #[] #[]
def yo:List Value:=[.agg ⟨[dR [112,97,114,116,115],rl 61]⟩,.agg ⟨[dR [107,105,110,100,115],rl 62]⟩,.agg ⟨[dR [119,97,105,116,105,110,103],rl 63]⟩,
 .agg ⟨[dR [113,117,101,117,101],rl 64]⟩,.agg ⟨[dR [114,105,103,104,116,115],rl 65]⟩,.agg ⟨[dR [115,112,97,99,101,115],rl 66]⟩,
 .agg ⟨[dR [116,114,97,110,115,102,101,114],rl 67]⟩,.agg ⟨[dR [103,114,97,110,116,101,100],rl 68]⟩,.agg ⟨[dR [97,108,111,110,101],rl 69]⟩,
 .agg ⟨[dR [109,101,115,115,97,103,101,115],rl 70]⟩,.agg ⟨[dR [100,111,119,110],rl 71]⟩,.agg ⟨[dR [105,110,116,101,114,114,117,112,116,115],rl 72]⟩,
 .agg ⟨[dR [114,101,99,111,114,100],rl 73]⟩,.agg ⟨[dR [116,105,109,101],rl 74]⟩]
def vH:List Value:=yo.flatMap fun x=>x.cells.toList
theorem mo:ah Tryz.prog 24 [] (fun _=>True) (fun v F=>∃ b:Nat,v = .slice (some ⟨b,0,none⟩) 14 14∧F=⟨fun w=>af w (some ⟨b,0,none⟩) vH,[]⟩):=by
 refine ah.aK ae Tryz.func24 rfl (by decide) (n:=Tryz.f24.ntmps - 0) rfl rfl fun w0 av=>?_
 conv=>whnf
 repeat (refine aa.of ?_;conv=>whnf)
 refine ar.build ae (t:=185) rfl rfl rfl yo rfl rfl (by simp[Value.cells,yo]) (by decide) fun b=>?_
 conv=>whnf
 repeat (refine aa.of ?_;conv=>whnf)
 exact⟨_,ao.trans (ao.of_le (F':=⟨fun w=>True,[(b,Row.c vH)]⟩) ⟨List.Sublist.refl _,fun w hw=>hw⟩) (ao.trans ao.share1 (ao.imp fun w hw=>hw.2)),b,rfl,rfl⟩
theorem yV (C:List Value) (s:bH) (hC:dN C s) (ho:s.Ok) (k:Nat) (h1:1≤k) (h2:k≤14) :
 ∃ f,vH[(k - 1)*2+1]? = some (rl f)∧ah Tryz.prog f [.agg ⟨C⟩] (fun w=>s.Rows w∧bQ w) (fun v F=>v = .bool (dt s k)):=by
 have hS : ∀ i,i<32→C[275+i]? = some ((s.sp i).h.v (s.sp i).l.length):=hC.sp
 match k,h1,h2 with
 | 1,_,_=>exact⟨_,rfl,(ry C s hC ho).pre (fun w hw=>hw.1)⟩
 | 2,_,_=>exact⟨_,rfl,(sR C s.T hC.va).pre (fun w hw=>trivial)⟩
 | 3,_,_=>exact⟨_,rfl,(oq C s.T hC.va hC.one).pre (fun w hw=>trivial)⟩
 | 4,_,_=>exact⟨_,rfl,(sU C s hC ho).pre (fun w hw=>hw.1)⟩
 | 5,_,_=>exact⟨_,rfl,(qA C s hC ho).pre (fun w hw=>hw.1)⟩
 | 6,_,_=>exact⟨_,rfl,(qs C (fun i=>(s.sp i).h) (fun i=>(s.sp i).l.length) hC.len hS).pre (fun w hw=>trivial)⟩
 | 7,_,_=>exact⟨_,rfl,(nf C s hC ho).pre (fun w hw=>hw.1)⟩
 | 8,_,_=>exact⟨_,rfl,(oJ C s hC ho).pre (fun w hw=>hw.1)⟩
 | 9,_,_=>exact⟨_,rfl,(rI C s hC ho).pre (fun w hw=>hw.1)⟩
 | 10,_,_=>exact⟨_,rfl,(m_ C s hC ho).pre (fun w hw=>hw)⟩
 | 11,_,_=>exact⟨_,rfl,(tP C s.D hC.len hC.D).pre (fun w hw=>trivial)⟩
 | 12,_,_=>exact⟨_,rfl,(ll C s hC ho).pre (fun w hw=>hw.1)⟩
 | 13,_,_=>exact⟨_,rfl,(qm C s hC ho).pre (fun w hw=>hw.1)⟩
 | 14,_,_=>exact⟨_,rfl,(uI C s hC ho).pre (fun w hw=>hw.1)⟩
 | k+15,_,h=>omega
theorem uq (C:List Value) (s:bH) (hC:dN C s) (ho:s.Ok) (k:Nat) (h1:1≤k) (h2:k≤14) :
 ah Tryz.prog 12 [.agg ⟨C⟩,.int .i64 (k:Int)] (fun w=>s.Rows w∧bQ w) (fun v F=>v = .bool (dt s k)):=by
 obtain⟨f,hf,hs⟩:=yV C s hC ho k h1 h2
 generalize dt s k=q at *
 have g1:g_ (k:Int) 1=true:=by simp[aJ];omega
 have g2:mS (k:Int) 14=true:=by simp[aH];omega
 have hw1:IntKind.i64.wrap ((k:Int) - 1)=((k - 1:Nat):Int):=by
  rw[wrap_i64 (by omega)]
  omega
 refine ah.aK ae Tryz.func12 rfl (by decide) (n:=Tryz.f12.ntmps - 2) rfl rfl fun w0 av=>?_
 conv=>whnf
 repeat (refine aa.of ?_;conv=>whnf)
 refine ar.cz fun br=>?_
 conv=>whnf
 repeat (refine aa.of ?_;conv=>whnf)
 refine az.draw ae mixed rfl rfl ?_
 conv=>whnf
 repeat' (first
  | (refine And.intro ?_ ?_<;>conv=>whnf)
  | (refine an.same rfl ?_;conv=>whnf)
  | (refine an.row rfl ?_;conv=>whnf)
  | (refine an.call rfl ?_;conv=>whnf)
  | (refine aS.of ?_;conv=>whnf)
  | (refine aa.of ?_;conv=>whnf)
  | (rw[g1];conv=>whnf)
  | (rw[g2];conv=>whnf)
  | (refine aw.pure mo (fun w hw=>trivial) (fun v D hv=>?_);obtain⟨b,rfl,rfl⟩:=hv;conv=>whnf)
  | (refine ak.aT ae rfl rfl (ad:=⟨br,0,none⟩) (k:=0) (L:=C) (m:=C) (aF.row (List.Mem.head _)) rfl (by rw[List.drop_zero];exact List.take_of_length_le (by rw[hC.len];exact Nat.le_refl _)) hC.len ?_;conv=>whnf)
  | (refine ak.ed ae (t:=188) rfl rfl ?_;refine rQ (n:=376) (fun S h=>h) hC.len (by kernel_rfl) ?_;conv=>whnf)
  | (refine ak.index ae (t:=185) rfl rfl rfl (by rw[hw1];omega) (by rw[hw1];omega) (by simp) fun ad had=>?_;conv=>whnf)
  | (refine ar.aj (ak.index ae (t:=185) rfl rfl rfl (by rw[hw1];omega) (by rw[hw1];omega) (by simp) fun ad had=>?_);conv=>whnf)
  | (refine ak.aG ae rfl rfl (ad:=⟨b,0,none⟩) (k:=(k - 1)*2+1) (L:=vH) (v:=rl f) (.fact fun w hw=>hw.2) (fun _=>by cases had;rw[hw1];exact Addr.c_ rfl _ _) hf ?_;conv=>whnf)
  | (refine aw.val hs (fun w hw=>hw.1) (fun v D hv=>?_);subst hv;conv=>whnf)
  | (refine an.mk ?_ ?_;(focus (first | exact ao.refl _ | exact ao.left _ _ | exact ao.of_le ⟨List.sublist_append_left _ _,fun w h=>h⟩ | exact ao.of_le ⟨List.Sublist.refl _,fun w h=>h.1⟩));conv=>whnf))
 all_goals exact⟨_,ao.refl _,rfl⟩
def ff (s:bH):Nat→Nat→Nat
 | 0,_=>0
 | f+1,n=>if dt s n then ff s f (n+1) else n
def ey (s:bH):Nat:=ff s 14 1
theorem jk (s:bH) : ∀ f n,0<n→(ff s f n=0↔∀ k,n≤k→k<n+f→dt s k=true)
 | 0,n,h=>⟨fun _ k h1 h2=>by omega,fun _=>rfl⟩
 | f+1,n,h=>by
  unfold ff
  by_cases hr:dt s n=true
  · rw[if_pos hr,jk s f (n+1) (by omega)]
    constructor
    · intro h1 k h2 h3
      by_cases hk:k=n
      · rw[hk];exact hr
      · exact h1 k (by omega) (by omega)
    · intro h1 k h2 h3
      exact h1 k (by omega) (by omega)
  · rw[if_neg hr]
    constructor
    · intro h1;omega
    · intro h1;exact absurd (h1 n (Nat.le_refl _) (by omega)) hr
theorem mH (s:bH) {k:Nat} (hk:dt s k=false) : ∀ f n,n≤k→k<n+f→(∀ j,n≤j→j<k→dt s j=true)→ff s f n=k
 | 0,n,h1,h2,_=>by omega
 | f+1,n,h1,h2,h3=>by
  unfold ff
  by_cases hn:n=k
  · subst hn
    rw[if_neg (by rw[hk];decide)]
  · rw[if_pos (h3 n (Nat.le_refl _) (by omega))]
    exact mH s hk f (n+1) (by omega) (by omega) fun j hj=>h3 j (by omega)
theorem sC {s:bH}:ey s=0↔∀ k,1≤k→k≤14→dt s k=true:=by
 unfold ey
 rw[jk s 14 1 (by decide)]
 exact⟨fun h k h1 h2=>h k h1 (by omega),fun h k h1 h2=>h k h1 (by omega)⟩
theorem wy {s:bH} {k:Nat} (h1:1≤k) (h2:k≤14) (hk:dt s k=false) (h : ∀ j,1≤j→j<k→dt s j=true):ey s=k:=mH s hk 14 1 h1 (by omega) h
theorem dv (C:List Value) (s:bH) (hC:dN C s) (ho:s.Ok) :
 ah Tryz.prog 10 [.agg ⟨C⟩] (fun w=>s.Rows w∧bQ w) (fun v F=>v = .tuple ⟨[.int .i64 (ey s:Int),.bool (decide (ey s=0))]⟩):=by
 obtain⟨N,hN⟩ : ∃ N,ey s=N:=⟨_,rfl⟩
 rw[hN]
 unfold ey at hN
 refine ah.aK ae Tryz.func10 rfl (by decide) (n:=Tryz.f10.ntmps - 1) rfl rfl fun w0 av=>?_
 conv=>whnf
 repeat (refine aa.of ?_;conv=>whnf)
 refine ar.cz fun br=>?_
 conv=>whnf
 repeat (refine aa.of ?_;conv=>whnf)
 refine az.loop ae (ι:=Nat) (List.range' 4 10) (fun x=>x≤14∧ff s (14 - x) (x+1)=N)
  (fun x=>[(4,.v (.int .i64 ((x+1:Nat):Int)))]) (fun _=>[]) (fun _=>⟨fun w=>s.Rows w∧bQ w,[(br,Row.c C)]⟩)
  (fun x=>14 - x) 0 ⟨Nat.zero_le _,hN⟩ ?_ rfl (ao.of_le ⟨by simp[Value.cells],fun w hw=>hw⟩) fun i hi=>?_
 · conv=>whnf
   repeat (first | exact ax.nil | refine ax.any ?_ | refine ax.cons ?_)
 obtain⟨hi,hinv⟩:=hi
 conv=>whnf
 repeat (refine aa.of ?_;conv=>whnf)
 refine bV.split (fun hlt=>?_) (fun hlt=>?_)
 · have hlt':i<14:=by
    simp[aH] at hlt
    omega
   have h1:=uq C s hC ho (i+1) (by omega) (by omega)
   rw[show 14 - i=(14 - (i+1))+1 from by omega] at hinv
   unfold ff at hinv
   generalize dt s (i+1)=q at *
   conv=>whnf
   repeat (refine aa.of ?_;conv=>whnf)
   refine ar.aj (ak.aT ae rfl rfl (ad:=⟨br,0,none⟩) (k:=0) (L:=C) (m:=C) (aF.row (List.Mem.head _)) rfl (by rw[List.drop_zero];exact List.take_of_length_le (by rw[hC.len];exact Nat.le_refl _)) hC.len ?_)
   conv=>whnf
   repeat (refine aa.of ?_;conv=>whnf)
   refine aw.val h1 (fun w hw=>hw) (fun v D hv=>?_)
   subst hv
   cases q
   · have hNe:N=i+1:=hinv.symm
     conv=>whnf
     repeat (refine aa.of ?_;conv=>whnf)
     refine⟨_,ao.refl _,?_⟩
     rw[hNe]
     rfl
   · conv=>whnf
     repeat (refine aa.of ?_;conv=>whnf)
     refine⟨i+1,⟨⟨hlt',hinv⟩,by dsimp only;omega⟩,?_,?_,ao.refl _⟩
     · conv=>whnf
       refine⟨?_,rfl⟩
       repeat (first | exact ax.nil | refine ax.any ?_ | refine ax.cons ?_ | refine ax.eq (congrArg (fun z=>SV.v (Value.int .i64 z)) (by rw[wrap_i64 (by omega)];omega)) ?_)
     · conv=>whnf
       exact trivial
 · have hie:i=14:=by
    simp[aH] at hlt
    omega
   subst hie
   have hN0:N=0:=hinv.symm
   rw[hN0]
   conv=>whnf
   repeat (refine aa.of ?_;conv=>whnf)
   exact⟨_,ao.refl _,rfl⟩
theorem rM:ah Tryz.prog 16 [.int .i64 4] (fun _=>True) (fun v F=>v=dR [113,117,101,117,101]):=by
 obtain⟨n,hn⟩ : ∃ n:Int,n=4:=⟨_,rfl⟩
 rw[← hn]
 have g1:lB n 1=false:=by simp[au,hn]
 have g2:lQ n 14=false:=by simp[aI,hn]
 have hw1:IntKind.i64.wrap (n - 1)=3:=by rw[hn];rfl
 refine ah.aK ae Tryz.func16 rfl (by decide) (n:=Tryz.f16.ntmps - 1) rfl rfl fun w0 av=>?_
 conv=>whnf
 repeat (refine aa.of ?_;conv=>whnf)
 repeat' (first
  | (refine And.intro ?_ ?_<;>conv=>whnf)
  | (refine an.same rfl ?_;conv=>whnf)
  | (refine an.row rfl ?_;conv=>whnf)
  | (refine an.call rfl ?_;conv=>whnf)
  | (refine aS.of ?_;conv=>whnf)
  | (refine aa.of ?_;conv=>whnf)
  | (rw[g1];conv=>whnf)
  | (rw[g2];conv=>whnf)
  | (refine bV.no (by simp[g1,g2]) ?_;conv=>whnf)
  | (refine aw.pure mo (fun w hw=>trivial) (fun v D hv=>?_);obtain⟨b,rfl,rfl⟩:=hv;conv=>whnf)
  | (refine ar.aj (ak.index ae (t:=185) rfl rfl rfl (by rw[hw1];decide) (by rw[hw1];decide) (by simp) fun ad had=>?_);conv=>whnf)
  | (refine ar.aj (ak.aG ae rfl rfl (ad:=⟨b,0,none⟩) (k:=6) (L:=vH) (v:=dR [113,117,101,117,101]) (.fact fun w hw=>hw.2) (fun _=>by cases had;rw[hw1];rfl) rfl ?_);conv=>whnf)
  | (refine an.mk ?_ ?_;(focus (first | exact ao.refl _ | exact ao.left _ _ | exact ao.of_le ⟨List.sublist_append_left _ _,fun w h=>h⟩ | exact ao.of_le ⟨List.Sublist.refl _,fun w h=>h.1⟩));conv=>whnf))
 all_goals exact⟨_,ao.refl _,rfl⟩
end Go.Proofs.YtlnhdpjnlffaoaaGreatDoor

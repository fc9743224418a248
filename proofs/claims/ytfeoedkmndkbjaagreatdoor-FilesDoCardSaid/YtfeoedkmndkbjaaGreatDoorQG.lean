/- Parts of the proof: NbE, NbF, NbG, NbH, NvA, NvB, NbI. -/
import Derived.Test.YtfeoedkmndkbjaaGreatDoorQE
import Derived.Test.YtfeoedkmndkbjaaGreatDoorQF
namespace Go.Proofs.YtfeoedkmndkbjaaGreatDoor
open Go Go.Sx
set_option maxRecDepth 100000
set_option maxHeartbeats 4000000
set_option linter.unusedVariables false
set_option linter.unusedSimpArgs false
def DZ (f:Field):String×Nat×Nat:=(f.name,f.type,f.offset)
theorem El {α β:Type} {g:α→β} {l:List α} {a b c:β} (h:l.map g = [a,b,c]) : ∃ x y z,l = [x,y,z]∧g x=a∧g y=b∧g z=c:=by
 match l,h with
 | [x,y,z],h=>
  simp at h
  exact⟨x,y,z,rfl,h.1,h.2.1,h.2.2⟩
def jB (k s:Nat) (b:Nat→Nat):Bool:=decide (k=0)&&(decide (s=0)&&(List.range 12).all fun i=>decide (b i=0))
theorem cW {k s:Nat} {b:Nat→Nat}:jB k s b=true↔k=0∧s=0∧∀ i,i<12→b i=0:=by
 simp[jB,List.all_eq_true]
theorem DP (k s:Nat) (b:Nat→Nat) (w:World):(Op.equalIn 10000 74 (.agg ⟨bg k s b⟩) (.agg ⟨bg 0 0 fun _=>0⟩)).run Tryz.prog w = .ok (jB k s b) w:=by
 have hS:Tryz.prog.underlying 74=some (.struct (Tryz.prog.fieldsOf 74)):=by kernel_rfl
 have hp:Tryz.prog.stoodInHeld 74=false:=by kernel_rfl
 have hf:(Tryz.prog.fieldsOf 74).toList.map DZ = [("Kind",3,0),("Size",3,1),("Blocks",72,2)]:=by kernel_rfl
 obtain⟨x,y,z,hl,hx,hy,hz⟩:=El hf
 have h3:Tryz.prog.underlying 3=some (.int .i64):=by kernel_rfl
 have h47:Tryz.prog.underlying 72=some (.array 12 3):=by kernel_rfl
 obtain⟨i3,hi3⟩ : ∃ i,Tryz.prog.info? 3=some i:=Option.isSome_iff_exists.1 (by kernel_rfl)
 obtain⟨i47,hi47,hs47⟩ : ∃ i,Tryz.prog.info? 72=some i∧i.size=12:=by
  obtain⟨i,hi⟩ : ∃ i,Tryz.prog.info? 72=some i:=Option.isSome_iff_exists.1 (by kernel_rfl)
  have hsz:(Tryz.prog.info? 72).map (·.size)=some 12:=by kernel_rfl
  rw[hi] at hsz
  exact⟨i,hi,by simpa using hsz⟩
 have hc3:Tryz.prog.cellsOf 3=1:=by kernel_rfl
 simp only[DZ,Prod.mk.injEq] at hx hy hz
 obtain⟨hx1,hx2,hx3⟩:=hx
 obtain⟨hy1,hy2,hy3⟩:=hy
 obtain⟨hz1,hz2,hz3⟩:=hz
 rw[show(10000:Nat)=9999+1 from rfl,run_equalIn_struct w 9999 74 _ _ hS hp,hl]
 simp only[Op.eqFields,hx1,hx2,hx3,hy1,hy2,hy3,hz1,hz2,hz3]
 have hq : ∀ a:Nat,(Op.equalIn 9999 3 (aE a) (aE 0)).run Tryz.prog w = .ok (decide (a=0)) w:=fun a=>by
  have h:=run_equalIn_int (P:=Tryz.prog) w 9998 3 .i64 .i64 (a:Int) ((0:Nat):Int) h3
  have e:((a:Int) == ((0:Nat):Int))=decide (a=0):=by rw[Bool.eq_iff_iff];simp
  rw[e] at h
  exact h
 unfold jB
 rw[if_pos (by decide),ag (ep h3 rfl (v:=aE k) rfl w),ag (ep h3 rfl (v:=aE 0) rfl w),ag (hq k)]
 cases decide (k=0) with
 | false=>rfl
 | true=>
  simp only[Bool.not_true,Bool.false_eq_true,if_false,Bool.true_and]
  rw[if_pos (by decide),ag (ep h3 rfl (v:=aE s) rfl w),ag (ep h3 rfl (v:=aE 0) rfl w),ag (hq s)]
  cases decide (s=0) with
  | false=>rfl
  | true=>
   simp only[Bool.not_true,Bool.false_eq_true,if_false,Bool.true_and]
   rw[if_pos (by decide),ag (tK h47 rfl hi47 w),ag (tK h47 rfl hi47 w),hs47]
   have h4:=run_equalIn_array (P:=Tryz.prog) w 9998 ((⟨bg k s b⟩:Array Value).extract 2 (2+12)) ((⟨bg 0 0 fun _=>0⟩:Array Value).extract 2 (2+12)) h47 hi3
   rw[hc3,ku h3 9997 1 _ _ (fun i=>(b i:Int)) (fun _=>0) w (List.range 12) (fun i hi=>by
    rw[List.mem_range] at hi
    rw[Nat.mul_one]
    constructor
    · have:=cP (k:=k) (s:=s) (b:=b) hi
      rw[Array.getElem?_extract]
      simp only[List.getElem?_toArray,List.size_toArray]
      rw[if_pos (by simp[bg];omega),this]
      rfl
    · have:=cP (k:=0) (s:=0) (b:=fun _=>0) hi
      rw[Array.getElem?_extract]
      simp only[List.getElem?_toArray,List.size_toArray]
      rw[if_pos (by simp[bg];omega),this]
      rfl)] at h4
   rw[ag h4]
   have e3:((List.range 12).all fun i=>((b i:Int) == 0))=(List.range 12).all fun i=>decide (b i=0):=by
    congr 1
    funext i
    rw[Bool.eq_iff_iff]
    simp
   rw[e3]
   cases (List.range 12).all fun i=>decide (b i=0)<;>rfl
section
variable {w0:World} {R:Nat→Nat→Prop} {av:Nat→Prop} {bs:List (Nat×Nat)} {cs:List (List Value)} {F:Fx}
theorem ai.Ep {x y:Operand} {k s:Nat} {b:Nat→Nat} {K:Value→Prop} (h:K (.bool (jB k s b))) :
 ai Tryz.prog w0 R av (do eqGuard .eql 74 x y (.agg ⟨bg k s b⟩) (.agg ⟨bg 0 0 fun _=>0⟩);binOp .eql 74 (.agg ⟨bg k s b⟩) (.agg ⟨bg 0 0 fun _=>0⟩)) bs cs F K:=by
 refine(aQ _ _ _ _).2 ⟨_,fun w _=>?_,h⟩
 have hm:Tryz.prog.eqGuardType Tryz.prog.depth 74=false:=by kernel_rfl
 rw[ag (run_eqGuard_agg w .eql 74 x y _ _ hm),run_eql_struct,DP]
 rfl
end
def jA (d:List UInt8) (s:Nat) (b:Nat→Nat):Bool:=decide (s%128=0)||(decide (b (s/128)=0)||gz (cut d (128*b (s/128)+s%128) (128 - s%128)))
theorem dP (a b:Nat):cN (a:Int) (b:Int)=decide (a=b):=by
 rw[aD,Bool.eq_iff_iff]
 simp only[beq_iff_eq,decide_eq_true_eq]
 omega
theorem AE (d:List UInt8) (h:Hd) (hh:h.Ok d.length) (hd:d.length=12288) (k s:Nat) (b:Nat→Nat) (hs:s≤1536) (hb : ∀ i,i<12→b i<96) :
 af Tryz.prog 138 [h.v d.length,.agg ⟨bg k s b⟩] (fun w=>By w h d) (fun v F=>v = .bool (jA d s b)):=by
 have hc:=hh.cap
 have e1:IntKind.i64.wrap (Int.tdiv (s:Int) (Int.ofNat 128))=((s/128:Nat):Int):=kI s 128 (by omega)
 have e2:Int.tmod (s:Int) (Int.ofNat 128)=((s%128:Nat):Int):=dL s 128
 refine af.aF ab Tryz.func138 rfl (by decide) (n:=Tryz.f138.ntmps - 2) rfl rfl fun w0 av=>?_
 conv=>whnf
 intro b0
 conv=>whnf
 generalize hm:cN _ 0=c0
 have hm:c0=decide (s%128=0):=by
  rw[← hm]
  show cN (Int.tmod (s:Int) (Int.ofNat 128)) ((0:Nat):Int)=_
  rw[e2,dP]
 cases c0
 rotate_left
 · conv=>whnf
   repeat (refine aa.of ?_;conv=>whnf)
   refine⟨_,aq.refl _,?_⟩
   unfold jA
   rw[← hm]
   rfl
 have hs0:s%128≠0:=by simpa using hm.symm
 have hlt:s/128<12:=by omega
 conv=>whnf
 repeat (refine aa.of ?_;conv=>whnf)
 rw[e1]
 conv=>whnf
 rw[bL hlt]
 conv=>whnf
 refine cF (x:=aE (b (s/128))) (by dsimp only;rw[Nat.mul_one,Nat.zero_add];exact cP hlt) ?_
 conv=>whnf
 repeat (refine aa.of ?_;conv=>whnf)
 generalize hm2:cN _ 0=c1
 have hm2:c1=decide (b (s/128)=0):=by
  rw[← hm2]
  exact dP (b (s/128)) 0
 cases c1
 · conv=>whnf
   have hcl:(cut d (128*b (s/128)+s%128) (128 - s%128)).length=128 - s%128:=aZ (by have:=hb _ hlt;omega)
   have hb1:b (s/128)<96:=hb _ hlt
   have hok:(Hd.sub h (128*b (s/128))).Ok 128:=Hd.eu hh (by omega)
   have hz:=mG (cut d (128*b (s/128)+s%128) (128 - s%128)) (Hd.sub (Hd.sub h (128*b (s/128))) (s%128)) (by rw[hcl];exact Hd.eu hok (by omega)) (by omega)
   rw[hcl] at hz
   refine aI.draw ab mixed rfl rfl ?_
   conv=>whnf
   repeat' (first
    | (refine And.intro ?_ ?_<;>conv=>whnf)
    | (refine ax.same rfl ?_;conv=>whnf)
    | (refine ax.row rfl ?_;conv=>whnf)
    | (refine ax.call rfl ?_;conv=>whnf)
    | (refine bG.of ?_;conv=>whnf)
    | (refine aa.of ?_;conv=>whnf)
    | (rw[bL hlt];conv=>whnf)
    | (refine cF (x:=aE (b (s/128))) (by dsimp only;rw[Nat.mul_one,Nat.zero_add];exact cP hlt) ?_;conv=>whnf)
    | (refine ak.val (ea h d.length (b (s/128)) hh (by omega) (by omega)) (fun w hw=>trivial) (fun v D hv=>?_);subst hv;conv=>whnf)
    | (refine ai.gD ab (t:=23) rfl rfl rfl rfl (s%128) e2 (by omega) hok.cap ?_;conv=>whnf)
    | (refine ak.val hz (fun w hw=>?_) (fun v D hv=>?_);(focus (have h2:=By.sub (By.sub hw (l:=128*b (s/128)) (k:=128) (by omega)) (l:=s%128) (k:=128 - s%128) (by have:=hok.cap;omega);rw[tZ (by omega)] at h2;exact h2));subst hv;conv=>whnf)
    | (refine ax.mk ?_ ?_;(focus (first | exact aq.refl _ | exact aq.left _ _ | exact aq.of_le ⟨List.sublist_append_left _ _,fun w h=>h⟩ | exact aq.of_le ⟨List.Sublist.refl _,fun w h=>h.1⟩));conv=>whnf))
   refine⟨_,aq.refl _,?_⟩
   unfold jA
   rw[← hm2,← hm]
   simp
 · conv=>whnf
   repeat (refine aa.of ?_;conv=>whnf)
   refine⟨_,aq.refl _,?_⟩
   unfold jA
   rw[← hm2]
   simp
end Go.Proofs.YtfeoedkmndkbjaaGreatDoor
namespace Go.Proofs.YtfeoedkmndkbjaaGreatDoor
open Go Go.Sx
set_option maxRecDepth 100000
set_option maxHeartbeats 4000000
set_option linter.unusedVariables false
set_option linter.unusedSimpArgs false
def lB (d:List UInt8) (n:Nat):Prop:=
 (rk d n=1∨rk d n=2)∧rs d n≤1536∧(n=0→rk d n=2)∧(∀ i,i<12→rb d n i≠0→18≤rb d n i∧rb d n i<96∧i*128<rs d n)∧jA d (rs d n) (rb d n)=true∧(rk d n=1∨(rs d n=128∧rb d n 0≠0))
instance (d:List UInt8) (n:Nat):Decidable (lB d n):=by unfold lB;infer_instance
def cH (d:List UInt8) (n:Nat):Bool:=decide (rp d n=0)&&(if jB (rk d n) (rs d n) (rb d n) then decide (n≠0) else decide (lB d n))
theorem pn (d:List UInt8) (n i:Nat):rb d n i<256:=bJ _ _
theorem lX (d:List UInt8) (n:Nat):rk d n<256:=bJ _ _
theorem vR (d:List UInt8) (n:Nat):rs d n<65536:=by
 have h1:=bJ d (1792+16*n+1)
 have h2:=bJ d (1792+16*n+2)
 unfold rs
 omega
theorem Af (d:List UInt8) (h:Hd) (hh:h.Ok d.length) (hd:d.length=12288) (n:Nat) (hn:n<32) :
 af Tryz.prog 101 [h.v d.length,.int .i64 (n:Int)] (fun w=>By w h d) (fun v F=>v = .bool (cH d n)):=by
 have hc:=hh.cap
 refine af.aF ab Tryz.func101 rfl (by decide) (n:=Tryz.f101.ntmps - 2) rfl rfl fun w0 av=>?_
 conv=>whnf
 refine ak.val (nN d h n hh hd hn) (fun w hw=>hw) (fun v D hv=>?_)
 subst hv
 conv=>whnf
 intro b0
 conv=>whnf
 refine ak.val (pE n (by omega)) (fun w hw=>trivial) (fun v D hv=>?_)
 subst hv
 conv=>whnf
 refine aj.ah (ai.cL ab (t:=23) rfl rfl rfl rfl (1792+16*n+15) (by show IntKind.i64.wrap (((1792+16*n:Nat):Int)+15)=_;rw[wrap_i64 (by omega)];omega) (by omega) hh fun ad had=>?_)
 conv=>whnf
 refine aj.ah (ai.cy ab (t:=5) rfl rfl had (.fact fun w h=>h) rfl (by omega) ?_)
 conv=>whnf
 refine aH.split (fun hp=>?_) (fun hp=>?_)
 · conv=>whnf
   refine⟨_,aq.refl _,?_⟩
   have:rp d n≠0:=by
    intro h
    unfold rp at h
    rw[h] at hp
    simp[ar] at hp
   unfold cH
   rw[decide_eq_false this]
   rfl
 have hp0:rp d n=0:=by
  unfold rp
  simp[ar] at hp
  omega
 have hF:cH d n=if jB (rk d n) (rs d n) (rb d n) then decide (n≠0) else decide (lB d n):=by
  unfold cH
  rw[decide_eq_true hp0,Bool.true_and]
 conv=>whnf
 refine aj.ah (ai.Ep ?_)
 conv=>whnf
 refine aH.split (fun hz=>?_) (fun hz=>?_)
 · conv=>whnf
   refine⟨_,aq.refl _,?_⟩
   rw[hF,if_pos hz]
   congr 1
   rw[ar,Bool.eq_iff_iff]
   simp
 rw[if_neg (by rw[hz];simp)] at hF
 have hF0 : ∀ {p:Prop},(lB d n→p)→¬ p→cH d n=false:=fun h1 h2=>by rw[hF,decide_eq_false (fun h=>h2 (h1 h))]
 have hkl:=lX d n
 have hsl:=vR d n
 have hbl:=pn d n
 generalize hgk:rk d n=k at *
 generalize hgs:rs d n=s at *
 generalize hgb:rb d n=b at *
 have hbad : ∀ {c:Bool},c=true→(c=true→¬ lB d n)→∃ F',aq ⟨fun w=>By w h d,[]⟩ F'∧(fun v (F:Fx)=>v=Value.bool (cH d n)) (.bool false) F':=fun h1 h2=>⟨_,aq.refl _,by rw[hF0 (p:=False) (fun h=>(h2 h1 h).elim) id]⟩
 conv=>whnf
 repeat (refine aa.of ?_;conv=>whnf)
 refine aH.split (fun h1=>?_) (fun h1=>?_)
 · conv=>whnf
   repeat (refine aa.of ?_;conv=>whnf)
   refine hbad h1 fun h1 hu=>?_
   unfold lB at hu
   rw[hgk,hgs] at hu
   simp[ar,bP] at h1
   omega
 have hk12:(k=1∨k=2)∧s≤1536:=by
  simp[ar,bP] at h1
  omega
 conv=>whnf
 repeat (refine aa.of ?_;conv=>whnf)
 refine aH.split (fun h2=>?pA) (fun h2=>?pB)
 case' pA=>
  conv=>whnf
  repeat (refine aa.of ?_;conv=>whnf)
  refine aH.split (fun h3=>?_) (fun h3=>?_)
  · conv=>whnf
    repeat (refine aa.of ?_;conv=>whnf)
    refine hbad h3 fun h3 hu=>?_
    unfold lB at hu
    rw[hgk,hgs] at hu
    simp[aD,ar] at h2 h3
    omega
 all_goals
  have h0:n=0→k=2:=by
   intro hn0
   simp[aD,ar] at *
   omega
  conv=>whnf
  repeat (refine aa.of ?_;conv=>whnf)
  refine aI.loop ab (ι:=Nat) ([6,7]++List.range' 45 25) (fun x=>x≤12∧∀ i,i<x→b i≠0→18≤b i∧b i<96∧i*128<s)
   (fun x=>[(6,.v (.int .i64 (x:Int)))]) (fun _=>[bg k s b]) (fun _=>⟨fun w=>By w h d,[]⟩)
   (fun x=>12 - x) 0 ⟨Nat.zero_le _,fun i hi=>by omega⟩ ?_ rfl (aq.refl _) fun i hi=>?_
  · conv=>whnf
    repeat (first | exact aw.nil | refine aw.any ?_ | refine aw.cons ?_)
  obtain⟨hi,hall⟩:=hi
  conv=>whnf
  refine aH.split (fun hlt=>?_) (fun hlt=>?_)
  · conv=>whnf
    have hlt':i<12:=by
     simp only[au,decide_eq_true_eq] at hlt
     omega
    rw[bL hlt']
    conv=>whnf
    refine cF (x:=aE (b i)) (by dsimp only;rw[Nat.mul_one,Nat.zero_add];exact cP hlt') ?_
    conv=>whnf
    repeat (refine aa.of ?_;conv=>whnf)
    have hmul:IntKind.i64.wrap ((i:Int)*128)=((i*128:Nat):Int):=by
     rw[wrap_i64 (by omega)]
     omega
    have hq:(iZ (b i:Int) 0&&(mL (b i:Int) 18||gG (b i:Int) 96||gG (IntKind.i64.wrap ((i:Int)*128)) (s:Int)))=true→¬ lB d n:=by
     intro h4 hu
     unfold lB at hu
     rw[hgk,hgs,hgb] at hu
     have:=hu.2.2.2.1 i hlt'
     rw[hmul] at h4
     simp[ar,bI,au] at h4
     omega
    have hq2:(iZ (b i:Int) 0&&(mL (b i:Int) 18||gG (b i:Int) 96||gG (IntKind.i64.wrap ((i:Int)*128)) (s:Int)))=false→b i≠0→18≤b i∧b i<96∧i*128<s:=by
     intro h4 h5
     rw[hmul] at h4
     simp[ar,bI,au] at h4
     omega
    repeat' (first
     | (rw[show iZ (b i:Int) 0=iZ (b i:Int) 0 from rfl];cases ht0:iZ (b i:Int) 0<;>conv=>whnf)
     | (rw[show mL (b i:Int) 18=mL (b i:Int) 18 from rfl];cases ht1:mL (b i:Int) 18<;>conv=>whnf)
     | (rw[show gG (b i:Int) 96=gG (b i:Int) 96 from rfl];cases ht2:gG (b i:Int) 96<;>conv=>whnf)
     | (rw[show gG (IntKind.i64.wrap ((i:Int)*128)) (s:Int)=gG (IntKind.i64.wrap ((i:Int)*128)) (s:Int) from rfl];cases ht3:gG (IntKind.i64.wrap ((i:Int)*128)) (s:Int)<;>conv=>whnf)
     | (refine aa.of ?_;conv=>whnf)
     | (refine aH.yes rfl ?_;conv=>whnf)
     | (refine aH.no rfl ?_;conv=>whnf))
    all_goals first
     | exact hbad (c:=(iZ (b i:Int) 0&&(mL (b i:Int) 18||gG (b i:Int) 96||gG (IntKind.i64.wrap ((i:Int)*128)) (s:Int)))) (by first | simp[ht0,ht1,ht2,ht3] | simp[ht0,ht1,ht2] | simp[ht0,ht1] | simp[ht0]) hq
     | (
      refine⟨i+1,⟨⟨hlt',fun j hj=>?_⟩,by dsimp only;omega⟩,?_,?_,aq.refl _⟩
      · rcases Nat.lt_or_eq_of_le (Nat.lt_succ_iff.1 hj) with h5 | h5
        · exact hall j h5
        · subst h5
          exact hq2 (by first | simp[ht0,ht1,ht2,ht3] | simp[ht0,ht1,ht2] | simp[ht0,ht1] | simp[ht0])
      · conv=>whnf
        refine⟨?_,rfl⟩
        repeat (first | exact aw.nil | refine aw.any ?_ | refine aw.cons ?_ | refine aw.eq (by rw[wrap_i64 (by omega)];rfl) ?_)
      · conv=>whnf
        exact⟨⟨rfl,rfl⟩,trivial⟩
      )
  · conv=>whnf
    have hie:i=12:=by
     simp only[au,decide_eq_false_iff_not] at hlt
     omega
    subst hie
    by_cases hb96 : ∀ i,i<12→b i<96
    rotate_left
    · exfalso
      refine hb96 fun j hj=>?_
      by_cases hj0:b j=0
      · omega
      · exact(hall j hj hj0).2.1
    refine ak.val (AE d h hh hd k s b hk12.2 hb96) (fun w hw=>hw) (fun v D hv=>?_)
    generalize hT:jA d s b=tz at hv
    subst hv
    conv=>whnf
    repeat (refine aa.of ?_;conv=>whnf)
    have hU:cH d n=(tz&&(decide (k=1)||(decide (s=128)&&decide (b 0≠0)))):=by
     rw[hF,Bool.eq_iff_iff]
     unfold lB
     simp only[hgk,hgs,hgb,hT,decide_eq_true_eq,Bool.and_eq_true,Bool.or_eq_true]
     constructor
     · rintro⟨_,_,_,_,h5,h6⟩
       exact⟨h5,h6⟩
     · rintro⟨h5,h6⟩
       exact⟨hk12.1,hk12.2,h0,hall,h5,h6⟩
    cases tz
    · conv=>whnf
      repeat (refine aa.of ?_;conv=>whnf)
      exact⟨_,aq.refl _,by rw[hU];rfl⟩
    rw[Bool.true_and] at hU
    have q1:cN (k:Int) 1=decide (k=1):=dP k 1
    have q2:cN (s:Int) 128=decide (s=128):=dP s 128
    have q3:iZ (b 0:Int) 0=decide (b 0≠0):=by
     rw[ar,Bool.eq_iff_iff]
     simp
    conv=>whnf
    repeat (refine aa.of ?_;conv=>whnf)
    repeat' (first
     | (rw[show cN (k:Int) 1=cN (k:Int) 1 from rfl];cases ht0:cN (k:Int) 1<;>conv=>whnf)
     | (rw[show cN (s:Int) 128=cN (s:Int) 128 from rfl];cases ht1:cN (s:Int) 128<;>conv=>whnf)
     | (rw[show iZ (b 0:Int) 0=iZ (b 0:Int) 0 from rfl];cases ht2:iZ (b 0:Int) 0<;>conv=>whnf)
     | (refine aa.of ?_;conv=>whnf)
     | (refine aH.yes rfl ?_;conv=>whnf)
     | (refine aH.no rfl ?_;conv=>whnf))
    all_goals
     refine⟨_,aq.refl _,?_⟩
     rw[hU,← q1,← q2,← q3]
     first | simp[ht0,ht1,ht2] | simp[ht0,ht1] | simp[ht0]
theorem CV {x k:Nat} (hx:x<256) (hk:k<8) {j:Nat} (hj:j<8):decide (s_ x k/2 ^ j%2=1)=(decide (j=k)||decide (x/2 ^ j%2=1)):=by
 have:=lx (p:=fun x k=>((List.range 8).all fun j=>decide (s_ x k/2 ^ j%2=1) == (decide (j=k)||decide (x/2 ^ j%2=1)))=true) (by decide +kernel) hx hk
 rw[List.all_eq_true] at this
 simpa using this j (List.mem_range.2 hj)
theorem BC {x k:Nat} (hx:x<256) (hk:k<8) {j:Nat} (hj:j<8):decide (bX x k/2 ^ j%2=1)=(!decide (j=k)&&decide (x/2 ^ j%2=1)):=by
 have:=lx (p:=fun x k=>((List.range 8).all fun j=>decide (bX x k/2 ^ j%2=1) == (!decide (j=k)&&decide (x/2 ^ j%2=1)))=true) (by decide +kernel) hx hk
 rw[List.all_eq_true] at this
 simpa using this j (List.mem_range.2 hj)
theorem kZ {b:List UInt8} {i:Nat} (on:Bool) (hi:i/8<b.length) (j:Nat):da (cq b i on) j=if j=i then on else da b j:=by
 have h8:i%8<8:=Nat.mod_lt _ (by decide)
 have hj8:j%8<8:=Nat.mod_lt _ (by decide)
 have hlt:(if on then s_ (aJ b (i/8)) (i%8) else bX (aJ b (i/8)) (i%8))<256:=by
  split
  · exact qo (bJ _ _) h8
  · exact pQ (bJ _ _) h8
 unfold da
 rw[bz]
 have hb:aJ (cq b i on) (j/8)=if j/8=i/8 then (if on then s_ (aJ b (i/8)) (i%8) else bX (aJ b (i/8)) (i%8)) else aJ b (j/8):=dy hi hlt (j/8)
 rw[hb]
 by_cases hq:j/8=i/8
 · rw[if_pos hq,hq,decide_eq_true hi,Bool.true_and,Bool.true_and]
   cases on
   · rw[if_neg (by simp),BC (bJ _ _) h8 hj8]
     by_cases hji:j=i
     · subst hji;simp
     · rw[if_neg hji,decide_eq_false (show ¬ j%8=i%8 by omega)]
       simp
   · rw[if_pos rfl,CV (bJ _ _) h8 hj8]
     by_cases hji:j=i
     · subst hji;simp
     · rw[if_neg hji,decide_eq_false (show ¬ j%8=i%8 by omega)]
       simp
 · rw[if_neg hq,if_neg (by intro h;rw[h] at hq;exact hq rfl)]
def bZ (l:List Nat):List UInt8:=l.foldl (fun b i=>cq b i true) (List.replicate 12 0)
theorem r6 (l:List Nat) (i:Nat):bZ (l ++ [i])=cq (bZ l) i true:=by simp[bZ]
theorem tA : ∀ (l:List Nat) (b:List UInt8),(l.foldl (fun b i=>cq b i true) b).length=b.length
 | [],b=>rfl
 | i::l,b=>by rw[List.foldl_cons,tA l,bz]
theorem bu (l:List Nat):(bZ l).length=12:=by
 unfold bZ
 rw[tA]
 simp
theorem Ao (j:Nat):da (List.replicate 12 0) j=false:=by
 unfold da aJ
 rw[List.getD_eq_getElem?_getD,List.getElem?_replicate]
 have h0:((if j/8<12 then some 0 else none:Option UInt8).getD 0).toNat=0:=by split<;>rfl
 rw[h0]
 simp
theorem ql : ∀ (l:List Nat) (b:List UInt8) (j:Nat),b.length=12→(∀ i∈l,i<96)→da (l.foldl (fun b i=>cq b i true) b) j=(decide (j∈l)||da b j)
 | [],b,j,_,_=>by simp
 | i::l,b,j,hb,h=>by
  have hi:=h i (List.mem_cons_self ..)
  rw[List.foldl_cons,ql l _ j (by rw[bz,hb]) (fun k hk=>h k (List.mem_cons_of_mem _ hk)),kZ true (by omega)]
  by_cases hji:j=i
  · subst hji;simp
  · simp[hji]
theorem gU {l:List Nat} (h : ∀ i∈l,i<96) (j:Nat):da (bZ l) j=decide (j∈l):=by
 unfold bZ
 rw[ql l _ j (by simp) h,Ao,Bool.or_false]
def part (d:List UInt8) (n i:Nat):List Nat:=((List.range i).map (rb d n)).filter (·≠0)
def used (d:List UInt8):Nat→List Nat
 | 0=>[]
 | n+1=>used d n++part d n 12
theorem sN (d:List UInt8) (n i:Nat):part d n (i+1)=part d n i++(if rb d n i=0 then [] else [rb d n i]):=by
 unfold part
 rw[List.range_succ,List.map_append,List.filter_append]
 congr 1
 by_cases h:rb d n i=0<;>simp[h]
theorem Bk (d:List UInt8) (n:Nat) {i j:Nat} (h:i≤j):part d n i <+: part d n j:=by
 induction j with
 | zero=>
  have:i=0:=by omega
  subst this
  exact List.prefix_refl _
 | succ j ih=>
  rcases Nat.lt_or_eq_of_le h with h1 | h1
  · exact(ih (by omega)).trans (by rw[sN];exact List.prefix_append _ _)
  · subst h1
    exact List.prefix_refl _
theorem BZ (d:List UInt8) {n m:Nat} (h:n≤m):used d n <+: used d m:=by
 induction m with
 | zero=>
  have:n=0:=by omega
  subst this
  exact List.prefix_refl _
 | succ m ih=>
  rcases Nat.lt_or_eq_of_le h with h1 | h1
  · exact(ih (by omega)).trans (List.prefix_append _ _)
  · subst h1
    exact List.prefix_refl _
def e9 (d:List UInt8) (n i:Nat):List Nat:=List.range 18++used d n++part d n i
theorem vA (d:List UInt8) {n i:Nat} (hn:n<32) (hi:i≤12):e9 d n i <+: e9 d 32 0:=by
 have h1:used d n++part d n i <+: used d (n+1):=by
  show _ <+: used d n++part d n 12
  exact(List.prefix_append_right_inj _).2 (Bk d n hi)
 have h2:=h1.trans (BZ d (show n+1≤32 by omega))
 unfold e9
 rw[List.append_assoc,show part d 32 0 = [] from rfl,List.append_nil]
 exact(List.prefix_append_right_inj _).2 h2
theorem Aw (d:List UInt8) (n i:Nat):e9 d n (i+1)=e9 d n i++(if rb d n i=0 then [] else [rb d n i]):=by
 unfold e9
 rw[sN]
 simp
theorem tJ (d:List UInt8) (n:Nat):e9 d (n+1) 0=e9 d n 12:=by
 unfold e9
 rw[show part d (n+1) 0 = [] from rfl,List.append_nil]
 show List.range 18++(used d n++part d n 12)=_
 rw[List.append_assoc]
structure eZ (d:List UInt8):Prop where
 magic:cut d 0 4 = [82,70,83,49]
 super:gz (cut d 4 124)=true
 rest:gz (cut d 1676 116)=true
 form : ∀ n,n<32→cH d n=true
 nodup:(e9 d 32 0).Nodup
 bits:bZ (e9 d 32 0)=bA d
open Classical in
noncomputable def dM (d:List UInt8):Nat:=if d.length=12288 then (if eZ d then 0 else 4) else 1
theorem bD {d:List UInt8} {n:Nat} (h:cH d n=true) (i:Nat) (hi:i<12) (h0:rb d n i≠0):18≤rb d n i∧rb d n i<96∧i*128<rs d n:=by
 unfold cH at h
 rw[Bool.and_eq_true] at h
 have h2:=h.2
 split at h2
 · rename_i hz
   exact absurd ((cW.1 hz).2.2 i hi) h0
 · rw[decide_eq_true_eq] at h2
   exact h2.2.2.2.1 i hi h0
theorem zi {d:List UInt8} {n i:Nat} (h:cH d n=true) (hi:i≤12) : ∀ x∈part d n i,x<96:=by
 intro x hx
 unfold part at hx
 simp only[List.mem_filter,List.mem_map,List.mem_range,decide_eq_true_eq,ne_eq] at hx
 obtain⟨⟨j,hj,rfl⟩,h0⟩:=hx
 exact(bD h j (by omega) h0).2.1
theorem zl {d:List UInt8} : ∀ {n:Nat},(∀ m,m<n→cH d m=true)→∀ x∈used d n,x<96
 | 0,_,x,hx=>by cases hx
 | n+1,h,x,hx=>by
  rcases List.mem_append.1 hx with hx | hx
  · exact zl (fun m hm=>h m (by omega)) x hx
  · exact zi (h n (by omega)) (Nat.le_refl _) x hx
theorem Cr {d:List UInt8} {n i:Nat} (h : ∀ m,m<n→cH d m=true) (hn:i=0∨cH d n=true) (hi:i≤12) : ∀ x∈e9 d n i,x<96:=by
 intro x hx
 unfold e9 at hx
 rcases List.mem_append.1 hx with hx | hx
 · rcases List.mem_append.1 hx with hx | hx
   · have:=List.mem_range.1 hx
     omega
   · exact zl h x hx
 · rcases hn with hn | hn
   · subst hn
     cases hx
   · exact zi hn hi x hx
theorem t_ (k:Hd) (hk:k.Ok 12) (l:List Nat) (hl : ∀ i∈l,i<96) (i:Nat) (hi:i≤1000000):af Tryz.prog 103 [k.v 12,.int .i64 (i:Int)] (fun w=>By w k (bZ l)) (fun v F=>v = .bool (decide (i∈l))):=by
 have h:=tc (bZ l) k (by rw[bu];exact hk) i hi (by rw[bu];omega)
 rw[bu,gU hl] at h
 exact h
theorem j7 (k:Hd) (hk:k.Ok 12) (l:List Nat) (i:Nat) (hi:i<96):af Tryz.prog 41 [k.v 12,.int .i64 (i:Int),.bool true] (fun w=>By w k (bZ l))
 (fun v F=>∃ k:Hd,v = .tuple #[k.v 12,.int .i64 0]∧k.Ok 12∧F=⟨fun w=>By w k (bZ (l ++ [i])),[]⟩):=by
 have h:=tI (bZ l) k (by rw[bu];exact hk) i true (by rw[bu];omega) (by rw[bu];omega)
 rw[bu] at h
 simp only[r6]
 exact h
theorem CK {d:List UInt8} (hd:d.length=12288) (h : ¬ eZ d):dM d=4:=by
 unfold dM
 rw[if_pos hd,if_neg h]
theorem mj {d:List UInt8} (hd:d.length=12288) (h:eZ d):dM d=0:=by
 unfold dM
 rw[if_pos hd,if_pos h]
theorem bl {d:List UInt8} (h:dM d=0):d.length=12288∧eZ d:=by
 unfold dM at h
 by_cases h1:d.length=12288
 · rw[if_pos h1] at h
   by_cases h2:eZ d
   · exact⟨h1,h2⟩
   · rw[if_neg h2] at h
     cases h
 · rw[if_neg h1] at h
   cases h
theorem jP (d:List UInt8) (h:Hd) (hh:h.Ok d.length) (hl:d.length≤1000000):af Tryz.prog 54 [h.v d.length] (fun w=>By w h d) (fun v F=>v = .int .i64 (dM d:Int)):=by
 have hc:=hh.cap
 refine af.aF ab Tryz.func54 rfl (by decide) (n:=Tryz.f54.ntmps - 1) rfl rfl fun w0 av=>?_
 conv=>whnf
 refine aH.split (fun h1=>?_) (fun h1=>?_)
 · conv=>whnf
   refine⟨_,aq.refl _,?_⟩
   unfold dM
   rw[if_neg (by simp[ar] at h1;omega)]
   rfl
 have hd:d.length=12288:=by
  simp[ar] at h1
  omega
 have hbad : ∀ (D:World→Prop) (rs:List (Nat×Row)),¬ eZ d→∃ F',aq ⟨D,rs⟩ F'∧(fun v (F:Fx)=>v=Value.int .i64 (dM d:Int)) (.int .i64 4) F':=fun D rs hn=>⟨_,aq.refl _,by rw[CK hd hn];rfl⟩
 conv=>whnf
 refine aj.ah (ai.gA ab (t:=23) rfl rfl rfl 4 rfl (by omega) ?_)
 conv=>whnf
 refine aj.ah (ai.bytes ab (t:=23) (u:=9) rfl rfl rfl rfl rfl rfl (l:=cut d 0 4) (.fact fun w hw=>by have h2:=aB.take hw 4;unfold cut;rw[List.drop_zero,List.map_take];exact h2) (by rw[aZ (by omega)]) ?_)
 conv=>whnf
 refine aj.ah (ai.ph (l:=cut d 0 4) (m:=[82,70,83,49]) ?_)
 conv=>whnf
 generalize hm:(cut d 0 4 == [82,70,83,49])=cm
 cases cm
 · conv=>whnf
   repeat (refine aa.of ?_;conv=>whnf)
   repeat' (first
    | (refine aH.yes rfl ?_;conv=>whnf)
    | (refine aa.of ?_;conv=>whnf)
    | (refine aH.no rfl ?_;conv=>whnf))
   refine hbad _ _ fun ho=>?_
   rw[ho.magic] at hm
   cases hm
 have hmg:cut d 0 4 = [82,70,83,49]:=by simpa using hm
 conv=>whnf
 refine aj.ah (ai.pD ab (t:=23) rfl rfl rfl rfl 4 124 rfl rfl (by omega) ?_)
 conv=>whnf
 have hz1:=mG (cut d 4 124) (Hd.sub h 4) (by rw[aZ (by omega)];exact Hd.eu hh (by omega)) (by rw[aZ (by omega)];omega)
 rw[aZ (show 4+124≤d.length by omega)] at hz1
 refine ak.val hz1 (fun w hw=>By.sub hw (by omega)) (fun v D hv=>?_)
 generalize hs:gz (cut d 4 124)=cz at hv
 subst hv
 cases cz
 · conv=>whnf
   repeat (refine aa.of ?_;conv=>whnf)
   repeat' (first
    | (refine aH.yes rfl ?_;conv=>whnf)
    | (refine aa.of ?_;conv=>whnf)
    | (refine aH.no rfl ?_;conv=>whnf))
   refine hbad _ _ fun ho=>?_
   rw[ho.super] at hs
   cases hs
 conv=>whnf
 repeat (refine aa.of ?_;conv=>whnf)
 repeat' (first
  | (refine aH.yes rfl ?_;conv=>whnf)
  | (refine aH.no rfl ?_;conv=>whnf))
 refine ak.val (ea h d.length 13 hh (by omega) (by omega)) (fun w hw=>trivial) (fun v D hv=>?_)
 subst hv
 conv=>whnf
 have hok:(Hd.sub h (128*13)).Ok 128:=Hd.eu hh (by omega)
 refine aj.ah (ai.gD ab (t:=23) rfl rfl rfl rfl 12 rfl (by omega) hok.cap ?_)
 conv=>whnf
 have hz2:=mG (cut d 1676 116) (Hd.sub (Hd.sub h (128*13)) 12) (by rw[aZ (by omega)];exact Hd.eu hok (by omega)) (by rw[aZ (by omega)];omega)
 rw[aZ (show 1676+116≤d.length by omega)] at hz2
 refine ak.val hz2 (fun w hw=>?_) (fun v D hv=>?_)
 · have h2:=By.sub (By.sub hw (l:=1664) (k:=128) (by omega)) (l:=12) (k:=116) (by have:=hok.cap;exact Nat.le_trans (by omega) this)
   rw[tZ (by omega)] at h2
   exact h2
 generalize hr:gz (cut d 1676 116)=cz at hv
 subst hv
 cases cz
 · conv=>whnf
   repeat (refine aa.of ?_;conv=>whnf)
   repeat' (first
    | (refine aH.yes rfl ?_;conv=>whnf)
    | (refine aa.of ?_;conv=>whnf)
    | (refine aH.no rfl ?_;conv=>whnf))
   refine hbad _ _ fun ho=>?_
   rw[ho.rest] at hr
   cases hr
 conv=>whnf
 repeat (refine aa.of ?_;conv=>whnf)
 repeat' (first
  | (refine aH.yes rfl ?_;conv=>whnf)
  | (refine aH.no rfl ?_;conv=>whnf))
 refine aj.pJ ab (t:=23) rfl rfl rfl 12 rfl rfl (by omega) (by decide) rfl (by omega) (by simp) fun b0=>?_
 conv=>whnf
 have hz12:aq ⟨fun w=>By w h d,[] ++ [(b0,Row.c (List.replicate 12 [Value.int .u8 0]).flatten)]⟩ ⟨fun w=>By w h d∧By w ⟨some ⟨b0,0,none⟩,12⟩ (bZ (List.range 0)),[]⟩:=by
  refine aq.share1.trans (aq.imp fun w hw=>hw)
 refine aI.loop ab (ι:=Nat×Hd) ([3,4]++List.range' 29 10) (fun x=>x.1≤18∧x.2.Ok 12)
  (fun x=>[(3,.v (x.2.v 12)),(4,.v (.int .i64 (x.1:Int)))]) (fun _=>[]) (fun x=>⟨fun w=>By w h d∧By w x.2 (bZ (List.range x.1)),[]⟩)
  (fun x=>18 - x.1) (0,⟨some ⟨b0,0,none⟩,12⟩) ⟨Nat.zero_le _,⟨fun h=>(by cases h),Nat.le_refl _⟩⟩ ?_ rfl hz12 fun x hx=>?_
 · conv=>whnf
   repeat (first | exact aw.nil | refine aw.any ?_ | refine aw.cons ?_)
 obtain⟨i,k⟩:=x
 obtain⟨hi,hk⟩:=hx
 dsimp only at hi hk ⊢
 conv=>whnf
 refine aH.split (fun hlt=>?_) (fun hlt=>?_)
 · conv=>whnf
   have hlt':i<18:=by
    simp only[au,decide_eq_true_eq] at hlt
    omega
   refine ak.pure (j7 k hk (List.range i) i (by omega)) (fun w hw=>hw.2) (fun v D hv=>?_)
   obtain⟨k2,rfl,hk2,rfl⟩:=hv
   rw[← List.range_succ]
   conv=>whnf
   refine⟨(i+1,k2),⟨⟨hlt',hk2⟩,by dsimp only;omega⟩,?_,?_,?_⟩
   · conv=>whnf
     refine⟨?_,rfl⟩
     repeat (first | exact aw.nil | refine aw.any ?_ | refine aw.cons ?_ | refine aw.eq (by rw[wrap_i64 (by omega)];rfl) ?_)
   · conv=>whnf
     exact trivial
   · refine aq.of_le ⟨by simp[Fx.and],fun w hw=>⟨hw.1.1,hw.2⟩⟩
 have hie:i=18:=by
  simp only[au,decide_eq_false_iff_not] at hlt
  omega
 subst hie
 conv=>whnf
 refine aI.loop ab (ι:=Nat×Hd) ([3,5,6,7]++List.range' 39 35) (fun x=>x.1≤32∧x.2.Ok 12∧(∀ m,m<x.1→cH d m=true)∧(e9 d x.1 0).Nodup)
  (fun x=>[(3,.v (x.2.v 12)),(5,.v (.int .i64 (x.1:Int)))]) (fun _=>[]) (fun x=>⟨fun w=>By w h d∧By w x.2 (bZ (e9 d x.1 0)),[]⟩)
  (fun x=>32 - x.1) (0,k) ⟨Nat.zero_le _,hk,fun m hm=>by omega,by show(List.range 18 ++ [] ++ []).Nodup;rw[List.append_nil,List.append_nil];exact List.nodup_range⟩ ?_ rfl (aq.of_le ⟨List.Sublist.refl _,fun w hw=>by
   refine⟨hw.1,?_⟩
   have e:e9 d 0 0=List.range 18:=by show List.range 18 ++ [] ++ []=_;simp
   rw[e]
   exact hw.2⟩) fun x hx=>?_
 · conv=>whnf
   repeat (first | exact aw.nil | refine aw.any ?_ | refine aw.cons ?_)
 clear hk hlt hi
 obtain⟨n,k⟩:=x
 obtain⟨hn,hk,hfm,hnd⟩:=hx
 dsimp only at hn hk hfm hnd ⊢
 conv=>whnf
 refine aH.split (fun hlt=>?_) (fun hlt=>?_)
 · conv=>whnf
   have hlt':n<32:=by
    simp only[au,decide_eq_true_eq] at hlt
    omega
   refine ak.val (Af d h hh hd n hlt') (fun w hw=>hw.1) (fun v D hv=>?_)
   generalize hf:cH d n=cf at hv
   subst hv
   cases cf
   · conv=>whnf
     refine hbad _ _ fun ho=>?_
     rw[ho.form n hlt'] at hf
     cases hf
   conv=>whnf
   refine ak.val (nN d h n hh hd hlt') (fun w hw=>hw.1) (fun v D hv=>?_)
   subst hv
   conv=>whnf
   intro b1
   conv=>whnf
   refine aI.loop ab (ι:=Nat×Hd) ([3,7]++List.range' 50 24) (fun x=>x.1≤12∧x.2.Ok 12∧(e9 d n x.1).Nodup)
    (fun x=>[(3,.v (x.2.v 12)),(7,.v (.int .i64 (x.1:Int)))]) (fun _=>[bg (rk d n) (rs d n) (rb d n)]) (fun x=>⟨fun w=>By w h d∧By w x.2 (bZ (e9 d n x.1)),[]⟩)
    (fun x=>12 - x.1) (0,k) ⟨Nat.zero_le _,hk,hnd⟩ ?_ rfl (aq.refl _) fun x hx=>?_
   · conv=>whnf
     repeat (first | exact aw.nil | refine aw.any ?_ | refine aw.cons ?_)
   clear hnd hk
   obtain⟨i,k⟩:=x
   obtain⟨hi,hk,hnd⟩:=hx
   dsimp only at hi hk hnd ⊢
   have hul:=Cr (d:=d) (n:=n) (i:=i) hfm (.inr hf) hi
   conv=>whnf
   refine aH.split (fun hlt2=>?_) (fun hlt2=>?_)
   · conv=>whnf
     have hlt2':i<12:=by
      simp only[au,decide_eq_true_eq] at hlt2
      omega
     rw[bL hlt2']
     conv=>whnf
     refine cF (x:=aE (rb d n i)) (by dsimp only;rw[Nat.mul_one,Nat.zero_add];exact cP hlt2') ?_
     conv=>whnf
     have hun:=Aw d n i
     refine aH.split (fun h0=>?_) (fun h0=>?_)
     · conv=>whnf
       have h0':rb d n i=0:=by
        simp[aD] at h0
        omega
       rw[if_pos h0',List.append_nil] at hun
       refine⟨(i+1,k),⟨⟨hlt2',hk,by dsimp only;rw[hun];exact hnd⟩,by dsimp only;omega⟩,?_,?_,?_⟩
       · conv=>whnf
         refine⟨?_,rfl⟩
         repeat (first | exact aw.nil | refine aw.any ?_ | refine aw.cons ?_ | refine aw.eq (by rw[wrap_i64 (by omega)];rfl) ?_)
       · conv=>whnf
         exact⟨⟨rfl,rfl⟩,trivial⟩
       · refine aq.of_le ⟨List.Sublist.refl _,fun w hw=>by dsimp only;rw[hun];exact hw⟩
     have h0':rb d n i≠0:=by
      simp[aD] at h0
      omega
     rw[if_neg h0'] at hun
     have hbl:=(bD hf i hlt2' h0').2.1
     conv=>whnf
     rw[bL hlt2']
     conv=>whnf
     refine cF (x:=aE (rb d n i)) (by dsimp only;rw[Nat.mul_one,Nat.zero_add];exact cP hlt2') ?_
     conv=>whnf
     refine ak.val (t_ k hk (e9 d n i) hul (rb d n i) (by omega)) (fun w hw=>hw.2) (fun v D hv=>?_)
     generalize hg:decide (rb d n i∈e9 d n i)=cg at hv
     subst hv
     cases cg
     rotate_left
     · conv=>whnf
       refine hbad _ _ fun ho=>?_
       have h2:=ho.nodup.sublist (vA d hlt' (show i+1≤12 by omega)).sublist
       rw[hun,List.nodup_append] at h2
       exact h2.2.2 _ (of_decide_eq_true hg) _ (by simp) rfl
     conv=>whnf
     rw[bL hlt2']
     conv=>whnf
     refine cF (x:=aE (rb d n i)) (by dsimp only;rw[Nat.mul_one,Nat.zero_add];exact cP hlt2') ?_
     conv=>whnf
     refine ak.pure (j7 k hk (e9 d n i) (rb d n i) hbl) (fun w hw=>hw.2) (fun v D hv=>?_)
     obtain⟨k2,rfl,hk2,rfl⟩:=hv
     rw[← hun]
     conv=>whnf
     refine⟨(i+1,k2),⟨⟨hlt2',hk2,?_⟩,by dsimp only;omega⟩,?_,?_,?_⟩
     · dsimp only
       rw[hun,List.nodup_append]
       refine⟨hnd,by simp,fun a ha b hb hab=>?_⟩
       have hb:b=rb d n i:=by simpa using hb
       subst hb hab
       exact of_decide_eq_false hg ha
     · conv=>whnf
       refine⟨?_,rfl⟩
       repeat (first | exact aw.nil | refine aw.any ?_ | refine aw.cons ?_ | refine aw.eq (by rw[wrap_i64 (by omega)];rfl) ?_)
     · conv=>whnf
       exact⟨⟨rfl,rfl⟩,trivial⟩
     · refine aq.of_le ⟨by simp[Fx.and],fun w hw=>⟨hw.1.1,hw.2⟩⟩
   · conv=>whnf
     have hie:i=12:=by
      simp only[au,decide_eq_false_iff_not] at hlt2
      omega
     subst hie
     refine⟨(n+1,k),⟨⟨hlt',hk,fun m hm=>?_,by dsimp only;rw[tJ];exact hnd⟩,by dsimp only;omega⟩,?_,?_,?_⟩
     · rcases Nat.lt_or_eq_of_le (Nat.lt_succ_iff.1 hm) with h5 | h5
       · exact hfm m h5
       · rw[h5];exact hf
     · conv=>whnf
       refine⟨?_,rfl⟩
       repeat (first | exact aw.nil | refine aw.any ?_ | refine aw.cons ?_ | refine aw.eq (by rw[wrap_i64 (by omega)];rfl) ?_)
     · conv=>whnf
       exact trivial
     · refine aq.of_le ⟨List.Sublist.refl _,fun w hw=>by dsimp only;rw[tJ];exact hw⟩
 · conv=>whnf
   have hie:n=32:=by
    simp only[au,decide_eq_false_iff_not] at hlt
    omega
   subst hie
   have hbits:bZ (e9 d 32 0)=bA d→eZ d:=fun h=>⟨hmg,hs,hr,hfm,hnd,h⟩
   have hWl:=bu (e9 d 32 0)
   have hno:eZ d→bZ (e9 d 32 0)=bA d:=fun h=>h.bits
   have hBl:=aU hd
   have hbm:=iV d h hh hd
   generalize bZ (e9 d 32 0)=W at *
   generalize bA d=B at *
   refine aI.draw ab mixed rfl rfl ?_
   conv=>whnf
   repeat' (first
    | (refine And.intro ?_ ?_<;>conv=>whnf)
    | (refine ax.same rfl ?_;conv=>whnf)
    | (refine ax.row rfl ?_;conv=>whnf)
    | (refine ax.call rfl ?_;conv=>whnf)
    | (refine bG.of ?_;conv=>whnf)
    | (refine aa.of ?_;conv=>whnf)
    | (refine ai.bytes ab (t:=23) (u:=9) rfl rfl rfl rfl rfl rfl (l:=W) (.fact fun w hw=>hw.2) hWl.symm ?_;conv=>whnf)
    | (refine ak.pure hbm (fun w hw=>hw.1) (fun v D hv=>?_);obtain⟨k2,rfl,hk2,rfl⟩:=hv;conv=>whnf)
    | (refine ai.bytes ab (t:=23) (u:=9) rfl rfl rfl rfl rfl rfl (l:=B) (.fact fun w hw=>hw.2) rfl ?_;conv=>whnf)
    | (refine ai.ph (l:=W) (m:=B) ?_;conv=>whnf)
    | (refine ax.mk ?_ ?_;(focus (first | exact aq.refl _ | exact aq.left _ _ | exact aq.of_le ⟨List.sublist_append_left _ _,fun w h=>h⟩ | exact aq.of_le ⟨List.Sublist.refl _,fun w h=>h.1⟩));conv=>whnf))
   all_goals
    refine aH.split (fun hw=>?_) (fun hw=>?_)
    · conv=>whnf
      refine hbad _ _ fun ho=>?_
      rw[hno ho] at hw
      simp at hw
    · conv=>whnf
      refine⟨_,aq.refl _,?_⟩
      rw[mj hd (hbits (by simpa using hw))]
      rfl
noncomputable def a7 (d:List UInt8) (n:Int):Nat:=if dM d≠0 then dM d else if n<0∨32≤n then 2 else if rk d n.toNat=0 then 8 else 0
open Classical in
noncomputable def na (d:List UInt8) (n:Int):List Value:=if a7 d n=0 then bg (rk d n.toNat) (rs d n.toNat) (rb d n.toNat) else bg 0 0 fun _=>0
theorem dA (d:List UInt8) (h:Hd) (hh:h.Ok d.length) (hl:d.length≤1000000) (n:Int) :
 af Tryz.prog 56 [h.v d.length,.int .i64 n] (fun w=>By w h d) (fun v F=>v = .tuple #[.agg ⟨na d n⟩,.int .i64 (a7 d n:Int)]):=by
 refine af.aF ab Tryz.func56 rfl (by decide) (n:=Tryz.f56.ntmps - 2) rfl rfl fun w0 av=>?_
 conv=>whnf
 intro b0
 conv=>whnf
 refine ak.val (jP d h hh hl) (fun w hw=>hw) (fun v D hv=>?_)
 generalize hch:dM d=e at hv
 subst hv
 conv=>whnf
 refine aH.split (fun he=>?_) (fun he=>?_)
 · conv=>whnf
   have he':e≠0:=by
    simp[ar] at he
    omega
   refine⟨_,aq.refl _,?_⟩
   have hg:a7 d n=e:=by
    unfold a7
    rw[hch,if_pos he']
   unfold na
   rw[hg,if_neg he']
   rfl
 have he':e=0:=by
  simp[ar] at he
  omega
 subst he'
 obtain⟨hd,hok⟩:=bl hch
 conv=>whnf
 repeat (refine aa.of ?_;conv=>whnf)
 refine aH.split (fun hn=>?_) (fun hn=>?_)
 · conv=>whnf
   refine⟨_,aq.refl _,?_⟩
   have hg:a7 d n=2:=by
    unfold a7
    rw[hch,if_neg (by simp),if_pos (by simpa [au,bI] using hn)]
   unfold na
   rw[hg,if_neg (by decide)]
   rfl
 have hn':0≤n∧n<32:=by
  simp[au,bI] at hn
  omega
 obtain⟨m,rfl⟩ : ∃ m:Nat,n=m:=⟨n.toNat,by omega⟩
 conv=>whnf
 refine ak.val (nN d h m hh hd (by omega)) (fun w hw=>hw) (fun v D hv=>?_)
 subst hv
 conv=>whnf
 intro b1
 conv=>whnf
 have hg:a7 d m=if rk d m=0 then 8 else 0:=by
  unfold a7
  rw[hch,if_neg (by simp),if_neg (by omega),Int.toNat_natCast]
 refine aH.split (fun hk=>?_) (fun hk=>?_)
 · conv=>whnf
   have hk':rk d m=0:=by
    simp[aD] at hk
    omega
   rw[if_pos hk'] at hg
   refine⟨_,aq.refl _,?_⟩
   unfold na
   rw[hg,if_neg (by decide)]
   rfl
 · conv=>whnf
   have hk':rk d m≠0:=by
    simp[aD] at hk
    omega
   rw[if_neg hk'] at hg
   refine⟨_,aq.refl _,?_⟩
   unfold na
   rw[hg,if_pos rfl,Int.toNat_natCast]
   rfl
theorem rF (bv:Nat) (V:List Value) (h:Hd) (m:Nat) (hV:V[0]? = some (h.v m)) (hh:h.Ok m) (hm:m=12288) (n:Nat) (hn:n<32) :
 af Tryz.prog 114 [.pointer (some ⟨bv,0,none⟩),.int .i64 (n:Int)] (fun w=>aB w (some ⟨bv,0,none⟩) V) (fun v F=>v=(Hd.sub h (1792+16*n)).v 16):=by
 have hc:=hh.cap
 refine af.aF ab Tryz.func114 rfl (by decide) (n:=Tryz.f114.ntmps - 2) rfl rfl fun w0 av=>?_
 have e1:IntKind.i64.wrap (1792+IntKind.i64.wrap ((n:Int)*16))=((1792+16*n:Nat):Int):=by
  rw[wrap_i64 (n:=(n:Int)*16) (by omega),wrap_i64 (by omega)]
  omega
 conv=>whnf
 refine aj.ah (ai.bS ab (t:=23) rfl rfl (ad:=⟨bv,0,none⟩) (k:=0) (L:=V) (v:=h.v m) (.fact fun w hw=>hw) (fun _=>rfl) hV ?_)
 conv=>whnf
 refine aj.ah (ai.pD ab (t:=23) rfl rfl rfl rfl (1792+16*n) 16 e1 (by rw[e1,wrap_i64 (by omega)];omega) (by omega) ?_)
 conv=>whnf
 exact⟨_,aq.refl _,rfl⟩
theorem du (bv:Nat) (V:List Value) (h:Hd) (m:Nat) (hV:V[0]? = some (h.v m)) (hh:h.Ok m) (hm:m=12288) (n:Nat) (hn:n<96) :
 af Tryz.prog 63 [.pointer (some ⟨bv,0,none⟩),.int .i64 (n:Int)] (fun w=>aB w (some ⟨bv,0,none⟩) V) (fun v F=>v=(Hd.sub h (128*n)).v 128):=by
 have hc:=hh.cap
 refine af.aF ab Tryz.func63 rfl (by decide) (n:=Tryz.f63.ntmps - 2) rfl rfl fun w0 av=>?_
 conv=>whnf
 refine aj.ah (ai.bS ab (t:=23) rfl rfl (ad:=⟨bv,0,none⟩) (k:=0) (L:=V) (v:=h.v m) (.fact fun w hw=>hw) (fun _=>rfl) hV ?_)
 conv=>whnf
 refine aj.ah (ai.pD ab (t:=23) rfl rfl rfl rfl (128*n) 128
  (by show IntKind.i64.wrap ((n:Int)*128)=_;rw[wrap_i64 (by omega)];omega) (by show IntKind.i64.wrap ((IntKind.i64.wrap ((n:Int)+1))*128)=_;rw[wrap_i64 (n:=(n:Int)+1) (by omega),wrap_i64 (by omega)];omega) (by omega) ?_)
 conv=>whnf
 exact⟨_,aq.refl _,rfl⟩
theorem gZ (n:Nat) (hn:n≤1000000):af Tryz.prog 74 [.int .i64 (n:Int)] (fun w=>True) (fun v F=>v = .int .i64 (((n+127)/128:Nat):Int)):=by
 refine af.aF ab Tryz.func74 rfl (by decide) (n:=Tryz.f74.ntmps - 1) rfl rfl fun w0 av=>?_
 conv=>whnf
 refine⟨_,aq.refl _,?_⟩
 show Value.int _ _=Value.int _ _
 congr 1
 rw[wrap_i64 (n:=(n:Int)+128) (by omega),wrap_i64 (n:=(n:Int)+128 - 1) (by omega),show(n:Int)+128 - 1=((n+127:Nat):Int) by omega]
 exact kI (n+127) 128 (by omega)
theorem CB (x:Nat):af Tryz.prog 169 [.int .u8 (x:Int)] (fun w=>True) (fun v F=>v = .bool (decide (x≠0))):=by
 refine af.aF ab Tryz.func169 rfl (by decide) (n:=Tryz.f169.ntmps - 1) rfl rfl fun w0 av=>?_
 conv=>whnf
 refine⟨_,aq.refl _,?_⟩
 congr 1
 rw[ar,Bool.eq_iff_iff]
 simp
theorem uQ (l:List UInt8) (h:Hd) (hh:h.Ok l.length) (hl:l.length≤1000000):af Tryz.prog 190 [h.v l.length,.func (.func 169) #[] #[]] (fun w=>By w h l) (fun v F=>∃ j:Int,v = .int .i64 j∧decide (j≥0) = !gz l):=by
 refine af.aF ab Tryz.func190 rfl (by decide) (n:=Tryz.f190.ntmps - 2) rfl rfl fun w0 av=>?_
 conv=>whnf
 refine aI.loop ab (ι:=Nat) ([5]++List.range' 8 11) (fun x=>x≤l.length∧∀ j,j<x→aJ l j=0)
  (fun x=>[(8,.v (.int .i64 (x:Int)))]) (fun _=>[]) (fun _=>⟨fun w=>By w h l,[]⟩)
  (fun x=>l.length - x) 0 ⟨Nat.zero_le _,fun j hj=>by omega⟩ ?_ rfl (aq.refl _) fun i hi=>?_
 · conv=>whnf
   repeat (first | exact aw.nil | refine aw.any ?_ | refine aw.cons ?_)
 obtain⟨hi,hall⟩:=hi
 conv=>whnf
 refine aH.split (fun hlt=>?_) (fun hlt=>?_)
 · have hlt':i<l.length:=by
    simp only[au,decide_eq_true_eq] at hlt
    omega
   conv=>whnf
   refine aj.ah (ai.cL ab (t:=23) rfl rfl rfl rfl i rfl hlt' hh fun ad had=>?_)
   conv=>whnf
   refine aj.ah (ai.cy ab (t:=5) rfl rfl had (.fact fun w h=>h) rfl hlt' ?_)
   conv=>whnf
   refine ak.val (CB (aJ l i)) (fun w hw=>trivial) (fun v D hv=>?_)
   generalize hz:decide (aJ l i≠0)=cz at hv
   subst hv
   cases cz
   · have hz':aJ l i=0:=by simpa using hz
     conv=>whnf
     refine⟨i+1,⟨⟨hlt',fun j hj=>?_⟩,by dsimp only;omega⟩,?_,?_,aq.refl _⟩
     · rcases Nat.lt_or_eq_of_le (Nat.lt_succ_iff.1 hj) with h1 | h1
       · exact hall j h1
       · rw[h1];exact hz'
     · conv=>whnf
       refine⟨?_,rfl⟩
       repeat (first | exact aw.nil | refine aw.any ?_ | refine aw.cons ?_ | refine aw.eq (by rw[wrap_i64 (by omega)];rfl) ?_)
     · conv=>whnf
       exact trivial
   · have hz':aJ l i≠0:=by simpa using hz
     conv=>whnf
     refine⟨_,aq.refl _,_,rfl,?_⟩
     have:gz l=false:=by
      rw[Bool.eq_false_iff,Ne,e8]
      exact fun hq=>hz' (hq i hlt')
     rw[this]
     simp
 · have hie:i=l.length:=by
    simp only[au,decide_eq_false_iff_not] at hlt
    omega
   subst hie
   conv=>whnf
   exact⟨_,aq.refl _,_,rfl,by rw[e8.2 hall];rfl⟩
theorem pC (l:List UInt8) (h:Hd) (hh:h.Ok l.length) (hl:l.length≤1000000):af Tryz.prog 168 [h.v l.length,.func (.func 169) #[] #[]] (fun w=>By w h l) (fun v F=>v = .bool (!gz l)):=by
 refine af.aF ab Tryz.func168 rfl (by decide) (n:=Tryz.f168.ntmps - 2) rfl rfl fun w0 av=>?_
 conv=>whnf
 refine ak.val (uQ l h hh hl) (fun w hw=>hw) (fun v D hv=>?_)
 obtain⟨j,rfl,hj⟩:=hv
 conv=>whnf
 refine⟨_,aq.refl _,?_⟩
 show Value.bool (gG j 0)=_
 rw[← hj,bI]
theorem tC (l:List UInt8) (h:Hd) (hh:h.Ok l.length) (hl:l.length≤1000000):af Tryz.prog 146 [h.v l.length] (fun w=>By w h l) (fun v F=>v = .bool (gz l)):=by
 refine af.aF ab Tryz.func146 rfl (by decide) (n:=Tryz.f146.ntmps - 1) rfl rfl fun w0 av=>?_
 conv=>whnf
 refine ak.val (pC l h hh hl) (fun w hw=>hw) (fun v D hv=>?_)
 subst hv
 conv=>whnf
 exact⟨_,aq.refl _,by simp⟩
theorem CS {x y:Nat} (hx:x<256) (hy:y<256):Sx.bits .or .i64 (IntKind.i64.wrap ((x:Int)*2 ^ 8)) (y:Int)=((256*x+y:Nat):Int):=by
 have e1:IntKind.i64.wrap ((x:Int)*2 ^ 8)=((2 ^ 8*x:Nat):Int):=by
  rw[wrap_i64 (by omega)]
  omega
 rw[e1]
 have e2:(BitVec.ofInt IntKind.i64.bits ((2 ^ 8*x:Nat):Int) ||| BitVec.ofInt IntKind.i64.bits (y:Int)).toNat=256*x+y:=by
  have hb:IntKind.i64.bits=64:=rfl
  rw[hb,BitVec.ofInt_natCast,BitVec.ofInt_natCast,BitVec.toNat_or,BitVec.toNat_ofNat,BitVec.toNat_ofNat,Nat.mod_eq_of_lt (by omega),Nat.mod_eq_of_lt (by omega),← Nat.two_pow_add_eq_or_of_lt (by omega)]
 show IntKind.i64.wrap ((BitVec.ofInt IntKind.i64.bits ((2 ^ 8*x:Nat):Int) ||| BitVec.ofInt IntKind.i64.bits (y:Int)).toNat:Int)=_
 rw[e2,wrap_i64 (by omega)]
theorem x6 (b:List UInt8) (h:Hd) (hh:h.Ok b.length) (hb:b.length=16) :
 af Tryz.prog 147 [h.v b.length] (fun w=>By w h b) (fun v F=>v = .agg ⟨bg (aJ b 0) (256*aJ b 1+aJ b 2) (fun i=>aJ b (3+i))⟩):=by
 refine af.aF ab Tryz.func147 rfl (by decide) (n:=Tryz.f147.ntmps - 1) rfl rfl fun w0 av=>?_
 refine nG ?_
 refine tP (ti:=(Sx.look aK 82).get rfl) rfl rfl ?_
 conv=>whnf
 intro b0
 conv=>whnf
 refine aI.draw ab mixed rfl rfl ?_
 conv=>whnf
 repeat' (first
  | (refine And.intro ?_ ?_<;>conv=>whnf)
  | (refine ax.same rfl ?_;conv=>whnf)
  | (refine ax.row rfl ?_;conv=>whnf)
  | (refine ax.call rfl ?_;conv=>whnf)
  | (refine bG.of ?_;conv=>whnf)
  | (refine aa.of ?_;conv=>whnf)
  | (refine ai.cL ab (t:=23) rfl rfl rfl rfl 0 rfl (by omega) hh fun ad had=>?_;conv=>whnf)
  | (refine ai.cL ab (t:=23) rfl rfl rfl rfl 1 rfl (by omega) hh fun ad had=>?_;conv=>whnf)
  | (refine ai.cL ab (t:=23) rfl rfl rfl rfl 2 rfl (by omega) hh fun ad had=>?_;conv=>whnf)
  | (refine ai.cy ab (t:=5) rfl rfl had (.fact fun w h=>h) rfl (by omega) ?_;conv=>whnf)
  | (refine ai.shl (j:=8) rfl (by decide) ?_;conv=>whnf)
  | (intro b1;conv=>whnf)
  | (refine ax.mk ?_ ?_;(focus (first | exact aq.refl _ | exact aq.left _ _ | exact aq.of_le ⟨List.sublist_append_left _ _,fun w h=>h⟩ | exact aq.of_le ⟨List.Sublist.refl _,fun w h=>h.1⟩));conv=>whnf))
 have e1:IntKind.i64.wrap (aJ b 0:Int)=(aJ b 0:Int):=ej _ _
 have e2:Sx.bits .or .i64 (IntKind.i64.wrap (IntKind.i64.wrap (aJ b 1:Int)*2 ^ 8)) (IntKind.i64.wrap (aJ b 2:Int))=((256*aJ b 1+aJ b 2:Nat):Int):=by
  rw[ej,ej]
  exact CS (bJ _ _) (bJ _ _)
 refine aI.loop ab (ι:=Nat) ([4]++List.range' 20 13) (fun x=>x≤12)
  (fun x=>[(20,.v (.int .i64 (x:Int)))]) (fun x=>[((Sx.look aK 82).get rfl).zero,bg (aJ b 0) (256*aJ b 1+aJ b 2) fun j=>if j<x then aJ b (3+j) else 0]) (fun _=>⟨fun w=>By w h b,[]⟩)
  (fun x=>12 - x) 0 (Nat.zero_le _) ?_ (by simp only[e1,e2];rfl) (aq.refl _) fun i hi=>?_
 · conv=>whnf
   repeat (first | exact aw.nil | refine aw.any ?_ | refine aw.cons ?_)
 conv=>whnf
 refine aH.split (fun hlt=>?_) (fun hlt=>?_)
 · have hlt':i<12:=by
    simp only[au,decide_eq_true_eq] at hlt
    omega
   conv=>whnf
   refine aj.ah (ai.cL ab (t:=23) rfl rfl rfl rfl (3+i) (by rw[wrap_i64 (by omega)];rfl) (by omega) hh fun ad had=>?_)
   conv=>whnf
   refine aj.ah (ai.cy ab (t:=5) rfl rfl had (.fact fun w h=>h) rfl (by omega) ?_)
   conv=>whnf
   rw[bL hlt']
   conv=>whnf
   refine eB (by simp[bg];omega) ?_
   conv=>whnf
   refine⟨i+1,⟨hlt',by dsimp only;omega⟩,?_,?_,aq.refl _⟩
   · conv=>whnf
     refine⟨?_,rfl⟩
     repeat (first | exact aw.nil | refine aw.any ?_ | refine aw.cons ?_ | refine aw.eq (by rw[wrap_i64 (by omega)];rfl) ?_)
   · conv=>whnf
     refine⟨⟨rfl,rfl⟩,⟨rfl,?_⟩,trivial⟩
     rw[ej]
     dsimp only
     rw[Nat.mul_one,Nat.zero_add]
     show laid (bg _ _ _) (2+i) [aE (aJ b (3+i))]=_
     rw[ju hlt']
     refine gS fun j hj=>?_
     by_cases hji:j=i
     · subst hji
       simp
     · simp only[if_neg hji]
       by_cases h1:j<i
       · rw[if_pos h1,if_pos (by omega)]
       · rw[if_neg h1,if_neg (by omega)]
 · have hie:i=12:=by
    simp only[au,decide_eq_false_iff_not] at hlt
    omega
   subst hie
   conv=>whnf
   refine⟨_,aq.refl _,?_⟩
   have e:=gS (k:=aJ b 0) (s:=256*aJ b 1+aJ b 2) (b:=fun j=>if j<12 then aJ b (3+j) else 0) (b':=fun i=>aJ b (3+i)) fun j hj=>by simp[hj]
   exact congrArg (fun l=>Value.agg ⟨l⟩) e
theorem re (x y:List UInt8) (h k:Hd) (hh:h.Ok x.length) (hk:k.Ok y.length):af Tryz.prog 145 [h.v x.length,k.v y.length] (fun w=>By w h x∧By w k y) (fun v F=>v = .bool (x == y)):=by
 refine af.aF ab Tryz.func145 rfl (by decide) (n:=Tryz.f145.ntmps - 2) rfl rfl fun w0 av=>?_
 conv=>whnf
 refine aj.ah (ai.bytes ab (t:=23) (u:=9) rfl rfl rfl rfl rfl rfl (l:=x) (.fact fun w hw=>hw.1) rfl ?_)
 conv=>whnf
 refine aj.ah (ai.bytes ab (t:=23) (u:=9) rfl rfl rfl rfl rfl rfl (l:=y) (.fact fun w hw=>hw.2) rfl ?_)
 conv=>whnf
 refine aj.ah (ai.fL (l:=x) (m:=y) ?_)
 conv=>whnf
 exact⟨_,aq.refl _,rfl⟩
theorem eE (l:List UInt8) (h:Hd) (hh:h.Ok l.length) (h0:0<l.length) (hl:l.length≤1000000):af Tryz.prog 28 [h.v l.length] (fun w=>By w h l) (vq l):=by
 refine af.aF ab Tryz.func28 rfl (by decide) (n:=Tryz.f28.ntmps - 1) rfl rfl fun w0 av=>?_
 conv=>whnf
 refine aj.ah (ai.Es ab (t:=23) rfl rfl ?_)
 have hs:h.a.isNone=false:=by
  cases ha:h.a with
  | none=>have:=hh.nil ha;omega
  | some a=>rfl
 rw[hs]
 conv=>whnf
 refine aj.build ab (t:=23) rfl rfl rfl [] rfl rfl (by simp) (by decide) fun b0=>?_
 conv=>whnf
 refine aj.c_ (F':=⟨fun w=>By w h l,[]⟩) (aq.of_le ⟨by simp,fun w hw=>hw⟩) ?_
 refine aj.eQ ab (t:=23) (xt:=23) rfl rfl rfl rfl rfl rfl rfl rfl (l:=l) (.fact fun w hw=>hw) h0 hl fun b1 c1 Z hc hZ=>?_
 conv=>whnf
 exact la (r1:=[]) (r2:=[]) rfl hc
def prt (b:Nat→Nat) (i:Nat):List Nat:=((List.range i).map b).filter (·≠0)
theorem vo (b:Nat→Nat) (i:Nat):prt b (i+1)=prt b i++(if b i=0 then [] else [b i]):=by
 unfold prt
 rw[List.range_succ,List.map_append,List.filter_append]
 congr 1
 by_cases h:b i=0<;>simp[h]
theorem CI (b:Nat→Nat) {i j:Nat} (h:i≤j):prt b i <+: prt b j:=by
 induction j with
 | zero=>
  have:i=0:=by omega
  subst this
  exact List.prefix_refl _
 | succ j ih=>
  rcases Nat.lt_or_eq_of_le h with h1 | h1
  · exact(ih (by omega)).trans (by rw[vo];exact List.prefix_append _ _)
  · subst h1
    exact List.prefix_refl _
def rW (d:List UInt8) (s j x:Nat):Prop:=j<(s+127)/128∧18≤x∧x<96∧(s - 128*j<128→gz (cut d (128*x+(s - 128*j)) (128 - (s - 128*j)))=true)
structure tT (d:List UInt8) (k s:Nat) (b:Nat→Nat) (us:List Nat):Prop where
 kind:k=1∨k=2
 size:s≤1536
 blk : ∀ j,j<12→b j≠0→rW d s j (b j)
 nodup:(us++prt b 12).Nodup
 dir:k≠2∨(s=128∧b 0≠0)
def bq (us:List Nat):mJ:=us.map fun n=>(aE n,.bool true)
theorem ed (us:List Nat) : ∀ p∈bq us,MapKept.IsKey (.int .i64) p.1:=by
 intro p hp
 obtain⟨n,_,rfl⟩:=List.mem_map.1 hp
 rfl
theorem jI {us:List Nat} {n:Nat} (h:n ∉ us) : ∀ p∈bq us,p.1≠aE n:=by
 intro p hp he
 obtain⟨m,hm,rfl⟩:=List.mem_map.1 hp
 have:m=n:=by
  unfold aE at he
  simp at he
  omega
 subst this
 exact h hm
theorem jV {us:List Nat} {n:Nat} : ∀ (i:Nat) u,(bq us)[i]? = some (aE n,u)→u = .bool true:=by
 intro i u h
 unfold bq at h
 rw[List.getElem?_map] at h
 cases hq:us[i]? with
 | none=>rw[hq] at h;cases h
 | some m=>
  rw[hq] at h
  simp at h
  exact h.2.symm
theorem pk (us:List Nat) (n:Nat):bq (us ++ [n])=bq us ++ [(aE n,.bool true)]:=by simp[bq]
theorem pF {b:Nat→Nat} {i:Nat} (hi:i<12) : [aE (b 0),aE (b 1),aE (b 2),aE (b 3),aE (b 4),aE (b 5),aE (b 6),aE (b 7),aE (b 8),aE (b 9),aE (b 10),aE (b 11)][i]? = some (aE (b i)):=by
 match i,hi with
 | 0,_ | 1,_ | 2,_ | 3,_ | 4,_ | 5,_ | 6,_ | 7,_ | 8,_ | 9,_ | 10,_ | 11,_=>rfl
section
variable {w0:World} {R:Nat→Nat→Prop} {av:Nat→Prop}
theorem xp {D:World→Prop} {bd bv bm cap b9:Nat} {c9:List Value} {d:List UInt8} {Z V:List Value} {k s:Nat} {b:Nat→Nat} {us:List Nat} {K:KV} (hd:d.length=12288) (hcap:d.length≤cap)
 (hV:V[0]? = some (.slice (some ⟨bd,0,none⟩) d.length cap)) (hs:s≤1000000) (hb : ∀ i,b i≤1000000) (hus:us.Nodup)
 (hT:tT d k s b us→K (.bool true) [(b9,0)] [c9] ⟨D,[(bd,Row.c (d.map ao++Z)),(bv,Row.c V)] ++ [(bm,Row.m (bF (bq (us++prt b 12))) (bq (us++prt b 12)).length)] ++ []⟩)
 (hF : ¬ tT d k s b us→∀ vs,K (.bool false) [(b9,0)] [c9] ⟨D,[(bd,Row.c (d.map ao++Z)),(bv,Row.c V)] ++ [(bm,Row.m (bF (bq vs)) (bq vs).length)] ++ []⟩) :
 ak Tryz.prog w0 R av 148 [.pointer (some ⟨bv,0,none⟩),.agg ⟨bg k s b⟩,.map (some bm)] [(b9,0)] [c9] ⟨D,[(bd,Row.c (d.map ao++Z)),(bv,Row.c V)] ++ [(bm,Row.m (bF (bq us)) (bq us).length)] ++ []⟩ K:=by
 refine ak.Dp ab Tryz.func148 rfl (by decide) (n:=Tryz.f148.ntmps - 3) [.v _,.v _,.v _] rfl (by exact⟨rfl,rfl,rfl,trivial⟩) ?_
 conv=>whnf
 intro b4
 have hno : ∀ (vs:List Nat) (cc:List Value),¬ tT d k s b us→zf [(b9,0)] [(b9,0),(b4,0)] [c9,cc] ⟨D,[(bd,Row.c (d.map ao++Z)),(bv,Row.c V)] ++ [(bm,Row.m (bF (bq vs)) (bq vs).length)] ++ []⟩ (fun c1 F1=>K (.bool false) [(b9,0)] c1 F1):=
  fun vs cc hn=>⟨⟨[(b4,0)],[c9],[cc],_,rfl,rfl,rfl,aq.refl _,hF hn vs⟩⟩
 conv=>whnf
 repeat (refine aa.of ?_;conv=>whnf)
 generalize hc1:(iZ (k:Int) 1&&iZ (k:Int) 2||yq (s:Int) 1536)=c1
 cases c1
 rotate_left
 · conv=>whnf
   repeat (refine aa.of ?_;conv=>whnf)
   exact hno us _ fun hp=>by
    have h1:=hp.kind
    have h2:=hp.size
    simp[ar,bP] at hc1
    omega
 have hks:(k=1∨k=2)∧s≤1536:=by
  simp[ar,bP] at hc1
  omega
 conv=>whnf
 repeat (refine aa.of ?_;conv=>whnf)
 refine aI.loop ab (ι:=Nat×List Nat) ([7,8,9]++List.range' 25 43) (fun x=>x.1≤12∧x.2=us++prt b x.1∧x.2.Nodup∧∀ j,j<x.1→b j≠0→rW d s j (b j))
  (fun x=>[(25,.v (.int .i64 (x.1:Int)))]) (fun _=>[c9,bg k s b]) (fun x=>⟨D,[(bd,Row.c (d.map ao++Z)),(bv,Row.c V)] ++ [(bm,Row.m (bF (bq x.2)) (bq x.2).length)] ++ []⟩)
  (fun x=>12 - x.1) (0,us) ⟨Nat.zero_le _,by simp[prt],hus,fun j hj=>by omega⟩ ?_ rfl (aq.refl _) fun x hx=>?_
 · conv=>whnf
   repeat (first | exact aw.nil | refine aw.any ?_ | refine aw.cons ?_)
 obtain⟨i,vs⟩:=x
 obtain⟨hi,hvs,hnd,hall⟩:=hx
 dsimp only at hi hvs hnd hall ⊢
 conv=>whnf
 refine aH.split (fun hlt=>?_) (fun hlt=>?_)
 · have hlt':i<12:=by
    simp only[au,decide_eq_true_eq] at hlt
    omega
   have hpn:=vo b i
   conv=>whnf
   refine aj.ah (ai.nA ab (t:=72) rfl rfl rfl rfl rfl i rfl hlt' (pF hlt') ?_)
   conv=>whnf
   refine aH.split (fun hz=>?_) (fun hz=>?_)
   · have hz':b i=0:=by
      simp[aD] at hz
      omega
     rw[if_pos hz',List.append_nil] at hpn
     conv=>whnf
     refine⟨(i+1,vs),⟨⟨hlt',by dsimp only;rw[hpn];exact hvs,hnd,fun j hj h0=>?_⟩,by dsimp only;omega⟩,?_,?_,aq.refl _⟩
     · rcases Nat.lt_or_eq_of_le (Nat.lt_succ_iff.1 hj) with h5 | h5
       · exact hall j h5 h0
       · subst h5
         exact absurd hz' h0
     · conv=>whnf
       refine⟨?_,rfl⟩
       repeat (first | exact aw.nil | refine aw.any ?_ | refine aw.cons ?_ | refine aw.eq (by rw[wrap_i64 (by omega)];rfl) ?_)
     · conv=>whnf
       exact⟨⟨rfl,rfl⟩,⟨rfl,rfl⟩,trivial⟩
   have hz':b i≠0:=by
    simp[aD] at hz
    omega
   rw[if_neg hz'] at hpn
   have hbi:=hb i
   conv=>whnf
   refine ak.val (gZ s hs) (fun w hw=>trivial) (fun v Dx hv=>?_)
   subst hv
   conv=>whnf
   repeat (refine aa.of ?_;conv=>whnf)
   generalize hr:(gG (i:Int) (((s+127)/128:Nat):Int)||mL (b i:Int) 18||gG (b i:Int) 96)=cr
   cases cr
   rotate_left
   · conv=>whnf
     repeat (refine aa.of ?_;conv=>whnf)
     refine hno vs _ fun hp=>?_
     obtain⟨h1,h2,h3,-⟩:=hp.blk i hlt' hz'
     simp[bI,au] at hr
     omega
   have hr':i<(s+127)/128∧18≤b i∧b i<96:=by
    simp[bI,au] at hr
    omega
   obtain⟨hr1,hr2,hr3⟩:=hr'
   conv=>whnf
   repeat (refine aa.of ?_;conv=>whnf)
   by_cases hmem:b i∈vs
   · refine aj.ah (ai.eg ab (t:=182) rfl rfl rfl rfl (df.row (by simp)) rfl (ed vs) (v:=.bool true) jV ⟨(aE (b i),.bool true),List.mem_map.2 ⟨_,hmem,rfl⟩,rfl⟩ ?_)
     conv=>whnf
     repeat (refine aa.of ?_;conv=>whnf)
     refine hno vs _ fun hp=>?_
     have h2:=hp.nodup.sublist (((List.prefix_append_right_inj us).2 (CI b (show i+1≤12 by omega))).sublist)
     rw[hpn,← List.append_assoc,← hvs,List.nodup_append] at h2
     exact h2.2.2 _ hmem _ (by simp) rfl
   refine aj.ah (ai.iD ab (t:=182) rfl rfl rfl rfl (df.row (by simp)) rfl (ed vs) (jI hmem) (z:=.bool false) rfl ?_)
   conv=>whnf
   repeat (refine aa.of ?_;conv=>whnf)
   refine a_.rA ab (t:=182) rfl rfl rfl rfl (r1:=[(bd,Row.c (d.map ao++Z)),(bv,Row.c V)]) (r2:=[]) (l:=bq vs) rfl (ed vs) (jI hmem) ?_
   have hsn:=pk vs (b i)
   rw[← hsn]
   have hend:IntKind.i64.wrap ((s:Int) - IntKind.i64.wrap ((i:Int)*128))=((s - 128*i:Nat):Int):=by
    rw[wrap_i64 (n:=(i:Int)*128) (by omega),wrap_i64 (by omega)]
    omega
   have hnd2:(vs ++ [b i]).Nodup:=by
    rw[List.nodup_append]
    refine⟨hnd,by simp,fun a ha c hc hac=>?_⟩
    have hc:c=b i:=by simpa using hc
    subst hc hac
    exact hmem ha
   have hvs2:vs ++ [b i]=us++prt b (i+1):=by rw[hpn,hvs,List.append_assoc]
   conv=>whnf
   repeat (refine aa.of ?_;conv=>whnf)
   rw[hend]
   generalize hes:s - 128*i=es at *
   have hblk:(es<128→gz (cut d (128*b i+es) (128 - es))=true)→rW d s i (b i):=fun h=>⟨hr1,hr2,hr3,by rw[hes];exact h⟩
   have hgo:rW d s i (b i)→∀ j,j<i+1→b j≠0→rW d s j (b j):=fun hB j hj h0=>by
    rcases Nat.lt_or_eq_of_le (Nat.lt_succ_iff.1 hj) with h5 | h5
    · exact hall j h5 h0
    · subst h5
      exact hB
   refine aH.split (fun h7=>?_) (fun h7=>?_)
   · have h7':es<128:=by
      simp[au] at h7
      omega
     have hcl:(cut d (128*b i+es) (128 - es)).length=128 - es:=aZ (by omega)
     have hok:(⟨some ⟨bd,0,none⟩,cap⟩:Hd).Ok d.length:=⟨fun h=>(by cases h),hcap⟩
     have hok2:(Hd.sub ⟨some ⟨bd,0,none⟩,cap⟩ (128*b i)).Ok 128:=Hd.eu hok (by omega)
     have hzs:=tC (cut d (128*b i+es) (128 - es)) (Hd.sub (Hd.sub ⟨some ⟨bd,0,none⟩,cap⟩ (128*b i)) es) (by rw[hcl];exact Hd.eu hok2 (by omega)) (by omega)
     rw[hcl] at hzs
     conv=>whnf
     refine ak.look (du bv V ⟨some ⟨bd,0,none⟩,cap⟩ d.length hV hok hd (b i) hr3) (Loc.row _ _) (fun w hst=>bp.row (by simp) w hst) ?_
     conv=>whnf
     refine aj.ah (ai.gD ab (t:=23) rfl rfl rfl rfl es rfl (by omega) hok2.cap ?_)
     conv=>whnf
     refine ak.look hzs (Loc.row _ _) (fun w hst=>?_) ?_
     · have h1:By w ⟨some ⟨bd,0,none⟩,cap⟩ d:=bp.bytes (Z:=Z) (by simp) w hst
       have h2:=By.sub (By.sub h1 (l:=128*b i) (k:=128) (by dsimp only;omega)) (l:=es) (k:=128 - es) (by have:=hok2.cap;omega)
       rw[tZ (by omega)] at h2
       exact h2
     generalize hzz:gz (cut d (128*b i+es) (128 - es))=zz at *
     cases zz
     · conv=>whnf
       repeat (refine aa.of ?_;conv=>whnf)
       repeat' (first
        | (refine aH.yes rfl ?_;conv=>whnf))
       refine hno (vs ++ [b i]) _ fun hp=>?_
       have h9:=(hp.blk i hlt' hz').2.2.2
       rw[hes,hzz] at h9
       cases h9 h7'
     · conv=>whnf
       repeat (refine aa.of ?_;conv=>whnf)
       repeat' (first
        | (refine aH.no rfl ?_;conv=>whnf))
       refine⟨(i+1,vs ++ [b i]),⟨⟨hlt',hvs2,hnd2,hgo (hblk fun _=>rfl)⟩,by dsimp only;omega⟩,?_,?_,aq.refl _⟩
       · conv=>whnf
         refine⟨?_,rfl⟩
         repeat (first | exact aw.nil | refine aw.any ?_ | refine aw.cons ?_ | refine aw.eq (by rw[wrap_i64 (by omega)];rfl) ?_)
       · conv=>whnf
         exact⟨⟨rfl,rfl⟩,⟨rfl,rfl⟩,trivial⟩
   · have h7' : ¬ es<128:=by
      simp[au] at h7
      omega
     conv=>whnf
     repeat (refine aa.of ?_;conv=>whnf)
     repeat' (first
      | (refine aH.no rfl ?_;conv=>whnf))
     refine⟨(i+1,vs ++ [b i]),⟨⟨hlt',hvs2,hnd2,hgo (hblk fun h=>absurd h h7')⟩,by dsimp only;omega⟩,?_,?_,aq.refl _⟩
     · conv=>whnf
       refine⟨?_,rfl⟩
       repeat (first | exact aw.nil | refine aw.any ?_ | refine aw.cons ?_ | refine aw.eq (by rw[wrap_i64 (by omega)];rfl) ?_)
     · conv=>whnf
       exact⟨⟨rfl,rfl⟩,⟨rfl,rfl⟩,trivial⟩
 · have hie:i=12:=by
    simp only[au,decide_eq_false_iff_not] at hlt
    omega
   subst hie
   subst hvs
   have hend : ∀ r:Bool,(r=true↔(k≠2∨(s=128∧b 0≠0)))→zf [(b9,0)] [(b9,0),(b4,0)] [c9,bg k s b] ⟨D,[(bd,Row.c (d.map ao++Z)),(bv,Row.c V)] ++ [(bm,Row.m (bF (bq (us++prt b 12))) (bq (us++prt b 12)).length)] ++ []⟩ (fun c1 F1=>K (.bool r) [(b9,0)] c1 F1):=by
    intro r hr
    cases r
    · exact hno _ _ fun hp=>by
       have:=hr.2 hp.dir
       cases this
    · exact⟨⟨[(b4,0)],[c9],[bg k s b],_,rfl,rfl,rfl,aq.refl _,hT ⟨hks.1,hks.2,hall,hnd,hr.1 rfl⟩⟩⟩
   have q1:iZ (k:Int) 2=decide (k≠2):=by
    rw[ar,Bool.eq_iff_iff]
    simp
    omega
   have q2:cN (s:Int) 128=decide (s=128):=dP s 128
   have q3:iZ (b 0:Int) 0=decide (b 0≠0):=by
    rw[ar,Bool.eq_iff_iff]
    simp
   conv=>whnf
   repeat (refine aa.of ?_;conv=>whnf)
   repeat' (first
    | (rw[show iZ (k:Int) 2=iZ (k:Int) 2 from rfl];cases ht0:iZ (k:Int) 2<;>conv=>whnf)
    | (rw[show cN (s:Int) 128=cN (s:Int) 128 from rfl];cases ht1:cN (s:Int) 128<;>conv=>whnf)
    | (rw[show iZ (b 0:Int) 0=iZ (b 0:Int) 0 from rfl];cases ht2:iZ (b 0:Int) 0<;>conv=>whnf)
    | (refine aa.of ?_;conv=>whnf)
    | (refine aH.yes rfl ?_;conv=>whnf)
    | (refine aH.no rfl ?_;conv=>whnf))
   all_goals
    refine hend _ ?_
    first | simp[ht0,ht1,ht2] at q1 q2 q3 ⊢ | simp[ht0,ht1] at q1 q2 ⊢ | simp[ht0] at q1 ⊢
    try omega
end
end Go.Proofs.YtfeoedkmndkbjaaGreatDoor
namespace Go.Proofs.YtfeoedkmndkbjaaGreatDoor
open Go Go.Sx
set_option maxRecDepth 100000
set_option maxHeartbeats 4000000
set_option linter.unusedVariables false
set_option linter.unusedSimpArgs false
def cG (d:List UInt8) (x:Nat):List UInt8:=lay (cD d (cq (bA d) x true)) (128*x) (List.replicate 128 0)
theorem dK {b:List UInt8} {x:Nat} (h:cI b=some x):18≤x∧x<96:=by
 unfold cI at h
 have:=List.mem_of_find?_eq_some h
 rw[List.mem_range'_1] at this
 omega
theorem cY {d:List UInt8} (hd:d.length=12288) {x:Nat} (hx:x<96):(cG d x).length=12288:=by
 have h1:(cD d (cq (bA d) x true)).length=12288:=aP hd (by rw[bz,aU hd])
 unfold cG
 rw[ct (by rw[h1,List.length_replicate];omega),h1]
def qX (n:Nat) (d:List UInt8) (e:Nat) (v:Value) (F:Fx):Prop:=∃ h:Hd,v = .tuple #[.int .i64 (n:Int),h.v d.length,.int .i64 (e:Int)]∧h.Ok d.length∧F=⟨fun w=>By w h d,[]⟩
theorem dj {D:World→Prop} {rs:List (Nat×Row)} {e:Nat} : ∃ F',aq ⟨D,rs⟩ F'∧qX 0 [] e (.tuple #[.int .i64 0,.slice none 0 0,.int .i64 (e:Int)]) F':=
 ⟨⟨fun w=>By w Hd.nil [],[]⟩,aq.bare fun w _=>By.nil w,Hd.nil,rfl,Hd.dq,rfl⟩
def Du (n:Nat) (d:List UInt8) (e:Nat) (v:Value) (F:Fx):Prop:=∃ b cap Z,v = .tuple #[.int .i64 (n:Int),.slice (some ⟨b,0,none⟩) d.length cap,.int .i64 (e:Int)]∧d.length≤cap∧F=⟨fun _=>True,[(b,Row.c (d.map ao++Z))]⟩
def yY (d:List UInt8) (v:Value) (F:Fx):Prop:=match cI (bA d) with
 | none=>qX 0 [] 13 v F
 | some x=>Du x (cG d x) 0 v F
theorem AU (n:Nat):(List.replicate n [Value.int .u8 0]).flatten=(List.replicate n (0:UInt8)).map ao ++ []:=by
 induction n with
 | zero=>rfl
 | succ n ih=>
  rw[List.replicate_succ,List.flatten_cons,ih,List.replicate_succ]
  rfl
section
variable {P:Program} {aK:Sx.fk} {w0:World} {R:Nat→Nat→Prop} {av:Nat→Prop} {bs:List (Nat×Nat)} {cs:List (List Value)} {F:Fx}
theorem aj.ek (hT:bn P aK) {t:TypeId} {ti te:TI} {e:TypeId} (ht:Sx.look aK t=some ti) (hk:ti.k = .slice e) (he:Sx.look aK e=some te) (hz:te.zero = [.int .u8 0]) (hs:te.size=1) (hby:te.bytes=1) {k k':IntKind} {m m':Int} {K:KV} (n:Nat) (hm:m=(n:Int)) (hm':m'=(n:Int))
 (hn:0<n) (hsmall:n≤1000000) (h : ∀ b,K (.slice (some ⟨b,0,none⟩) n n) bs cs ⟨F.D,F.rs ++ [(b,Row.c ((List.replicate n (0:UInt8)).map ao ++ []))]⟩):aj P w0 R av (Instr.makeSlice t (.int k m) (.int k' m')) bs cs F K:=by
 refine aj.pJ hT ht hk he n hm hm' hn (by rw[hs];decide) (by rw[hz,hs];rfl) hsmall (by rw[hby];omega) fun b=>?_
 rw[hz,AU]
 exact h b
end
theorem tt (d:List UInt8) (h:Hd) (hh:h.Ok d.length) (hd:d.length=12288):af Tryz.prog 82 [h.v d.length] (fun w=>By w h d) (yY d):=by
 have hbl:=aU hd
 refine af.aF ab Tryz.func82 rfl (by decide) (n:=Tryz.f82.ntmps - 1) rfl rfl fun w0 av=>?_
 conv=>whnf
 refine ak.pure (iV d h hh hd) (fun w hw=>hw) (fun v D hv=>?_)
 obtain⟨k,rfl,hk,rfl⟩:=hv
 conv=>whnf
 refine ak.pure (yc (bA d) k hk hbl) (fun w hw=>hw.2) (fun v D hv=>?_)
 unfold CL at hv
 unfold yY
 have hsm:=fun x=>aP hd (b:=cq (bA d) x true) (by rw[bz,hbl])
 have htl:=fun x (hx:x<96)=>cY hd hx
 cases hf:cI (bA d) with
 | none=>
  rw[hf] at hv
  obtain⟨e,he,rfl,rfl⟩:=hv
  conv=>whnf
  refine aH.yes (by subst he;simp[ar]) ?_
  conv=>whnf
  exact dj
 | some x=>
  obtain⟨hx1,hx2⟩:=dK hf
  rw[hf] at hv
  obtain⟨l,k2,e,he,rfl,hl,hk2,rfl⟩:=hv
  have hp2:(cq (bA d) x true).length=12:=by rw[bz,hbl]
  have hsm:=aP hd hp2
  have hwb:=jn d h hh hd (cq (bA d) x true) k2 (by rw[bz];exact hk2) hp2
  rw[bz] at hwb
  conv=>whnf
  refine aH.no (by subst he;simp[ar]) ?_
  conv=>whnf
  refine ak.pure hwb (fun w hw=>⟨hw.1.1,hw.2.2⟩) (fun v D hv=>?_)
  obtain⟨b1,c1,Z,rfl,hc1,rfl⟩:=hv
  rw[hsm] at hc1
  conv=>whnf
  have hex:cG d x=lay (cD d (cq (bA d) x true)) (128*x) (List.replicate 128 0):=rfl
  have hel:=cY hd hx2
  generalize cD d (cq (bA d) x true)=d2 at *
  refine aI.draw ab mixed rfl rfl ?_
  conv=>whnf
  repeat' (first
   | (refine And.intro ?_ ?_<;>conv=>whnf)
   | (refine ax.same rfl ?_;conv=>whnf)
   | (refine ax.row rfl ?_;conv=>whnf)
   | (refine ax.call rfl ?_;conv=>whnf)
   | (refine bG.of ?_;conv=>whnf)
   | (refine aa.of ?_;conv=>whnf)
   | (refine ai.index ab (t:=97) rfl rfl rfl (by omega) (by omega) hl.nil fun ad had=>?_;conv=>whnf)
   | (refine ai.load ab (t:=3) rfl rfl (ad:=ad) (k:=0) (L:=[aE x]) (v:=aE x) (.fact fun w hw=>had ▸ hw.1.2.1) rfl rfl ?_;conv=>whnf)
   | (refine aj.ek ab (t:=23) rfl rfl rfl rfl rfl rfl 128 rfl rfl (by decide) (by decide) fun b2=>?_;conv=>whnf)
   | (refine ak.val (ea ⟨some ⟨b1,0,none⟩,c1⟩ d2.length x ⟨fun h=>(by cases h),by dsimp only;omega⟩ (by omega) (by omega)) (fun w hw=>trivial) (fun v D hv=>?_);rw[dO (by omega)] at hv;subst hv;conv=>whnf)
   | (refine aj.qe ab (t:=23) rfl rfl rfl rfl (r1:=[]) (r2:=[(b2,Row.c ((List.replicate 128 (0:UInt8)).map ao ++ []))]) (b:=b1) (k:=128*x) (l:=d2) (m:=List.replicate 128 0) (Z:=Z) rfl ?_ (by simp) (by omega) (by omega) ?_;(focus exact bp.bytes (Z:=[]) (by simp));conv=>whnf)
   | (refine ax.mk ?_ ?_;(focus (first | exact aq.refl _ | exact aq.left _ _ | exact aq.of_le ⟨List.sublist_append_left _ _,fun w h=>h⟩ | exact aq.of_le ⟨List.Sublist.refl _,fun w h=>h.1⟩));conv=>whnf))
  all_goals
   refine aj.ah (ai.index ab (t:=97) rfl rfl rfl (by omega) (by omega) hl.nil fun ad had=>?_)
   conv=>whnf
   refine aj.ah (ai.load ab (t:=3) rfl rfl (ad:=ad) (k:=0) (L:=[aE x]) (v:=aE x) (.fact fun w hw=>had ▸ hw.1.2.1) rfl rfl ?_)
   conv=>whnf
   rw[← hex]
   refine⟨⟨fun _=>True,[(b1,Row.c ((cG d x).map ao++Z))]⟩,aq.of_le ⟨by simp,fun w _=>trivial⟩,b1,c1,Z,?_,by omega,rfl⟩
   have e1:d2.length=(cG d x).length:=by omega
   rw[e1]
   rfl
theorem mq (d:List UInt8) (h:Hd) (hh:h.Ok d.length) (hd:d.length=12288) (x:Nat) (hf:cI (bA d)=some x) (e:Nat) (he:e=0):af Tryz.prog 82 [h.v d.length] (fun w=>By w h d) (Du x (cG d x) e):=by
 subst he
 refine(tt d h hh hd).imp (fun _ h=>h) fun v F hv=>?_
 unfold yY at hv
 rw[hf] at hv
 exact hv
theorem zH (d:List UInt8) (h:Hd) (hh:h.Ok d.length) (hd:d.length=12288) (x:Nat) (hf:cI (bA d)=some x) (e:Nat) (he:e=0):af Tryz.prog 82 [h.v d.length] (fun w=>By w h d) (qX x (cG d x) e):=
 (mq d h hh hd x hf e he).weaken fun v F ⟨b,cap,Z,hv,hc,hF⟩=>by
  subst hv hF
  exact⟨⟨fun w=>By w ⟨some ⟨b,0,none⟩,cap⟩ (cG d x),[]⟩,aq.kr (r1:=[]) (r2:=[]),⟨some ⟨b,0,none⟩,cap⟩,rfl,⟨fun h=>(by cases h),hc⟩,rfl⟩
theorem og (d:List UInt8) (h:Hd) (hh:h.Ok d.length) (hd:d.length=12288) (hf:cI (bA d)=none) (e:Nat) (he:e=13):af Tryz.prog 82 [h.v d.length] (fun w=>By w h d) (qX 0 [] e):=by
 subst he
 refine(tt d h hh hd).imp (fun _ h=>h) fun v F hv=>?_
 unfold yY at hv
 rw[hf] at hv
 exact hv
def zL (d:List UInt8) (x:Nat):List UInt8:=cD d (cq (bA d) x false)
theorem BT {d:List UInt8} (hd:d.length=12288) (x:Nat):(zL d x).length=12288:=aP hd (by rw[bz,aU hd])
theorem mQ (d:List UInt8) (h:Hd) (hh:h.Ok d.length) (hd:d.length=12288) (x:Nat) (hx:x<96):af Tryz.prog 139 [h.v d.length,.int .i64 (x:Int)] (fun w=>By w h d) (lq (zL d x)):=by
 have hbl:=aU hd
 refine af.aF ab Tryz.func139 rfl (by decide) (n:=Tryz.f139.ntmps - 2) rfl rfl fun w0 av=>?_
 conv=>whnf
 refine ak.pure (iV d h hh hd) (fun w hw=>hw) (fun v D hv=>?_)
 obtain⟨k,rfl,hk,rfl⟩:=hv
 conv=>whnf
 refine ak.pure (tI (bA d) k hk x false (by omega) (by omega)) (fun w hw=>hw.2) (fun v D hv=>?_)
 obtain⟨k2,rfl,hk2,rfl⟩:=hv
 have hp2:(cq (bA d) x false).length=12:=by rw[bz,hbl]
 have hwb:=kx d h hh hd (cq (bA d) x false) k2 (by rw[bz];exact hk2) hp2
 rw[bz] at hwb
 conv=>whnf
 refine ak.pure hwb (fun w hw=>⟨hw.1.1,hw.2⟩) (fun v D hv=>?_)
 obtain⟨k3,rfl,hk3,rfl⟩:=hv
 conv=>whnf
 exact⟨_,aq.of_le ⟨by simp[Fx.and],fun w hw=>hw.2⟩,k3,rfl,hk3,rfl⟩
def fy (d:List UInt8):Option Nat:=(List.range 32).find? fun n=>decide (rk d n=0)
theorem my {d:List UInt8} {i:Nat} (h2:i<32) (hb : ∀ j,j<i→rk d j≠0) (hi:rk d i=0):fy d=some i:=by
 unfold fy
 rw[List.range_eq_range',List.find?_range'_eq_some]
 refine⟨by simp[hi],?_,?_⟩
 · rw[List.mem_range'_1]
   omega
 · intro j hj hj2
   simp[hb j hj2]
theorem rC {d:List UInt8} (hb : ∀ j,j<32→rk d j≠0):fy d=none:=by
 unfold fy
 rw[List.find?_eq_none]
 intro j hj
 rw[List.mem_range] at hj
 simp[hb j hj]
noncomputable def aN (d:List UInt8) (kind:Nat):Nat×List UInt8×Nat:=
 if dM d≠0 then (0,[],dM d) else match fy d with
  | none=>(0,[],13)
  | some n=>if kind=2 then match cI (bA d) with
   | none=>(0,[],13)
   | some x=>(n,cS (cG d x) n 2 128 (fun i=>if i=0 then x else 0),0)
   else (n,cS d n 1 0 (fun _=>0),0)
theorem uy (d:List UInt8) (h:Hd) (hh:h.Ok d.length) (hl:d.length≤1000000) (kind:Nat) (hk:kind=1∨kind=2) :
 af Tryz.prog 80 [h.v d.length,.int .i64 (kind:Int)] (fun w=>By w h d) (qX (aN d kind).1 (aN d kind).2.1 (aN d kind).2.2):=by
 refine af.aF ab Tryz.func80 rfl (by decide) (n:=Tryz.f80.ntmps - 2) rfl rfl fun w0 av=>?_
 conv=>whnf
 refine ak.val (jP d h hh hl) (fun w hw=>hw) (fun v D hv=>?_)
 generalize hch:dM d=e at hv
 subst hv
 conv=>whnf
 refine aH.split (fun he=>?_) (fun he=>?_)
 · conv=>whnf
   have he':e≠0:=by
    simp[ar] at he
    omega
   have:aN d kind=(0,[],e):=by
    unfold aN
    rw[hch,if_pos he']
   rw[this]
   exact dj
 have he':e=0:=by
  simp[ar] at he
  omega
 subst he'
 obtain⟨hd,hok⟩:=bl hch
 conv=>whnf
 repeat (refine aa.of ?_;conv=>whnf)
 refine aH.no (by simp[ar];omega) ?_
 conv=>whnf
 refine aI.loop ab (ι:=Nat) ([8,9,10,11,12,13]++List.range' 25 33) (fun x=>x≤32∧∀ j,j<x→rk d j≠0)
  (fun x=>[(8,.v (.int .i64 (x:Int)))]) (fun _=>[]) (fun _=>⟨fun w=>By w h d,[]⟩)
  (fun x=>32 - x) 0 ⟨Nat.zero_le _,fun j hj=>by omega⟩ ?_ rfl (aq.refl _) fun i hi=>?_
 · conv=>whnf
   repeat (first | exact aw.nil | refine aw.any ?_ | refine aw.cons ?_)
 obtain⟨hi,hall⟩:=hi
 conv=>whnf
 refine aH.split (fun hlt=>?_) (fun hlt=>?_)
 · conv=>whnf
   have hlt':i<32:=by
    simp only[au,decide_eq_true_eq] at hlt
    omega
   refine ak.val (nN d h i hh hd hlt') (fun w hw=>hw) (fun v D hv=>?_)
   subst hv
   conv=>whnf
   refine aH.split (fun h0=>?_) (fun h0=>?_)
   · conv=>whnf
     have h0':rk d i≠0:=by
      simp[ar] at h0
      omega
     refine⟨i+1,⟨⟨hlt',fun j hj=>?_⟩,by dsimp only;omega⟩,?_,?_,aq.refl _⟩
     · rcases Nat.lt_or_eq_of_le (Nat.lt_succ_iff.1 hj) with h1 | h1
       · exact hall j h1
       · rw[h1];exact h0'
     · conv=>whnf
       refine⟨?_,rfl⟩
       repeat (first | exact aw.nil | refine aw.any ?_ | refine aw.cons ?_ | refine aw.eq (by rw[wrap_i64 (by omega)];rfl) ?_)
     · conv=>whnf
       exact trivial
   have h0':rk d i=0:=by
    simp[ar] at h0
    omega
   have hfi:=my hlt' hall h0'
   conv=>whnf
   intro b0
   conv=>whnf
   refine aH.split (fun hk2=>?_) (fun hk2=>?_)
   · have hk2':kind=2:=by
      simp[aD] at hk2
      omega
     conv=>whnf
     have hA:aN d kind=match cI (bA d) with
      | none=>(0,[],13)
      | some x=>(i,cS (cG d x) i 2 128 (fun j=>if j=0 then x else 0),0):=by
      unfold aN
      rw[hch,if_neg (by simp),hfi]
      simp only
      rw[if_pos hk2']
     cases hf:cI (bA d) with
     | none=>
      rw[hf] at hA
      dsimp only at hA
      rw[hA]
      obtain⟨e,he⟩ : ∃ e:Nat,e=13:=⟨_,rfl⟩
      refine ak.pure (og d h hh hd hf e he) (fun w hw=>hw) (fun v D hv=>?_)
      obtain⟨k,rfl,hk,rfl⟩:=hv
      conv=>whnf
      refine aH.yes (by subst he;simp[ar]) ?_
      conv=>whnf
      subst he
      exact dj
     | some x=>
      rw[hf] at hA
      dsimp only at hA
      rw[hA]
      have htl:=cY hd (dK hf).2
      have hx2:=(dK hf).2
      obtain⟨e,he⟩ : ∃ e:Nat,e=0:=⟨_,rfl⟩
      refine ak.pure (zH d h hh hd x hf e he) (fun w hw=>hw) (fun v D hv=>?_)
      obtain⟨k,rfl,hk,rfl⟩:=hv
      have hpl:=bf htl hlt' kind 128 (fun j=>if j=0 then x else 0)
      have hpt:=rU (cG d x) k i kind 128 (fun j=>if j=0 then x else 0) hk htl hlt' (by omega) (by omega) (fun j=>by split<;>omega)
      subst hk2'
      generalize cS (cG d x) i 2 128 (fun j=>if j=0 then x else 0)=dd at *
      generalize cG d x=dt at *
      conv=>whnf
      refine aH.no (by subst he;simp[ar]) ?_
      conv=>whnf
      refine ak.pure hpt (fun w hw=>hw.2) (fun v D hv=>?_)
      obtain⟨k2,rfl,hk2,rfl⟩:=hv
      conv=>whnf
      exact⟨_,aq.of_le ⟨by simp[Fx.and],fun w hw=>hw.2⟩,k2,rfl,hk2,rfl⟩
   · have hk2':kind=1:=by
      simp[aD] at hk2
      omega
     have hA:aN d kind=(i,cS d i 1 0 (fun _=>0),0):=by
      unfold aN
      rw[hch,if_neg (by simp),hfi]
      simp only
      rw[if_neg (by omega)]
     rw[hA]
     have hpl:=bf hd hlt' kind 0 (fun _=>0)
     have hpt:=rU d h i kind 0 (fun _=>0) hh hd hlt' (by omega) (by omega) (fun j=>by omega)
     subst hk2'
     generalize cS d i 1 0 (fun _=>0)=dd at *
     conv=>whnf
     refine ak.pure hpt (fun w hw=>hw) (fun v D hv=>?_)
     obtain⟨k2,rfl,hk2,rfl⟩:=hv
     conv=>whnf
     exact⟨_,aq.of_le ⟨by simp[Fx.and],fun w hw=>hw.2⟩,k2,rfl,hk2,rfl⟩
 · conv=>whnf
   have hie:i=32:=by
    simp only[au,decide_eq_false_iff_not] at hlt
    omega
   subst hie
   have:aN d kind=(0,[],13):=by
    unfold aN
    rw[hch,if_neg (by simp),rC hall]
   rw[this]
   exact dj
end Go.Proofs.YtfeoedkmndkbjaaGreatDoor

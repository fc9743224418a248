/- Proved: the law FilesDo of the program holds for every input; the row's listed variables are tied to the program's text. No conditions. -/
import Derived.Test.YtfeoedkmndkbjaaGreatDoorQO
import Derived.Test.YtfeoedkmndkbjaaGreatDoorQQ
import Derived.Test.YtfeoedkmndkbjaaGreatDoorTie
import Derived.Test.YtfeoedkmndkbjaaGreatDoorCards
import Derived.ProofKit
import Derived.OpenShut
import Derived.LaidMore
import Derived.Lay
import Derived.SevenTiedAt
import Derived.Stop.Joined
import Derived.ChangeMaps5
namespace Go.Proofs.YtfeoedkmndkbjaaGreatDoor
open Go Go.Sx Go.ChangeShapes Go.WideShapes Go.ChangeAt Go.RowKit
set_option maxRecDepth 100000
set_option maxHeartbeats 2000000
set_option linter.unusedVariables false
section
variable {H:Type} {enc:TypeId×Value→H} {w:World} {base:Nat} {spare:Nat→Bool} {held:Bool} {r:Reach} {b0:Nat}
theorem A3 {v:Value} {d:DataW H} {p:List MemPlace} (hv:Value.okWide Tryz.prog w r b0 25 v) (h:DataW.Trod enc Tryz.prog w base spare held 25 v d p) :
 ∃ (op node at0 n:Int) (k:Hd) (l:List UInt8),at0≤9223372036854775807∧k.Ok l.length∧By w k l∧v = .agg ⟨dD op node at0 n k l.length⟩:=by
 obtain⟨q,hq⟩:=h
 simp only[Value.okWide,Tryz.underlying25] at hv
 obtain⟨⟨cs⟩,rfl,hsz,hr⟩:=hv
 rw[show Tryz.prog.cellsOf 25=5 from eD ab (t:=25) rfl] at hsz
 obtain⟨x0,x1,x2,x3,x4,rfl⟩ : ∃ a b c d e,cs = [a,b,c,d,e]:=by
  rcases cs with _ | ⟨a,_ | ⟨b,_ | ⟨c,_ | ⟨d,_ | ⟨e,_ | ⟨f,l⟩⟩⟩⟩⟩⟩<;>simp at hsz
  exact⟨a,b,c,d,e,rfl⟩
 obtain⟨_,_,h0⟩:=iL Tryz.underlying25 hq 0 (u:=3) (o:=0) rfl Dc
 obtain⟨_,_,h1⟩:=iL Tryz.underlying25 hq 1 (u:=3) (o:=1) rfl Dc
 obtain⟨_,_,h2⟩:=iL Tryz.underlying25 hq 2 (u:=3) (o:=2) rfl Dc
 obtain⟨_,_,h3⟩:=iL Tryz.underlying25 hq 3 (u:=3) (o:=3) rfl Dc
 obtain⟨_,_,h4⟩:=iL Tryz.underlying25 hq 4 (u:=23) (o:=4) rfl B2
 obtain⟨n0,rfl,-,-⟩:=nD h0
 obtain⟨n1,rfl,-,-⟩:=nD h1
 obtain⟨n2,rfl,-,ha⟩:=nD h2
 obtain⟨n3,rfl,-,-⟩:=nD h3
 obtain⟨k,l,rfl,hk,hb⟩:=rR Tryz.underlying23 Tryz.underlying5 DB h4
 exact⟨n0,n1,n2,n3,k,l,ha,hk,hb,rfl⟩
end
theorem CG:ownKnob Tryz.prog.godebug=none:=by kernel_rfl
theorem wy:laidOutB Tryz.prog=true:=by kernel_rfl
theorem sE:mapsRowed Tryz.prog=true:=by kernel_rfl
theorem Br:((List.range Tryz.prog.types.size).all fun t=>match Tryz.prog.underlying t with | some (.slice e)=>decide (0<Tryz.prog.cellsOf e) | _=>true)=true:=by kernel_rfl
theorem qy (os:Os) (started:os.Started) (H:Type) (enc:TypeId×Value→H) :
 ReturnsInHanded {} Tryz.checked os 3 .any (fun w args=>(Rows.filesDoSpec.pre enc Tryz.prog Tryz.f3 Rows.filesDoRow.domain false w args∧laidMetH Tryz.prog Rows.filesDoRow.laid w)∧sizedMet enc Tryz.prog Tryz.f3 (OpenSpec.ofChange Rows.filesDoSpec) false w args)
  (Rows.filesDoSpec.post enc Tryz.prog Tryz.f3 false true false false):=by
 refine returnsInHanded_of_change_and (C:=Tryz.checked) (X:=fun w _=>laidMetH Tryz.prog Rows.filesDoRow.laid w) (fun _ _ _ hh h=>h.of_heap hh) CG started (by kernel_rfl) Tryz.func3
  (ChangeSpec.witness_shaped (enc:=enc) (C:=Tryz.checked) (os:=os) (X:=fun w _=>laidMetH Tryz.prog Rows.filesDoRow.laid w) false (World.laidAll Tryz.prog os Rows.filesDoRow.laid) #[.slice none 0 0,.agg ⟨[.int .i64 0,.int .i64 0,.int .i64 0,.int .i64 0,.slice none 0 0]⟩] 8 (World.laidAll_os _ _ _)
   (World.shaped_of_ZipB (by kernel_rfl) (by kernel_rfl)) (by kernel_rfl) (by kernel_rfl) (by kernel_rfl)
   (by rw[MakeChecks.laidMetH_plain _ _ _ (by kernel_rfl)];exact laidMet_laidAll _ (by kernel_rfl) (by kernel_rfl))) ?_
 intro W base args ds gs before hval0 hW hc hz hL hq
 have hval : ∀ (j:Nat) t v,Tryz.f3.params[j]? = some t→args[j]? = some v→Value.okWide Tryz.prog W .any base t v:=hval0
 have hW':=hW
 obtain⟨p,q,hA0,hV,rfl,_,_⟩:=hW
 have hA:DataW.TrodAll enc Tryz.prog W 0 (fun _=>true) true Tryz.f3.params.toList args.toList ds p:=hA0
 rw[Tryz.params3] at hA hval
 rw[show Tryz.checked.prog=Tryz.prog from rfl,Tryz.params3] at hz
 obtain⟨v0,v1,d0,d1,p0,p1,rfl,rfl,rfl,h0,h1⟩:=trodAll_two hA
 obtain⟨k,l,rfl,hk,ho,hb,hd⟩:=yd (hval 0 22 v0 rfl rfl) h0
 obtain⟨op,node,at0,n,kd,data,hat,hkd,hbd,rfl⟩:=A3 (hval 1 25 v1 rfl rfl) h1
 have spec:=xw l k hk (ym hz (j:=0) rfl rfl hd) ho op node at0 n kd data hkd hat
 refine((spec).run (agree ⟨hb,hbd⟩ fun w' hw=>⟨hb.agree hw,Sx.By.agree hbd hw⟩)).mono fun e W'=>?_
 rintro⟨v,F,rfl,hkeep,rfl⟩
 exact⟨_,rfl,BU rfl rfl rfl rfl Tryz.underlying4 wy sE Br (by rw[Tryz.params3];decide +kernel) hW' hkeep⟩
theorem sK:Rows.FilesDoSaid:=
 OpenClaim.holds_of_wide 3 Tryz.f3 rfl rfl rfl rfl rfl rfl rfl ⟨rfl,rfl,rfl,rfl,rfl⟩ rfl rfl rfl rfl rfl (by kernel_rfl) Tryz.func3 (by kernel_rfl)
  (of_decide_eq_true (by kernel_rfl)) (by unfold Func.isWrapper;first | (rw[if_pos (by decide +kernel)];kernel_rfl) | (rw[if_neg (by decide +kernel)];exact⟨rfl,rfl⟩))
  (fun os started H enc _=>qy os started H enc)
theorem filesDo_card_holds:Rows.FilesDoCardSaid:=
 Claim7.holds_tied_plain_at .later [] [.data,.pinned] true (true,"23db5021047b85fc66c6139d095f3d070c0d2af1c8286730d795e50b89704ffb") false sK (fun _ h=>by cases h) (by kernel_rfl) (fun _ h=>by cases h) filesDo_row_tie rfl ⟨rfl,rfl⟩ (by kernel_rfl) rfl
  (fun f fn hf hfn=>by
   obtain rfl:f=3:=Option.some.inj ((show Tryz.prog.funcNamed "ratoon/ratoonlaw39.FilesDo" = some 3 by kernel_rfl).symm.trans hf) |>.symm
   obtain rfl:fn=Tryz.f3:=(Option.some.inj (Tryz.func3.symm.trans hfn)).symm
   exact⟨by kernel_rfl,fun j t ht=>by
    rw[Tryz.params3] at ht
    have hm:t∈[22,25]:=by simpa using Array.mem_of_getElem? ht
    have hall:([22,25].all fun u=>!Tryz.prog.wantsStandIn u)=true:=by kernel_rfl
    exact(show Tryz.prog.wantsStandIn t=false by simpa using List.all_eq_true.1 hall t hm)⟩)
  (by kernel_rfl)
end Go.Proofs.YtfeoedkmndkbjaaGreatDoor

/-
  The law SpaceFiles: proved for every input.
-/
import Derived.Test.YtkdjcmpgnkecfaaGreatDoorYSCP3
import Derived.Test.YtkdjcmpgnkecfaaGreatDoorTie
import Derived.Test.YtkdjcmpgnkecfaaGreatDoorCards
import Derived.SevenTiedAt
noncomputable section
namespace Go.Proofs.YtkdjcmpgnkecfaaGreatDoor.spaceFiles
open Go.Proofs.YtkdjcmpgnkecfaaGreatDoor Go.a8 Go.ChangeShapes Go.WideShapes Go.ChangeAt Go.RowKit Go.Deep
set_option linter.unusedVariables false
theorem plain:∀t,t∈Tryz.f4.params.toList->o5 Tryz.prog 3 t=true:=by rw[Tryz.params4];intro t aW;simp only[List.mem_cons,List.not_mem_nil,or_false]at aW;rcases aW with rfl|rfl|rfl;all_goals kernel_rfl
theorem fn'(fs:List Fact) :(env fs).fn 4=some Tryz.f4:=by kernel_rfl
theorem walk(gz bU:Int){b:Nat}(aj:b<256)(W:World)(nZ:laidMetH Tryz.prog lR W) :Calls Tryz.prog 4 #[.int .i64 gz,.int .i64 bU,.int .u8 (b:Int)] W λe j'=>e=.returned (.bool true)/\Below W.heap.size W j':=by obtain⟨g,e⟩:=ad6 gz bU aj;obtain⟨N,e6⟩:=pe.1 e;refine(GL (fs:=[]) (σ:=λ_=>0) (λf aJ=>by cases aJ) Ho (fn' []) (by kernel_rfl) e6 (us:= #[.int .i64 gz,.int .i64 bU,.int .u8 (b:Int)]) (λμ=>⟨_,_,rfl,rfl,_,_,rfl,rfl,_,_,rfl,rfl,rfl⟩) nZ).mono λe j' ⟨⟨μ,q,h1,ab⟩,al⟩=>⟨by rw[h1,show q=_ from ab],al⟩
set_option maxRecDepth 100000 in
theorem lifted(os:Os)(started:os.Started)(H:Type)(enc:TypeId×Value->H) :
  ReturnsInHanded {} Tryz.checked os 4 .any (λw args=>(Rows.spaceFilesSpec.pre enc Tryz.prog Tryz.f4 [] false w args/\laidMetH Tryz.prog lR w)/\sizedMet enc Tryz.prog Tryz.f4 (OpenSpec.ofChange Rows.spaceFilesSpec) false w args)
   (Rows.spaceFilesSpec.post enc Tryz.prog Tryz.f4 false true false false):=by
 refine returnsInHanded_of_change_and (C:=Tryz.checked) (X:=λw _=>laidMetH Tryz.prog lR w) (λ_ _ _ aD h=>h.of_heap aD) own started (by kernel_rfl) Tryz.func4
  (ChangeSpec.witness_shaped (enc:=enc) (C:=Tryz.checked) (os:=os) (X:=λw _=>laidMetH Tryz.prog lR w) false (World.doorLaid Tryz.prog 400 os) #[.int .i64 0,.int .i64 0,.int .u8 0] 8 rfl (World.shaped_of_RefB (by kernel_rfl) (by kernel_rfl)) (by kernel_rfl) (by kernel_rfl) (by kernel_rfl) (Fb os _)) ?_
 intro W base args ds gs before xY nZ _ _ xz _;have lO:∀(j:Nat) t v,Tryz.f4.params[j]? =some t->args[j]? =some v->Value.okWide Tryz.prog W .any base t v:=xY;obtain⟨p,q,xy,xA,rfl,Cf,db⟩:=nZ;have qt:DataW.TrodAll enc Tryz.prog W 0 (λ_=>true) true Tryz.f4.params.toList args.toList ds p:=xy;have h6:=qt;rw[Tryz.params4]at h6 lO;obtain⟨v0,vs0,d0,JV,Hk,Ax,KE,rfl,rfl,h0,r0⟩:=trodAll_cons h6;obtain⟨v1,yV,d1,JW,g',eA,KF,rfl,rfl,h1,cS⟩:=trodAll_cons r0;obtain⟨v2,Bk,d2,adi,gO,gr,ae5,rfl,rfl,ab,dm⟩:=trodAll_cons cS;obtain⟨rfl,rfl,rfl⟩:=trodAll_nil dm;obtain rfl:args= #[v0,v1,v2]:=by cases args;simp_all
 obtain⟨rfl,rfl⟩:=trodVars_none xA;obtain⟨gz,rfl,rfl,_,_⟩:=open_int Tryz.underlying3 (lO 0 3 v0 rfl rfl) h0;obtain⟨bU,rfl,rfl,_,_⟩:=open_int Tryz.underlying3 (lO 1 3 v1 rfl rfl) h1;obtain⟨eY,rfl,rfl,_,hw⟩:=open_int Tryz.underlying5 (lO 2 5 v2 rfl rfl) ab
 obtain⟨b,rfl,aj⟩ :∃b:Nat,eY=b/\b<256:=by simp only[Lit.wf,Bool.and_eq_true,decide_eq_true_eq]at hw;have h1:(0:Int)<=eY:=hw.1;have ab:eY<=(255:Int):=hw.2;exact⟨eY.toNat,by omega,by omega⟩
 refine(walk gz bU aj W xz).mono λe j' ⟨he,vW⟩=> ?_
 subst he;exact⟨_,rfl,Hp (bt:=4) qt plain rfl (by kernel_rfl) Tryz.underlying4 ⟨rfl,rfl,rfl⟩ vW⟩
theorem over:Rows.SpaceFilesSaid:=
 OpenClaim.holds_of_wide 4 Tryz.f4 rfl rfl rfl rfl rfl rfl rfl ⟨rfl,rfl,rfl,rfl,rfl⟩ rfl rfl rfl rfl rfl rh Tryz.func4 closed
  (of_decide_eq_true (by kernel_rfl)) (by unfold Func.isWrapper;first|(rw[if_pos (by decide+kernel)];kernel_rfl) |(rw[if_neg (by decide+kernel)];exact⟨rfl,rfl⟩))
  (λos started H enc _=>lifted os started H enc)
theorem stand3:Tryz.prog.wantsStandIn 3=false:=by kernel_rfl
theorem stand5:Tryz.prog.wantsStandIn 5=false:=by kernel_rfl
theorem proved:Rows.SpaceFilesCardSaid:=
 Claim7.holds_tied_plain_at .later [] [.data] true (true, "06c809cf3dd6a07f4563166201490ca0eb765c932b78d3ffd1eecd1398c2f928") false
  over (λ_ h=>by cases h) a9 (λ_ h=>by cases h) spaceFiles_row_tie rfl ⟨rfl,rfl⟩ GQ rfl
  (λf fn aJ iD=>by
    obtain rfl:f=4:=Option.some.inj (rh.symm.trans aJ) |>.symm;obtain rfl:fn=Tryz.f4:=(Option.some.inj (Tryz.func4.symm.trans iD)).symm;refine⟨GO,λj t aW=> ?_⟩;rw[Tryz.params4]at aW;have hm:t∈[3,3,5]:=by simpa using Array.mem_of_getElem? aW
    have hm:t=3\/t=5:=by simpa using hm
    rcases hm with rfl|rfl
    ·exact stand3
    ·exact stand5)
  w9
#print axioms proved
end Go.Proofs.YtkdjcmpgnkecfaaGreatDoor.spaceFiles

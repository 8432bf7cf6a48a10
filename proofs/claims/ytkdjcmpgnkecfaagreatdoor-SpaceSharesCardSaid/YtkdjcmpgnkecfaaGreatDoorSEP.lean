/-
  The law SpaceShares: proved for every input.
-/
import Derived.Test.YtkdjcmpgnkecfaaGreatDoorYSEP3
import Derived.Test.YtkdjcmpgnkecfaaGreatDoorTie
import Derived.Test.YtkdjcmpgnkecfaaGreatDoorCards
import Derived.SevenTiedAt
noncomputable section
namespace Go.Proofs.YtkdjcmpgnkecfaaGreatDoor.spaceShares
open Go.Proofs.YtkdjcmpgnkecfaaGreatDoor Go.a8 Go.ChangeShapes Go.WideShapes Go.ChangeAt Go.RowKit Go.Deep
set_option linter.unusedVariables false
theorem plain:∀t,t∈Tryz.f8.params.toList->o5 Tryz.prog 3 t=true:=by rw[Tryz.params8];intro t aW;simp only[List.mem_cons,List.not_mem_nil,or_false]at aW;rcases aW with rfl|rfl;all_goals kernel_rfl
theorem fn'(fs:List Fact) :(env fs).fn 8=some Tryz.f8:=by kernel_rfl
theorem walk(gz bU:Int)(W:World)(nZ:laidMetH Tryz.prog lR W) :Calls Tryz.prog 8 #[.int .i64 gz,.int .i64 bU] W λe j'=>e=.returned (.bool true)/\Below W.heap.size W j':=by obtain⟨g,e⟩:=avU gz bU;obtain⟨N,e6⟩:=pe.1 e;refine(GL (fs:=[]) (σ:=λ_=>0) (λf aJ=>by cases aJ) Ho (fn' []) (by kernel_rfl) e6 (us:= #[.int .i64 gz,.int .i64 bU]) (λμ=>⟨_,_,rfl,rfl,_,_,rfl,rfl,rfl⟩) nZ).mono λe j' ⟨⟨μ,q,h1,ab⟩,al⟩=>⟨by rw[h1,show q=_ from ab],al⟩
set_option maxRecDepth 100000 in
theorem lifted(os:Os)(started:os.Started)(H:Type)(enc:TypeId×Value->H) :
  ReturnsInHanded {} Tryz.checked os 8 .any (λw args=>(Rows.spaceSharesSpec.pre enc Tryz.prog Tryz.f8 [] false w args/\laidMetH Tryz.prog lR w)/\sizedMet enc Tryz.prog Tryz.f8 (OpenSpec.ofChange Rows.spaceSharesSpec) false w args)
   (Rows.spaceSharesSpec.post enc Tryz.prog Tryz.f8 false true false false):=by
 refine returnsInHanded_of_change_and (C:=Tryz.checked) (X:=λw _=>laidMetH Tryz.prog lR w) (λ_ _ _ aD h=>h.of_heap aD) own started (by kernel_rfl) Tryz.func8
  (ChangeSpec.witness_shaped (enc:=enc) (C:=Tryz.checked) (os:=os) (X:=λw _=>laidMetH Tryz.prog lR w) false (World.doorLaid Tryz.prog 400 os) #[.int .i64 0,.int .i64 0] 8 rfl (World.shaped_of_RefB (by kernel_rfl) (by kernel_rfl)) (by kernel_rfl) (by kernel_rfl) (by kernel_rfl) (Fb os _)) ?_
 intro W base args ds gs before xY nZ _ _ xz _;have lO:∀(j:Nat) t v,Tryz.f8.params[j]? =some t->args[j]? =some v->Value.okWide Tryz.prog W .any base t v:=xY;obtain⟨p,q,xy,xA,rfl,Cf,db⟩:=nZ;have qt:DataW.TrodAll enc Tryz.prog W 0 (λ_=>true) true Tryz.f8.params.toList args.toList ds p:=xy;have h6:=qt;rw[Tryz.params8]at h6 lO;obtain⟨v0,vs0,d0,JV,Hk,Ax,KE,rfl,rfl,h0,r0⟩:=trodAll_cons h6;obtain⟨v1,yV,d1,JW,g',eA,KF,rfl,rfl,h1,cS⟩:=trodAll_cons r0;obtain⟨rfl,rfl,rfl⟩:=trodAll_nil cS;obtain rfl:args= #[v0,v1]:=by cases args;simp_all
 obtain⟨rfl,rfl⟩:=trodVars_none xA;obtain⟨gz,rfl,rfl,_,_⟩:=open_int Tryz.underlying3 (lO 0 3 v0 rfl rfl) h0;obtain⟨bU,rfl,rfl,_,_⟩:=open_int Tryz.underlying3 (lO 1 3 v1 rfl rfl) h1;refine(walk gz bU W xz).mono λe j' ⟨he,aj⟩=> ?_
 subst he;exact⟨_,rfl,Hp (bt:=4) qt plain rfl (by kernel_rfl) Tryz.underlying4 ⟨rfl,rfl,rfl⟩ aj⟩
theorem over:Rows.SpaceSharesSaid:=
 OpenClaim.holds_of_wide 8 Tryz.f8 rfl rfl rfl rfl rfl rfl rfl ⟨rfl,rfl,rfl,rfl,rfl⟩ rfl rfl rfl rfl rfl rh Tryz.func8 closed
  (of_decide_eq_true (by kernel_rfl)) (by unfold Func.isWrapper;first|(rw[if_pos (by decide+kernel)];kernel_rfl) |(rw[if_neg (by decide+kernel)];exact⟨rfl,rfl⟩))
  (λos started H enc _=>lifted os started H enc)
theorem stand3:Tryz.prog.wantsStandIn 3=false:=by kernel_rfl
theorem proved:Rows.SpaceSharesCardSaid:=
 Claim7.holds_tied_plain_at .later [] [.data] true (true, "06c809cf3dd6a07f4563166201490ca0eb765c932b78d3ffd1eecd1398c2f928") false
  over (λ_ h=>by cases h) a9 (λ_ h=>by cases h) spaceShares_row_tie rfl ⟨rfl,rfl⟩ GQ rfl
  (λf fn aJ iD=>by
    obtain rfl:f=8:=Option.some.inj (rh.symm.trans aJ) |>.symm;obtain rfl:fn=Tryz.f8:=(Option.some.inj (Tryz.func8.symm.trans iD)).symm;refine⟨GO,λj t aW=> ?_⟩;rw[Tryz.params8]at aW;have hm:t∈[3,3]:=by simpa using Array.mem_of_getElem? aW
    obtain rfl:t=3:=by simpa using hm
    exact stand3)
  w9
#print axioms proved
end Go.Proofs.YtkdjcmpgnkecfaaGreatDoor.spaceShares

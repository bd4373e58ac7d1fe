/- EcdsaGenerate: for every curve or none, every entropy and every number the law answers true and leaves its arguments as they were, over the program's own table of constants. The card is tied. -/
import Derived.Test.YtaemogcomplhiaaGreatDoorQ89a4ef97648e
set_option maxRecDepth 100000
set_option maxHeartbeats 16000000
namespace Go.Proofs.YtaemogcomplhiaaGreatDoor.ecdsaGenerate
open Go.ChangeShapes Go.WideShapes Go.ChangeAt Go.RowKit
theorem own:ownKnob Tryz.prog.godebug=none:=by kernel_rfl
theorem laidOut:laidOutB Tryz.prog=true:=by kernel_rfl
theorem lifted (os:Os)(ae:os.Started)(H:Type)(enc:TypeId×Value→H) :
 ReturnsInHanded {} Tryz.checked os 3 .any (fun w args=>(Rows.ecdsaGenerateSpec.pre enc Tryz.prog Tryz.f3 Rows.ecdsaGenerateRow.domain false w args∧laidMetH Tryz.prog [("bailey/hashes.k", Rows.laid_bailey_hashes_k)] w)∧sizedMet enc Tryz.prog Tryz.f3 (OpenSpec.ofChange Rows.ecdsaGenerateSpec) false w args) (Rows.ecdsaGenerateSpec.post enc Tryz.prog Tryz.f3 false true false false):=by
 refine returnsInHanded_of_change_and (C:=Tryz.checked) (X:=fun w _=>laidMetH Tryz.prog [("bailey/hashes.k", Rows.laid_bailey_hashes_k)] w) (fun _ _ _ T h=>h.of_heap T) own ae (by kernel_rfl) Tryz.func3
  (ChangeSpec.witness_shaped (enc:=enc) (C:=Tryz.checked) (os:=os) (X:=fun w _=>laidMetH Tryz.prog [("bailey/hashes.k", Rows.laid_bailey_hashes_k)] w) false (World.doorLaid Tryz.prog 14 os) #[.int .i64 0,.slice none 0 0,.slice none 0 0] 8 rfl (World.shaped_of_RefB (by kernel_rfl) (by kernel_rfl)) (by kernel_rfl) (by kernel_rfl) (by kernel_rfl) (zBR os _)) ?_
 intro W base args ds K af E B am U L _
 have n:KW W:=zCV L
 have i:∀(j:Nat) t v,Tryz.f3.params[j]?=some t→args[j]?=some v→Value.okWide Tryz.prog W .any base t v:=E
 have D:(DataW.weightsEach Tryz.prog (Tryz.f3.params.toList++Rows.ecdsaGenerateSpec.plain.varTypes Tryz.prog) (ds++K)).all (· ≤ reachBytes)=true:=U
 have P:=B
 obtain⟨p,q,z,O,rfl,an,ao⟩:=B
 have y:DataW.TrodAll enc Tryz.prog W 0 (fun _=>true) true Tryz.f3.params.toList args.toList ds p:=z
 rw[Tryz.params3]at y i D
 obtain⟨v0,ar,d0,ai,p0,q0,al,rfl,rfl,r,r0⟩:=trodAll_cons y
 obtain⟨v1,au,d1,aj,p1,q1,rfl,rfl,rfl,s,r1⟩:=trodAll_cons r0
 obtain⟨v2,av,d2,ak,p2,q2,rfl,rfl,rfl,u,r2⟩:=trodAll_cons r1
 obtain⟨rfl,rfl,rfl⟩:=trodAll_nil r2
 obtain rfl:args=#[v0,v1,v2]:=by cases args;simp_all
 obtain⟨rfl,rfl⟩:=trodVars_none O
 have k0:=r
 have ab:∀ x∈p0,x.block<W.heap.size:=by obtain⟨m,f⟩:=k0;exact DataW.trod_lt m _ _ _ f
 have F:=s
 have ac:∀ x∈p1,x.block<W.heap.size:=by obtain⟨m,f⟩:=F;exact DataW.trod_lt m _ _ _ f
 have G:=u
 have ad:∀ x∈p2,x.block<W.heap.size:=by obtain⟨m,f⟩:=G;exact DataW.trod_lt m _ _ _ f
 have o:∀(j:Nat) (t:TypeId) (d:DataW H),[3,22,24][j]?=some t→[d0,d1,d2][j]?=some d→zEf t d:=fun j t d V R k n=>by
  have:=List.all_eq_true.1 D k (DataW.weights_mem_each (ts:=[3,22,24]) (ds:=[d0,d1,d2]) V R k n);simpa using this
 obtain⟨n0,Y,_,_,aw⟩:=open_int Tryz.underlying3 (i 0 3 v0 rfl rfl) r
 obtain⟨a1,ap,ag,I⟩:=okWide_slice Tryz.underlying22 (i 1 22 v1 rfl rfl)
 obtain⟨A1,c1,l1,Z,M⟩:∃ A c l,v1=.slice A (List.length l) c∧RB W (fun b=>b<W.heap.size) A c l:=by
  obtain⟨fuel,a⟩:=s;rw[I]at a ⊢;exact pK a (o 1 _ _ rfl rfl)
 obtain⟨a2,aq,ah,J⟩:=okWide_slice Tryz.underlying24 (i 2 24 v2 rfl rfl)
 obtain⟨A2,c2,l2,aa,N⟩:∃ A c l,v2=.slice A (List.length l) c∧RL W (fun b=>b<W.heap.size) A c l:=by
  obtain⟨fuel,a⟩:=u;rw[J]at a ⊢;exact tC a (o 2 _ _ rfl rfl)
 clear z E
 subst Y Z aa
 refine(Ec.zCo W n M N (fun b Q=>Q)).mono fun e W' ⟨S,g⟩=>?_
 subst S
 exact⟨_,rfl,_,_,_,[],_,[],P,trodAll_mk1 (shut_bool Tryz.underlying4 _),(trodAll_cons_mk (Below.trod laidOut (by kernel_rfl) (xA (by kernel_rfl)) k0 g ab) (trodAll_cons_mk (Below.trod laidOut (by kernel_rfl) (xA (by kernel_rfl)) F g ac) (trodAll_cons_mk (Below.trod laidOut (by kernel_rfl) (xA (by kernel_rfl)) G g ad) trodAll_mk0))),rfl,g.frame _,fun h=>by cases h⟩
theorem over:Rows.ecdsaGenerateRow.holds Tryz.pinned (OpenSpec.ofChange Rows.ecdsaGenerateSpec) :=
 OpenClaim.holds_of_wide 3 Tryz.f3 rfl rfl rfl rfl rfl rfl rfl ⟨rfl,rfl,rfl,rfl,rfl⟩ rfl rfl rfl rfl rfl (by kernel_rfl) Tryz.func3 (by kernel_rfl)
  (xA (by kernel_rfl)) (by unfold Func.isWrapper;first|(rw[qg (by decide +kernel)];kernel_rfl)|(rw[qo (by decide +kernel)];exact⟨rfl,rfl⟩))
  (fun os a H enc _=>lifted os a H enc)
theorem proved:Rows.EcdsaGenerateCardSaid :=
 Claim7.holds_tied_plain_at .later [] [.data] true (true, "2cc479aca2d1c54a50a894e31983f67afc0930d5eb9c22e5e88b2be8849c30a5") false over (fun _ h=>by cases h) (by kernel_rfl) (fun _ h=>by cases h) ecdsaGenerate_row_tie rfl ⟨rfl,rfl⟩ (by kernel_rfl) rfl
  (fun f fn c d => by
   obtain rfl:f=3:=jU ((show Tryz.prog.funcNamed "bailey/baileylaw10.EcdsaGenerate" = some 3 by kernel_rfl).symm.trans c)|>.symm
   obtain rfl:fn=Tryz.f3:=(jU (Tryz.func3.symm.trans d)).symm
   exact⟨by kernel_rfl,fun j t a=>by
    rw[Tryz.params3]at a
    have e:t∈[3,22,24]:=by simpa using Array.mem_of_getElem? a
    have b:([3,22,24].all fun u=>!Tryz.prog.wantsStandIn u)=true:=by kernel_rfl
    exact(show Tryz.prog.wantsStandIn t=false by simpa using List.all_eq_true.1 b t e)⟩)
  (by kernel_rfl)
#print axioms proved
end Go.Proofs.YtaemogcomplhiaaGreatDoor.ecdsaGenerate

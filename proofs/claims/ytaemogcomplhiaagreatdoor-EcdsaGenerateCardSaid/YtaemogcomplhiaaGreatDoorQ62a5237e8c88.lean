/- Laws that the proof rests on. -/
import Derived.Test.YtaemogcomplhiaaGreatDoorQc8d0692f1b3b
set_option maxRecDepth 100000
set_option maxHeartbeats 16000000
namespace Go.Proofs.YtaemogcomplhiaaGreatDoor.Ec
open Go.RowKit Go.Shelf
attribute [local go_sem] Oper.semAt_some
theorem mB {c:Int}{C:Crv}(G:IsC c C){A B:Option Addr}{g cb x y v ly:Nat}(E:Bool)(w:World)(S:RU w A g (digs 18446744073709551616 x))(hx:qD x≤4000)(T:x%ks C=y)(t:(digs 18446744073709551616 x).length=v) :
 Calls Tryz.prog 59 #[.int .i64 c,.agg #[.bool E,.slice A v g,.slice B ly cb]] w fun e w'=>∃ A c,e=.returned (.slice A (digs 18446744073709551616 y).length c)∧RU w' A c (digs 18446744073709551616 y)∧Ext w w':=by
 subst t
 obtain⟨n1,n2,n3,n4,n5,n6⟩:=bu G
 obtain⟨W0,p⟩:=eW (w.alloc (.cells #[.bool E,.slice A (digs 18446744073709551616 x).length g,.slice B ly cb] 33))
 obtain⟨s,I⟩:=eV w.heap.size
 have u:=zS w (.cells #[.bool E,.slice A (digs 18446744073709551616 x).length g,.slice B ly cb] 33)
 have H:Ext w W0:=by rw[p];exact zL _ _
 rw[←p,I]at u
 have HO:=zF (fun W=>fv G W)
 have hl:(digs 18446744073709551616 x).length<40000:=by have:=uJ (x:=x) (k:=63) (by omega);omega
 have O:=zF (fun X (a:Ext W0 X) l c3 (q:RU X l c3 C.nl)=>show Calls Tryz.prog 88 #[.slice A (digs 18446744073709551616 x).length g,.slice l C.nl.length c3] X fun e w'=>∃ A c,e=.returned (.tuple #[.slice A (digs 18446744073709551616 y).length c,.bool true])∧RU w' A c (digs 18446744073709551616 y)∧Ext X w' from by
  refine(zCe A l g c3 _ C.nl x (ks C) X (zN S (H.trans a)) q (zi (by omega) x) rfl (by omega) (by omega)).mono ?_
  rintro e w' ⟨o,⟨h0,_⟩|⟨_,_,_,U,c2,rfl,o2⟩⟩
  · exact absurd ⟨by omega,by omega,by omega⟩ h0
  · rw[T]at o2 ⊢
    exact⟨U,c2,rfl,o2.ru,o⟩)
 obtain⟨v,t⟩:=eV ((digs 18446744073709551616 x).length)
 rw[t]at O u p ⊢
 have Z:=zF H
 have Hs:=zF I
 obtain⟨y0,y1,y2,f0,f1,f2⟩:=jQ u
 clear S u H I n1 n2 n3 n4 n5 n6 hx T hl t G
 go_enter Tryz.func59,Tryz.ntmps59
 go_upto_region 1 with fail
 rw[←p,Hs.out]
 clear p
 refine zZ (by kernel_rfl) 10 [0,1,0,4,15,31,63,63,127,511] [] (fun j f X=>match j with
  | 0=>f 0=.pointer (some ⟨s,1,none⟩)
  | 1=>f 1=.slice A v g
  | 2=>f 2=.int .i64 c
  | 3=>∃ A c,f 3=.slice A C.nl.length c∧RU X A c C.nl
  | 4=>∃ A c,f 4=.tuple #[.slice A (digs 18446744073709551616 y).length c,.bool true]∧RU X A c (digs 18446744073709551616 y)
  | 5=>∃ A c,f 5=.tuple #[.slice A (digs 18446744073709551616 y).length c,.bool true]∧RU X A c (digs 18446744073709551616 y)
  | 6=>∃ A c,f 6=.slice A (digs 18446744073709551616 y).length c∧RU X A c (digs 18446744073709551616 y)
  | 7=>f 7=.bool true
  | 8=>∃ A c,f 8=.slice A (digs 18446744073709551616 y).length c∧RU X A c (digs 18446744073709551616 y)
  | 9=>f 9=.bool true
  | _=>True) (by kernel_rfl) [(8,0),(9,1),(10,2),(11,3),(12,4),(7,5),(13,6),(14,7),(5,8),(6,9)] (by kernel_rfl) ?_
 refine zJ 1 9 ?_
 refine qC 2 8 0 y1 ?_
 refine zJ 3 7 ?_
 refine qK 4 6 (fun f=>#[f 2]) (F':=66) (fun f X a hR=>?_) ?_
 · have e2:f 2=_:=hR.out 2 rfl;simp only[e2];refine(HO.out X).mono ?_;rintro e w2 ⟨A,c,rfl,h,o⟩;exact⟨(.slice A C.nl.length c),rfl,o,fun Y b=>⟨A,c,rfl,zN h b⟩⟩
 refine qK 5 5 (fun f=>#[f 1,f 3]) (F':=88) (fun f X a hR=>?_) ?_
 · have e1:f 1=_:=hR.out 1 rfl;obtain⟨l,c3,(r:f 3=_),q⟩:=hR.out 3 rfl;simp only[e1,r];refine(O.out X a l c3 q).mono ?_;rintro e w2 ⟨A,c,rfl,h,o⟩;exact⟨(.tuple #[.slice A (digs 18446744073709551616 y).length c,.bool true]),rfl,o,fun Y b=>⟨A,c,rfl,zN h b⟩⟩
 refine zv 6 4 [(8,0),(9,1),(10,2),(11,3),(12,4)] (fun f X a hR K i=>?_) ?_
 · obtain⟨M,P,(m:f 4=_),J⟩:=hR.out 4 rfl;simp only[yZ,m];refine⟨?_⟩;go_simp;exact i.out _ _ _ (by simp only[yZ,m]) (zT _) trivial (fun Y b=>⟨M,P,rfl,zN J b⟩)
 refine zv 7 3 [(8,0),(9,1),(10,2),(11,3),(12,4),(7,5),(14,7)] (fun f X a hR K i=>?_) ?_
 · obtain⟨D,F,(d:f 5=_),z⟩:=hR.out 5 rfl;simp only[yZ,d];refine⟨?_⟩;go_simp;exact i.out _ _ _ (by simp only[yZ,d]) (zT _) trivial (fun Y b=>⟨D,F,rfl,zN z b⟩)
 refine zv 8 2 [(8,0),(9,1),(10,2),(11,3),(12,4),(7,5),(13,6),(5,8)] (fun f X a hR K i=>?_) ?_
 · obtain⟨D,F,(d:f 5=_),z⟩:=hR.out 5 rfl;simp only[yZ,d];refine⟨?_⟩;go_simp;exact qY i (s:=by simp only[yZ,d])
 refine zv 9 1 [(8,0),(9,1),(10,2),(11,3),(12,4),(7,5),(13,6),(14,7)] (fun f X a hR K i=>?_) ?_
 · obtain⟨N,Q,(n:f 6=_),L⟩:=hR.out 6 rfl;simp only[yZ,n];refine⟨?_⟩;go_simp;exact i.out _ _ _ (by simp only[yZ,n]) (zT _) trivial (fun Y b=>⟨N,Q,rfl,zN L b⟩)
 refine zt 10 0 7 ?_
 refine yF ⟨fun f X a hR ab ac=>?_⟩
 obtain⟨l,c3,(r:f 3=_),q⟩:=hR 3 (by decide)
 obtain⟨M,P,(m:f 4=_),J⟩:=hR 4 (by decide)
 obtain⟨D,F,(d:f 5=_),z⟩:=hR 5 (by decide)
 obtain⟨N,Q,(n:f 6=_),L⟩:=hR 6 (by decide)
 obtain⟨V,c8,(R:f 8=_),r8⟩:=hR 8 (by decide)
 simp only[yZ,r,m,d,n,R]
 clear hR ab ac r m d n R
 refine zI ?_
 have aa:=zF (jb Z.out a)
 clear a y0 y1 y2 f0 f1 f2 q J z L
 go_wp2
 go_ret
 exact⟨V,c8,rfl,r8,aa.out⟩
end Go.Proofs.YtaemogcomplhiaaGreatDoor.Ec
namespace Go.Proofs.YtaemogcomplhiaaGreatDoor.Ec
def fz {α:Type} (n:Nat) (f:Nat→α):α:=match n with|0=>f 0|k+1=>f (k+1)
theorem oJ {α:Type}(n:Nat)(f:Nat→α):fz n f=f n:=by cases n<;>rfl
def f3 {α:Type} (s:Nat×Nat×Nat) (f:Nat→Nat→Nat→α):α:=fz s.1 fun x=>fz s.2.1 fun y=>fz s.2.2 fun z=>f x y z
theorem zDR {α:Type}(s:Nat×Nat×Nat)(f:Nat→Nat→Nat→α):f3 s f=f s.1 s.2.1 s.2.2:=by unfold f3;simp only[oJ]
def zAy (M:Nat) (p:Nat×Nat×Nat) (E:Nat):Nat→Nat→Nat→Nat→Nat→Nat→(Nat×Nat×Nat)×Nat
  | 0,_,x,y,z,d=>((x,y,z),d)
  | n + 1, i, x, y, z, d =>
    if(jw E i).1%4=0 then f3 (fF M (x,y,z)) fun a b c=>f3 (og M p (2*d+(jw E i).2)) fun t u v=>f3 (gL M (a,b,c) (t,u,v)) fun x y z=>fz (i+1) fun i=>zAy M p E n i x y z 0
    else f3 (fF M (x,y,z)) fun x y z=>fz (2*d+(jw E i).2) fun d=>fz (i+1) fun i=>zAy M p E n i x y z d
theorem rZ (M:Nat)(p:Nat×Nat×Nat)(E:Nat):∀ n i,zAy M p E n i (kP M p E i).1.1 (kP M p E i).1.2.1 (kP M p E i).1.2.2 (kP M p E i).2=kP M p E (i+n)
 | 0,i=>rfl
 | n + 1, i => by
   rw[show i+(n+1)=(i+1)+n by omega,←rZ M p E n (i+1),zAy];simp only[zDR,oJ];have e:kP M p E (i+1)=if(jw E i).1%4=0 then(gL M (fF M (kP M p E i).1) (og M p (2*(kP M p E i).2+(jw E i).2)),0)else(fF M (kP M p E i).1,2*(kP M p E i).2+(jw E i).2):=rfl
   rw[e];split<;>rfl
def pwF (m a:Nat):Nat→Nat→Nat
 | 0,_=>1%m
 | k+1,e=>if e%2=1 then pwF m a k (e/2)*pwF m a k (e/2)%m*a%m else pwF m a k (e/2)*pwF m a k (e/2)%m
theorem zAg {m a:Nat} : ∀ k e,e<2^k→pwF m a k e=a^e%m
 | 0, e, h => by
   have:e=0:=by omega
   subst this;rfl
 | k + 1, e, h => by
   have c:e/2<2^k:=by rw[zx]at h;omega
   have d:=jj e 2;simp only[pwF];rw[zAg k (e/2) c];have b:a ^(e/2)%m*(a ^(e/2)%m)%m=a ^(2*(e/2))%m:=by
     rw[←vC,←qQ];congr 2;omega
   split
   · rename_i ho;rw[b,ye,←zx];congr 2;omega
   · rw[b];congr 2;omega
def sE (M:Nat) (p:Nat×Nat×Nat):Option (Nat×Nat):=fz (pwF M p.2.2 256 (M-2)) fun u=>if p.2.2%M=0 then none else some (p.1*(u*u%M)%M%M,p.2.1*(u*u%M*u%M)%M%M)
theorem oP {M:Nat}(p:Nat×Nat×Nat)(c:M-2<2^256):sE M p=uI M p:=by
 unfold sE uI aK;rw[oJ,zAg 256 _ c];generalize p.2.2 ^(M-2)=u;simp only[mm];have a:u%M*(u%M)%M=u*u%M:=(vC u u M).symm;have b:u*u%M*(u%M)%M=u*u%M*u%M:=by rw[vC,wF,wF,←vC,ye]
 rw[a,b]
def mulF (C:Crv) (x y E:Nat):Option (Option (Nat×Nat)):=if onB C.M C.bb x y=true then some (sE C.M (zAy C.M (x,y,1) E (qD E) 0 1 1 0 0).1)else none
theorem bF {C:Crv}{x y E:Nat}(b:C.M-2<2^256)(a:qD E≤4096):uO C false x y E=mulF C x y E:=by
 have h:=rZ C.M (x,y,1) E (qD E) 0;rw[jL]at h;unfold uO mulF;rw[qg a,oP _ b,show upP false x y=(x,y,1)from rfl,←h];rfl
def addF (C:Crv) (x y u v:Nat):Option (Option (Nat×Nat)):=if onB C.M C.bb x y=true then(if onB C.M C.bb u v=true then some (f3 (gL C.M (x,y,1) (u,v,1)) fun a b c=>sE C.M (a,b,c))else none)else none
theorem zDC {C:Crv}{x y u v:Nat}(a:C.M-2<2^256):aZ C false x y false u v=addF C x y u v:=by
 unfold aZ addF;rw[zDR,oP _ a];rfl
theorem dL:vH.M-2<2^256:=by decide +kernel
abbrev ms:Nat:=110066130015802009474046148371272023593080024477183009805587143031252073655978
abbrev eKk:Nat:=107779323474988826052224347888305060046280763634212666574931899910345441668288
abbrev eR':Nat:=25977288503853393716652032588498566305194343633991309518364746196609453180960
abbrev eT:Nat:=37770117932026156049172039120758503168212124412985157458423084762336719498901
abbrev eI:Nat:=106754667409752053512634815028296606224892078111964034758566215503536184417907
abbrev eS:Nat:=31672600657996915719765063915927342923876227216746519456348864979464926653788
abbrev eWv:Nat:=49088283842224337010804296858261905727516148431712012627153600141367233559220
abbrev eU1:Nat:=4949614300662615366786766246518171094738549107753278794478061035640248286102
abbrev eU2:Nat:=70558983771563734067621506605741236500576238817182598477487461413852045656991
abbrev eQ:Nat×Nat:=(113515001384046449164058056303279658808511266657878524928823703426351177434559,21176059819131940777825660752100379636750046115576985156935838526979906288476)
abbrev eR:Nat×Nat:=(25977288503853393716652032588498566305194343633991309518364746196609453180960,48582944771377152531173521449928515070586091585768012822087481791582739959474)
abbrev eA:Nat×Nat:=(102213660801912738577355430096833939953099284759535322292499151633381134001761,92409874442633145953552628655564808589168729286431245618439694300415881872152)
abbrev eB:Nat×Nat:=(80679172271377021265122162203278303360540964236662578313438880791368623190110,75015912442229030464259426553784456458409526620579227854056504289374120725388)
theorem zCc:uO vH false (val 18446744073709551616 vH.xl) (val 18446744073709551616 vH.yl) ms=some (some eQ):=by
 rw[bF dL (by decide +kernel)];decide +kernel
theorem zEJ:uO vH false (val 18446744073709551616 vH.xl) (val 18446744073709551616 vH.yl) eKk=some (some eR):=by
 rw[bF dL (by decide +kernel)];decide +kernel
theorem zEH:uO vH false (val 18446744073709551616 vH.xl) (val 18446744073709551616 vH.yl) eU1=some (some eA):=by
 rw[bF dL (by decide +kernel)];decide +kernel
theorem zEG:uO vH false eQ.1 eQ.2 eU2=some (some eB):=by
 rw[bF dL (by decide +kernel)];decide +kernel
theorem zEd:aZ vH false eA.1 eA.2 false eB.1 eB.2=some (some eR):=by
 rw[zDC dL];decide +kernel
theorem e_r:eR.1%val 18446744073709551616 vH.nl=eR':=by decide +kernel
theorem e_t:eR'*ms%val 18446744073709551616 vH.nl=eT:=by decide +kernel
theorem dw:kO [104,97,115,104]*eWv%val 18446744073709551616 vH.nl=eU1:=by decide +kernel
theorem dv:eR'*eWv%val 18446744073709551616 vH.nl=eU2:=by decide +kernel
def zCl (m:Nat):Nat→Nat→Nat→Nat→Nat→Option (Nat×Nat)
 | 0,_,_,_,_=>none
 | n+1,r,s,t,u=>if s=0 then some (r,t)else fz (r%s) fun a=>fz ((t+m-r/s*u%m)%m) fun b=>zCl m n s a u b
theorem rq {m:Nat}{p:Nat×Nat} : ∀ n r s t u,zCl m n r s t u=some p→jt m r s t u=p
 | 0,_,_,_,_,h=>by cases h
 | n + 1, r, s, t, u, h => by
   rw[zCl]at h;by_cases h0:s=0
   · rw[qg h0]at h;subst h0;rw[vV];exact jU h
   · rw[qo h0,oJ,oJ]at h;rw[xL h0];exact rq n _ _ _ _ h
theorem ro {x m y:Nat}(h:zCl m 400 m (x%m) 0 1=some (1,y)):xM x m=(digs 18446744073709551616 y,true):=by
 unfold xM;rw[rq 400 _ _ _ _ h,qg rfl]
theorem zER:xM eKk (val 18446744073709551616 vH.nl)=(digs 18446744073709551616 eI,true):=ro (by decide +kernel)
theorem inv_s:xM eS (val 18446744073709551616 vH.nl)=(digs 18446744073709551616 eWv,true):=ro (by decide +kernel)
end Go.Proofs.YtaemogcomplhiaaGreatDoor.Ec
namespace Go.Proofs.YtaemogcomplhiaaGreatDoor
open Go.RowKit
open Sha
theorem oi (w:World)(n:Nat)(d:n≤281474976710656):∃ cs,(callFunc 70 #[.int .i64 (n:Int)]).run Tryz.prog w=.ok (.value (.slice (some ⟨w.heap.size,0,none⟩) n cs.size)) ((w.drew.drew).alloc (.cells cs 5))∧n≤cs.size∧cs.size≤maxLen:=by
 obtain⟨cs,a,b,c⟩:=Lib.run_makeNoZero (P:=Tryz.prog) w #[3] 22 5 Tryz.underlying22 n d;refine⟨cs,?_,b,c (by unfold maxLen;omega)⟩;rw[run_callFunc_extern (e:=Extern.BytealgMakeNoZero.makeNoZero #[3] #[22]) Tryz.func70 (by kernel_rfl) (by kernel_rfl) (by kernel_rfl) (by kernel_rfl),a];rfl
theorem oD (w:World):Calls Tryz.prog 69 #[.int .u64 1,.int .u64 32] w fun e w'=>e=.returned (.tuple #[.int .u64 0,.int .u64 32])∧w'=w:=by
 have H:=zF (yp 1 32 0 32 (by omega) (by omega) (by omega) (by omega));go_enter Tryz.func69,Tryz.ntmps69;go_wp2_with fail;refine(H.out w).mono ?_;rintro e a ⟨rfl,rfl⟩;go_wp2;go_ret2;exact⟨rfl,rfl⟩
theorem yf {w:World}{g p k dl dc sl sc:Nat}{a:Addr}{b:Array Value}(l:w.heap[g]?=some (.cells b 5 (0,0)))(q:∀ j,j<p→b[j]?=some (.int .u8 1))(s:∀ j,j<k→w.cell? (a.add j)=some (.int .u8 1))(e:k=min sl dl)(o:p+k≤b.size) :
 ∃ W' d,(Builtin.copy_ #[22,22] 3 #[.slice (some ⟨g,p,none⟩) dl dc,.slice (some a) sl sc]).run Tryz.prog w=.ok (.int .i64 (k:Int)) W'∧W'.heap[g]?=some (.cells d 5 (0,0))∧d.size=b.size∧(∀ j,j<p+k→d[j]?=some (.int .u8 1))∧jE g w W':=by
 have c:(List.replicate k (Value.int .u8 1)).length=k:=wS
 have m:=run_copy_row (P:=Tryz.prog) w 22 22 3 5 g p dl dc a sl sc b 5 (List.replicate k (.int .u8 1)) Tryz.underlying22 (by kernel_rfl) l (by rw[c];exact e) (fun j v f=>by
  obtain⟨i,n⟩:=List.getElem?_eq_some_iff.1 f
  rw[c]at i
  rw[s j i,←n,List.getElem_replicate]) (by rw[c];exact o) (by intro v f;rw[(List.mem_replicate.1 f).2];rfl)
 rw[c]at m
 refine⟨_,_,m,Go.setRow_heap w g _ _ 5 _ l,?_,?_,⟨rfl,rfl,rfl,by simp[World.setRow],fun k _ e=>Go.setRow_other w g k _ e⟩⟩
 · simp;omega
 · intro j t;have r:(b.toList.take p).length=p:=by simp;omega
   rw[zQ,xD];by_cases h:j<p
   · rw[wv (by omega),xS h];simpa using q j h
   · rw[uS (by omega),r,wv (by rw[c];omega),List.getElem?_replicate_of_lt (by omega)]
theorem oq {g:Nat}(w:World)(M:w.heap[g]?=some (.cells #[.int .u8 1] 5 (0,0))) :
 Calls Tryz.prog 32 #[.slice (some ⟨g,0,none⟩) 1 1,.int .i64 32] w fun e w'=>∃ A,e=.returned (.slice A 32 32)∧RB w' (fun k=>k<w'.heap.size) A 32 (List.replicate 32 1)∧Ext w w':=by
 obtain⟨cs,C,aa,T⟩:=oi w 32 (by omega)
 rw[show((32:Nat):Int)=32 from rfl]at C
 obtain⟨W1,z⟩:=eV ((w.drew.drew).alloc (.cells cs 5))
 have K:W1.heap[w.heap.size]?=some (.cells cs 5 (0,0)):=by rw[←z];exact zS w.drew.drew _
 have B:Ext w W1:=by rw[←z];exact((vR w).trans (vR _)).trans (zL _ _)
 rw[z]at C
 have Z:(32:Int)≤(cs.size:Int):=by omega
 obtain⟨W2,G,U,L,Y,O,N⟩:=yf (p:=0) (k:=1) (dl:=32) (dc:=32) (sl:=1) (sc:=1) (a:=⟨g,0,none⟩) K (by omega) (by
  intro j o
  obtain rfl:j=0:=by omega
  exact zP (B.at_ M) 0) rfl (by omega)
 have E:=zF L
 have F:=zF O
 have D:=zF (N.ext B (zG _))
 have R:=zF (show 32≤G.size by omega)
 clear K B z M L O N Y T
 go_enter Tryz.func32,Tryz.ntmps32
 go_upto_region 6 with(go_at_call 69;refine(oD _).mono ?_;rintro e b ⟨rfl,rfl⟩)
 go_upto_region 18 with fail
 clear C U
 go_loopw [10] (fun iv wr=>∃(p:Nat) (c:Array Value),iv=.int .i64 (p:Int)∧(p=1∨p=2∨p=4∨p=8∨p=16∨p=32)∧Hid (wr.heap[b.heap.size]?=some (.cells c 5 (0,0)))∧Hid (∀ j,j<p→c[j]?=some (.int .u8 1))∧Hid (32≤c.size)∧Hid (Ext b wr)) (fun iv _=>(32-intOf iv).toNat)
 case atStart=>exact⟨1,G,rfl,.inl rfl,E,F,R,D⟩
 case round =>
  clear E F R D;obtain⟨p,c,rfl,V,HB,f,h,n⟩:=hrel;rcases V with rfl|rfl|rfl|rfl|rfl|rfl
  · obtain⟨X,d,v,i,y,m,l⟩:=yf (w:=wr.drew) (p:=1) (k:=1) (dl:=31) (dc:=31) (sl:=1) (sc:=32) (a:=⟨b.heap.size,0,none⟩) (show wr.drew.heap[b.heap.size]?=some (.cells c 5 (0,0))from HB.out) f.out (by
     intro j o
     rw[show Addr.add ⟨b.heap.size,0,none⟩ j=⟨b.heap.size,j,none⟩ by unfold Addr.add;split<;>simp_all,zP (show wr.drew.heap[b.heap.size]?=some (.cells c 5 (0,0))from HB.out) j]
     exact f.out j o) rfl (by have:=h.out;omega)
    rw[show((1:Nat):Int)=1 from rfl]at v ⊢;have q:=zF i;have s:=zF (show ∀ j,j<2→d[j]?=some (.int .u8 1)from m);have r:=zF (l.ext (n.out.trans (vR _)) (zG _));have t:=zF (show 32≤d.size by have:=h.out;omega);clear i y m l HB f n h;go_upto_region 20 with fail;rw[show min (1:Int) 32=1 from by decide];go_region_with fail
    all_goals
     go_roundw;case rel =>
      have hR:∃(p:Nat) (c:Array Value),Value.int .i64 2=.int .i64 (p:Int)∧(p=1∨p=2∨p=4∨p=8∨p=16∨p=32)∧Hid (X.heap[b.heap.size]?=some (.cells c 5 (0,0)))∧Hid (∀ j,j<p→c[j]?=some (.int .u8 1))∧Hid (32≤c.size)∧Hid (Ext b X):=⟨2,d,rfl,by omega,q,s,t,r⟩
      first|exact⟨_,_,_,_,_,_,_,_,_,_,_,_,_,_,_,hR,rfl⟩|exact⟨_,_,_,_,_,_,_,_,_,_,_,_,_,_,_,_,hR,rfl⟩|exact⟨_,_,_,_,_,_,_,_,_,_,_,_,_,_,_,_,_,hR,rfl⟩|exact⟨_,_,_,_,_,_,_,_,_,_,_,_,_,_,_,_,_,_,hR,rfl⟩|exact⟨_,_,_,_,_,_,_,_,_,_,_,_,_,_,_,_,_,_,_,hR,rfl⟩|exact⟨_,_,_,_,_,_,_,_,_,_,_,_,_,_,_,_,_,_,_,_,hR,rfl⟩|exact⟨_,_,_,_,_,_,_,_,_,_,_,_,_,_,_,_,_,_,_,_,_,hR,rfl⟩|exact⟨_,_,_,_,_,_,_,_,_,_,_,_,_,_,_,_,_,_,_,_,_,_,hR,rfl⟩|exact⟨_,_,_,_,_,_,_,_,_,_,_,_,_,_,_,_,_,_,_,_,_,_,_,hR,rfl⟩
     case measure=>change (32-(2:Int)).toNat<(32-(1:Int)).toNat;decide
  · obtain⟨X,d,v,i,y,m,l⟩:=yf (w:=wr.drew) (p:=2) (k:=2) (dl:=30) (dc:=30) (sl:=2) (sc:=32) (a:=⟨b.heap.size,0,none⟩) (show wr.drew.heap[b.heap.size]?=some (.cells c 5 (0,0))from HB.out) f.out (by
     intro j o
     rw[show Addr.add ⟨b.heap.size,0,none⟩ j=⟨b.heap.size,j,none⟩ by unfold Addr.add;split<;>simp_all,zP (show wr.drew.heap[b.heap.size]?=some (.cells c 5 (0,0))from HB.out) j]
     exact f.out j o) rfl (by have:=h.out;omega)
    rw[show((2:Nat):Int)=2 from rfl]at v ⊢;have q:=zF i;have s:=zF (show ∀ j,j<4→d[j]?=some (.int .u8 1)from m);have r:=zF (l.ext (n.out.trans (vR _)) (zG _));have t:=zF (show 32≤d.size by have:=h.out;omega);clear i y m l HB f n h;go_upto_region 20 with fail;rw[show min (2:Int) 32=2 from by decide];go_region_with fail
    all_goals
     go_roundw;case rel =>
      have hR:∃(p:Nat) (c:Array Value),Value.int .i64 4=.int .i64 (p:Int)∧(p=1∨p=2∨p=4∨p=8∨p=16∨p=32)∧Hid (X.heap[b.heap.size]?=some (.cells c 5 (0,0)))∧Hid (∀ j,j<p→c[j]?=some (.int .u8 1))∧Hid (32≤c.size)∧Hid (Ext b X):=⟨4,d,rfl,by omega,q,s,t,r⟩
      first|exact⟨_,_,_,_,_,_,_,_,_,_,_,_,_,_,_,hR,rfl⟩|exact⟨_,_,_,_,_,_,_,_,_,_,_,_,_,_,_,_,hR,rfl⟩|exact⟨_,_,_,_,_,_,_,_,_,_,_,_,_,_,_,_,_,hR,rfl⟩|exact⟨_,_,_,_,_,_,_,_,_,_,_,_,_,_,_,_,_,_,hR,rfl⟩|exact⟨_,_,_,_,_,_,_,_,_,_,_,_,_,_,_,_,_,_,_,hR,rfl⟩|exact⟨_,_,_,_,_,_,_,_,_,_,_,_,_,_,_,_,_,_,_,_,hR,rfl⟩|exact⟨_,_,_,_,_,_,_,_,_,_,_,_,_,_,_,_,_,_,_,_,_,hR,rfl⟩|exact⟨_,_,_,_,_,_,_,_,_,_,_,_,_,_,_,_,_,_,_,_,_,_,hR,rfl⟩|exact⟨_,_,_,_,_,_,_,_,_,_,_,_,_,_,_,_,_,_,_,_,_,_,_,hR,rfl⟩
     case measure=>change (32-(4:Int)).toNat<(32-(2:Int)).toNat;decide
  · obtain⟨X,d,v,i,y,m,l⟩:=yf (w:=wr.drew) (p:=4) (k:=4) (dl:=28) (dc:=28) (sl:=4) (sc:=32) (a:=⟨b.heap.size,0,none⟩) (show wr.drew.heap[b.heap.size]?=some (.cells c 5 (0,0))from HB.out) f.out (by
     intro j o
     rw[show Addr.add ⟨b.heap.size,0,none⟩ j=⟨b.heap.size,j,none⟩ by unfold Addr.add;split<;>simp_all,zP (show wr.drew.heap[b.heap.size]?=some (.cells c 5 (0,0))from HB.out) j]
     exact f.out j o) rfl (by have:=h.out;omega)
    rw[show((4:Nat):Int)=4 from rfl]at v ⊢;have q:=zF i;have s:=zF (show ∀ j,j<8→d[j]?=some (.int .u8 1)from m);have r:=zF (l.ext (n.out.trans (vR _)) (zG _));have t:=zF (show 32≤d.size by have:=h.out;omega);clear i y m l HB f n h;go_upto_region 20 with fail;rw[show min (4:Int) 32=4 from by decide];go_region_with fail
    all_goals
     go_roundw;case rel =>
      have hR:∃(p:Nat) (c:Array Value),Value.int .i64 8=.int .i64 (p:Int)∧(p=1∨p=2∨p=4∨p=8∨p=16∨p=32)∧Hid (X.heap[b.heap.size]?=some (.cells c 5 (0,0)))∧Hid (∀ j,j<p→c[j]?=some (.int .u8 1))∧Hid (32≤c.size)∧Hid (Ext b X):=⟨8,d,rfl,by omega,q,s,t,r⟩
      first|exact⟨_,_,_,_,_,_,_,_,_,_,_,_,_,_,_,hR,rfl⟩|exact⟨_,_,_,_,_,_,_,_,_,_,_,_,_,_,_,_,hR,rfl⟩|exact⟨_,_,_,_,_,_,_,_,_,_,_,_,_,_,_,_,_,hR,rfl⟩|exact⟨_,_,_,_,_,_,_,_,_,_,_,_,_,_,_,_,_,_,hR,rfl⟩|exact⟨_,_,_,_,_,_,_,_,_,_,_,_,_,_,_,_,_,_,_,hR,rfl⟩|exact⟨_,_,_,_,_,_,_,_,_,_,_,_,_,_,_,_,_,_,_,_,hR,rfl⟩|exact⟨_,_,_,_,_,_,_,_,_,_,_,_,_,_,_,_,_,_,_,_,_,hR,rfl⟩|exact⟨_,_,_,_,_,_,_,_,_,_,_,_,_,_,_,_,_,_,_,_,_,_,hR,rfl⟩|exact⟨_,_,_,_,_,_,_,_,_,_,_,_,_,_,_,_,_,_,_,_,_,_,_,hR,rfl⟩
     case measure=>change (32-(8:Int)).toNat<(32-(4:Int)).toNat;decide
  · obtain⟨X,d,v,i,y,m,l⟩:=yf (w:=wr.drew) (p:=8) (k:=8) (dl:=24) (dc:=24) (sl:=8) (sc:=32) (a:=⟨b.heap.size,0,none⟩) (show wr.drew.heap[b.heap.size]?=some (.cells c 5 (0,0))from HB.out) f.out (by
     intro j o
     rw[show Addr.add ⟨b.heap.size,0,none⟩ j=⟨b.heap.size,j,none⟩ by unfold Addr.add;split<;>simp_all,zP (show wr.drew.heap[b.heap.size]?=some (.cells c 5 (0,0))from HB.out) j]
     exact f.out j o) rfl (by have:=h.out;omega)
    rw[show((8:Nat):Int)=8 from rfl]at v ⊢;have q:=zF i;have s:=zF (show ∀ j,j<16→d[j]?=some (.int .u8 1)from m);have r:=zF (l.ext (n.out.trans (vR _)) (zG _));have t:=zF (show 32≤d.size by have:=h.out;omega);clear i y m l HB f n h;go_upto_region 20 with fail;rw[show min (8:Int) 32=8 from by decide];go_region_with fail
    all_goals
     go_roundw;case rel =>
      have hR:∃(p:Nat) (c:Array Value),Value.int .i64 16=.int .i64 (p:Int)∧(p=1∨p=2∨p=4∨p=8∨p=16∨p=32)∧Hid (X.heap[b.heap.size]?=some (.cells c 5 (0,0)))∧Hid (∀ j,j<p→c[j]?=some (.int .u8 1))∧Hid (32≤c.size)∧Hid (Ext b X):=⟨16,d,rfl,by omega,q,s,t,r⟩
      first|exact⟨_,_,_,_,_,_,_,_,_,_,_,_,_,_,_,hR,rfl⟩|exact⟨_,_,_,_,_,_,_,_,_,_,_,_,_,_,_,_,hR,rfl⟩|exact⟨_,_,_,_,_,_,_,_,_,_,_,_,_,_,_,_,_,hR,rfl⟩|exact⟨_,_,_,_,_,_,_,_,_,_,_,_,_,_,_,_,_,_,hR,rfl⟩|exact⟨_,_,_,_,_,_,_,_,_,_,_,_,_,_,_,_,_,_,_,hR,rfl⟩|exact⟨_,_,_,_,_,_,_,_,_,_,_,_,_,_,_,_,_,_,_,_,hR,rfl⟩|exact⟨_,_,_,_,_,_,_,_,_,_,_,_,_,_,_,_,_,_,_,_,_,hR,rfl⟩|exact⟨_,_,_,_,_,_,_,_,_,_,_,_,_,_,_,_,_,_,_,_,_,_,hR,rfl⟩|exact⟨_,_,_,_,_,_,_,_,_,_,_,_,_,_,_,_,_,_,_,_,_,_,_,hR,rfl⟩
     case measure=>change (32-(16:Int)).toNat<(32-(8:Int)).toNat;decide
  · obtain⟨X,d,v,i,y,m,l⟩:=yf (w:=wr.drew) (p:=16) (k:=16) (dl:=16) (dc:=16) (sl:=16) (sc:=32) (a:=⟨b.heap.size,0,none⟩) (show wr.drew.heap[b.heap.size]?=some (.cells c 5 (0,0))from HB.out) f.out (by
     intro j o
     rw[show Addr.add ⟨b.heap.size,0,none⟩ j=⟨b.heap.size,j,none⟩ by unfold Addr.add;split<;>simp_all,zP (show wr.drew.heap[b.heap.size]?=some (.cells c 5 (0,0))from HB.out) j]
     exact f.out j o) rfl (by have:=h.out;omega)
    rw[show((16:Nat):Int)=16 from rfl]at v ⊢;have q:=zF i;have s:=zF (show ∀ j,j<32→d[j]?=some (.int .u8 1)from m);have r:=zF (l.ext (n.out.trans (vR _)) (zG _));have t:=zF (show 32≤d.size by have:=h.out;omega);clear i y m l HB f n h;go_upto_region 20 with fail;rw[show min (16:Int) 32=16 from by decide];go_region_with fail
    all_goals
     go_roundw;case rel =>
      have hR:∃(p:Nat) (c:Array Value),Value.int .i64 32=.int .i64 (p:Int)∧(p=1∨p=2∨p=4∨p=8∨p=16∨p=32)∧Hid (X.heap[b.heap.size]?=some (.cells c 5 (0,0)))∧Hid (∀ j,j<p→c[j]?=some (.int .u8 1))∧Hid (32≤c.size)∧Hid (Ext b X):=⟨32,d,rfl,by omega,q,s,t,r⟩
      first|exact⟨_,_,_,_,_,_,_,_,_,_,_,_,_,_,_,hR,rfl⟩|exact⟨_,_,_,_,_,_,_,_,_,_,_,_,_,_,_,_,hR,rfl⟩|exact⟨_,_,_,_,_,_,_,_,_,_,_,_,_,_,_,_,_,hR,rfl⟩|exact⟨_,_,_,_,_,_,_,_,_,_,_,_,_,_,_,_,_,_,hR,rfl⟩|exact⟨_,_,_,_,_,_,_,_,_,_,_,_,_,_,_,_,_,_,_,hR,rfl⟩|exact⟨_,_,_,_,_,_,_,_,_,_,_,_,_,_,_,_,_,_,_,_,hR,rfl⟩|exact⟨_,_,_,_,_,_,_,_,_,_,_,_,_,_,_,_,_,_,_,_,_,hR,rfl⟩|exact⟨_,_,_,_,_,_,_,_,_,_,_,_,_,_,_,_,_,_,_,_,_,_,hR,rfl⟩|exact⟨_,_,_,_,_,_,_,_,_,_,_,_,_,_,_,_,_,_,_,_,_,_,_,hR,rfl⟩
     case measure=>change (32-(32:Int)).toNat<(32-(16:Int)).toNat;decide
  · rw[show((32:Nat):Int)=32 from rfl];have P:bys (List.replicate 32 1)=List.replicate 32 (Value.int .u8 1):=by simp[bys]
    have J:RB wr (fun k=>k<wr.heap.size) (some ⟨b.heap.size,0,none⟩) 32 (List.replicate 32 1):=by
     refine⟨⟨by simp,by unfold maxLen;omega,by simp[bys],fun _=>⟨⟨b.heap.size,0,none⟩,rfl,qd HB.out,fun j u Q=>?_⟩⟩,fun x W=>by rw[(List.mem_replicate.1 W).2];omega,by simp⟩;rw[P]at Q;obtain⟨H,I⟩:=List.getElem?_eq_some_iff.1 Q;rw[wS]at H;rw[List.getElem_replicate]at I;rw[show Addr.add ⟨b.heap.size,0,none⟩ j=⟨b.heap.size,j,none⟩ by unfold Addr.add;split<;>simp_all,zP HB.out j,f.out j H,I]
    have S:=zF J;clear J P;go_wp2_with fail;go_ret;exact⟨_,rfl,S.out,n.out⟩
theorem zEN (w:World):RB (w.alloc (.cells (madeCells #[.int .u8 0] 32) 5)) (fun k=>k<(w.alloc (.cells (madeCells #[.int .u8 0] 32) 5)).heap.size) (some ⟨w.heap.size,0,none⟩) 32 (List.replicate 32 0):=by
 have:=(js.made w 32).rb (P:=fun k=>k<(w.alloc (.cells (madeCells #[.int .u8 0] 32) 5)).heap.size) (by rw[zz];omega) (by simp) (by simp);rwa [wS]at this
def yH (d:List Nat):List Nat×List Nat:=xX (List.replicate 32 0) (List.replicate 32 1) d
theorem ma {P:Nat→Prop}{A:Option Addr}{c:Nat}{d:List Nat}(w:World)(q:KW w)(L:RB w P A c d)(G:∀ k,P k→k<w.heap.size)(W:d.length≤200000) :
 Calls Tryz.prog 11 #[.slice A d.length c] w fun e w'=>∃ b,e=.returned (.pointer (some ⟨b,0,none⟩))∧w.heap.size≤b∧DR w' b (yH d).1 (yH d).2 0∧Ext w w':=by
 have Q:=zF q
 have C:=zF L
 have s:=zF G
 clear q L G
 go_enter Tryz.func11,Tryz.ntmps11
 go_upto_region 1 with fail
 refine zZ (by kernel_rfl) 6 [0,0,2,7,15,31] [] (fun j f X=>match j with
  | 0=>∃ g,f 0=.slice (some ⟨g,0,none⟩) 32 32∧RB X (fun k=>k<X.heap.size) (some ⟨g,0,none⟩) 32 (List.replicate 32 0)
  | 1=>∃ g,f 1=.slice (some ⟨g,0,none⟩) 1 1∧X.heap[g]?=some (.cells #[.int .u8 1] 5 (0,0))
  | 2=>∃ A,f 2=.slice A 32 32∧RB X (fun k=>k<X.heap.size) A 32 (List.replicate 32 1)
  | 3=>∃ g A,f 3=.agg #[.slice (some ⟨g,0,none⟩) 32 32,.slice A 32 32,.int .i64 0]∧RB X (fun k=>k<X.heap.size) (some ⟨g,0,none⟩) 32 (List.replicate 32 0)∧RB X (fun k=>k<X.heap.size) A 32 (List.replicate 32 1)
  | 4=>∃ b,f 4=.pointer (some ⟨b,0,none⟩)∧w.heap.size≤b∧DR X b (List.replicate 32 0) (List.replicate 32 1) 0
  | 5=>∃ b,f 5=.pointer (some ⟨b,0,none⟩)∧w.heap.size≤b∧DR X b (List.replicate 32 0) (List.replicate 32 1) 0
  | _=>True) (by kernel_rfl) [(4,0),(5,1),(6,2),(7,3),(8,4),(3,5)] (by kernel_rfl) ?_
 refine zv 1 5 [(5,1),(6,2)] (fun f X a hR K i=>?_) ?_
 · have Z:=qt (P:=Tryz.prog) 22 5 (.int .u8 0) 1 Tryz.underlying22 ub rfl .i64 .i64 32 (by omega) (by omega);simp only[qO]at Z;simp only[yZ];refine⟨?_⟩;go_simp;exact i.out _ _ _ (by simp only[yZ]) (zL _ _) trivial (fun Y h=>⟨_,rfl,(zEN X).upE h⟩)
 refine zv 2 4 [(4,0)] (fun f X a hR K i=>?_) ?_
 · simp only[yZ];refine⟨?_⟩;go_simp;exact i.out _ _ _ (by simp only[yZ]) (zL _ _) trivial (fun Y h=>⟨_,rfl,h.at_ (zS _ _)⟩)
 refine qK 3 3 (fun f=>#[f 1,Value.int IntKind.i64 32]) (F':=32) (fun f X a hR=>?_) ?_
 · obtain⟨g1,(p:f 1=_),x⟩:=hR.out 1 rfl;simp only[p];refine(oq X x).mono ?_;rintro e w2 ⟨r,rfl,hr,T⟩;exact⟨_,rfl,T,fun Y h=>⟨r,rfl,hr.upE h⟩⟩
 refine zv 4 2 [(4,0),(5,1),(6,2)] (fun f X a hR K i=>?_) ?_
 · obtain⟨g0,(l:f 0=_),v⟩:=hR.out 0 rfl;obtain⟨r,(m:f 2=_),y⟩:=hR.out 2 rfl;simp only[yZ,l,m];refine⟨?_⟩;go_simp;exact i.out _ _ _ (by simp only[yZ,l,m]) (zT _) trivial (fun Y h=>⟨_,_,rfl,v.upE h,y.upE h⟩)
 refine zv 5 1 [(4,0),(5,1),(6,2),(7,3)] (fun f X a hR K i=>?_) ?_
 · obtain⟨S,M,(n:f 3=_),z,B⟩:=hR.out 3 rfl;simp only[yZ,n];refine⟨?_⟩;go_simp;exact i.out _ _ _ (by simp only[yZ,n]) (zL _ _) trivial (fun Y h=>⟨_,rfl,a.bsize,DR.ext ⟨_,_,_,_,zS _ _,z.upE (zL _ _),B.upE (zL _ _),by simp,by simp⟩ h⟩)
 refine zv 6 0 [(4,0),(5,1),(6,2),(7,3),(8,4)] (fun f X a hR K i=>?_) ?_
 · obtain⟨R,(o:f 4=_),u,t⟩:=hR.out 4 rfl;simp only[yZ,o];refine⟨?_⟩;go_simp;exact i.out _ _ _ (by simp only[yZ,o]) (zT _) trivial (fun Y h=>⟨_,rfl,u,t.ext h⟩)
 refine yF ⟨fun f X a hR U V=>?_⟩
 obtain⟨g0,(l:f 0=_),v⟩:=hR 0 (by decide)
 obtain⟨g1,(p:f 1=_),x⟩:=hR 1 (by decide)
 obtain⟨r,(m:f 2=_),y⟩:=hR 2 (by decide)
 obtain⟨S,M,(n:f 3=_),z,B⟩:=hR 3 (by decide)
 obtain⟨R,(o:f 4=_),u,t⟩:=hR 4 (by decide)
 obtain⟨b,(F:f 5=_),lb,E⟩:=hR 5 (by decide)
 simp only[yZ,l,p,m,n,o,F]
 clear hR U V l p m n o F
 refine zI ?_
 have H:=zF (bQ X (Q.out.ext a) E (C.out.below a s.out) (fun k q=>zH (s.out k q) a.bsize) W)
 clear v x y z B u t E C s
 have D:=zF a
 clear a
 go_wp2_with fail
 refine H.out.mono ?_
 rintro e w1 ⟨rfl,I,J⟩
 have N:=zF I
 have O:=zF (J.ext' D.out lb D.out.bsize)
 clear I J H
 go_wp2_with fail
 go_ret
 exact⟨b,rfl,lb,N.out,O.out⟩
end Go.Proofs.YtaemogcomplhiaaGreatDoor
namespace Go.Proofs.YtaemogcomplhiaaGreatDoor.Ec
open Sha
abbrev eK0:List Nat:=[197,67,134,248,26,225,157,181,5,204,41,121,63,130,47,88,48,213,92,237,172,156,63,242,37,142,219,161,100,17,251,67]
abbrev eV0:List Nat:=[120,98,110,89,75,219,36,10,205,107,217,53,227,217,139,59,33,103,110,107,102,6,223,4,174,28,250,29,229,238,104,38]
abbrev eK1:List Nat:=[174,53,24,115,238,69,148,211,17,219,182,29,219,207,92,16,114,185,16,49,119,152,188,45,149,169,241,252,142,70,119,22]
abbrev eV1:List Nat:=[2,144,96,145,146,113,15,101,177,176,211,118,82,52,71,214,65,82,235,204,255,170,108,52,202,141,86,99,153,15,72,228]
theorem zED:yH [120]=(eK0,eV0):=by decide +kernel
theorem zD0:yR vH eK0 eV0=ms:=by decide +kernel
theorem st_1:bh vH eK0 eV0=(eK1,eV1):=by decide +kernel
theorem zDz:yR vH eK1 eV1=eKk:=by decide +kernel
end Go.Proofs.YtaemogcomplhiaaGreatDoor.Ec
namespace Go.Proofs.YtaemogcomplhiaaGreatDoor.Ec
open Go.RowKit Go.Shelf
theorem zBc {w:World}{n m c:Nat}{P Q:Nat→Prop}{A B:Option Addr}{a bs:List Nat}(f:RB w P A n a)(H:a.length=n)(q:0<n)(i:RB w Q B c bs)(G:bs.length=m)(r:0<m)(N:n+m≤1000000) :
 ∃ A' c' w',(∀ ty,(Builtin.append_ #[22,22] ty #[.slice A n n,.slice B m c]).run Tryz.prog w=.ok (.slice A' (n+m) c') w')∧Ext w w'∧RB w' (fun g=>g<w'.heap.size) A' c' (a++bs):=by
 obtain⟨l,D,K,k,L⟩:=yz ub
 subst H G
 obtain⟨ad,rfl,_,x⟩:=f.1.2.2.2 q
 obtain⟨p,rfl,_,z⟩:=i.1.2.2.2 r
 have I:(bys a).length=a.length:=by simp[bys]
 have J:(bys bs).length=bs.length:=by simp[bys]
 have C:Builtin.nextslicecap (a.length+bs.length) a.length*l.bytes≤281474976710656:=growslice_fits (by omega) (by rw[L];omega)
 have t:∀(o:Obj),Ext w (w.drew.alloc o):=fun o=>(qp (zo _ w) 1).alloc (zG _) o
 have M:=grownCap_ge w (a.length+bs.length) a.length 5
 have y:grownCap w (a.length+bs.length) a.length 5≤maxLen:=grownCap_le_maxLen w (a.length+bs.length) a.length 5 (by unfold maxLen;omega)
 refine⟨_,_,_,fun ty=>run_append_grow (P:=Tryz.prog) w 22 ty 5 l (.int .u8 0) Tryz.underlying22 D K ad a.length a.length (bys a) (by rw[I,k,jM]) x p bs.length c (bys bs) (by rw[J,k,jM]) z (by omega) (by omega) C,t _,?_⟩
 refine⟨⟨by rw[zf];omega,y,by simp[bys],fun _=>⟨_,rfl,?_,fun j v d=>?_⟩⟩,fun b h=>?_,by rw[zf];omega⟩
 · simp
 · have E:=zP (zS w.drew (.cells ((bys a).toArray++(bys bs).toArray++Builtin.zeroCells (Value.int .u8 0).cells (grownCap w (a.length+bs.length) a.length 5-(a.length+bs.length))) 5)) j;have e:(⟨w.heap.size,0,none⟩:Addr).add j=⟨w.drew.heap.size,j,none⟩:=by simp[Addr.add];exact fun h=>h.symm
   have u:bys (a++bs)=bys a++bys bs:=by simp[bys]
   rw[u]at d;rw[e,E,←d];have F:j<(bys a++bys bs).length:=by
    rcases qH j (bys a++bys bs).length with h|h
    · exact h
    · rw[jH h]at d;cases d
   have s:(bys a).toArray++(bys bs).toArray=(bys a++bys bs).toArray:=by simp
   rw[s,Array.getElem?_append_left (by simpa using F)];simp
 · rcases List.mem_append.1 h with h|h
   · exact f.2.1 b h
   · exact i.2.1 b h
theorem appF {w:World}{ops:Array Oper}{rest:List Oper}{o:Oper}{a:Act}{Q:Exit→Act→World→Prop}(l:o.guard=none)(s x:Operand)(t:o.op=.call { callee:=.builtin .append,args:=#[s,x],argTypes:=#[22,22] })
 {n m c:Nat} {P R:Nat→Prop} {A B:Option Addr} {b bs:List Nat} (y:a.eval s=.slice A n n) (z:a.eval x=.slice B m c) (j:RB w P A n b) (r:b.length=n) (d:0<n) (k:RB w R B c bs) (q:bs.length=m) (e:0<m) (p:n+m≤1000000)
 (h:∀ A' c' w',Ext w w'→RB w' (fun g=>g<w'.heap.size) A' c' (b++bs)→wpList Tryz.prog ops Q rest (a.put o.dst (.slice A' (n+m) c')) w'):wpList Tryz.prog ops Q (o::rest) a w:=by
 refine wpList_plain l fun _ i=>?_
 obtain⟨A',c',w',v,f,u⟩:=zBc j r d k q e p
 unfold Oper.wp execOp
 simp only[t,resolve,invoke,builtin,km,Sem.run_pure,jC,List.map_toArray,List.map_cons,List.map_nil,y,z,v]
 exact i _ _ (h A' c' w' f u)
end Go.Proofs.YtaemogcomplhiaaGreatDoor.Ec
namespace Go.Proofs.YtaemogcomplhiaaGreatDoor.Ec
open Go.RowKit Go.Shelf
open Sha
attribute [local go_sem] Oper.semAt_some
abbrev eZT:Nat:=37770117932026156049172039120758503168212124412985157458423084762338470715901
theorem e_zt:1751217000+eT=eZT:=by decide +kernel
theorem e_s2:eZT*eI%ks vH=eS:=by decide +kernel
theorem ge:qD eR'≤8*32∧qD eS≤8*32∧qD eT≤4000∧qD eI≤4000∧qD eZT≤4000∧qD eKk≤4000∧qD 1751217000≤4000:=by decide +kernel
theorem dh:IsC 1 vH:=.inl ⟨rfl,rfl⟩
theorem zEF:qD ms≤256:=by decide +kernel
theorem zCi:vX vH ms=true:=by decide +kernel
theorem zDi {P:Nat→Prop}{b base:Nat}{A:Option Addr}{ad:Addr}{u cb:Nat}{num:Int}(w:World)(hk:KW w)(hd:DR w b eK1 eV1 num)(T:OB w base A u (digs 18446744073709551616 ms))(hb:b<base)(hh:RB w P (some ad) cb [104,97,115,104])(hP:∀ q,P q→q<w.heap.size)(hn:0≤num)(aL:num<1000000000) :
 Calls Tryz.prog 27 #[.int .i64 1,.slice A (digs 18446744073709551616 ms).length u,.slice (some ad) 4 cb,.pointer (some ⟨b,0,none⟩)] w fun e w'=>∃ A c,e=.returned (.tuple #[.slice A 64 c,.int .i64 0])∧RB w' (fun q=>q<w'.heap.size) A c (bytesOf eR' 32++bytesOf eS 32)∧Fr b w.heap.size w w':=by
 obtain⟨lk,x⟩:=eV ((digs 18446744073709551616 ms).length)
 have W:=aJ (.inl dh) _ A u _ w T.rn (fun _ h=>h.2)
 rw[zi (by omega),zCi,x]at W
 rw[x]
 have HM:=zF W
 have HK:=zF hk
 have HD:=zF hd
 have HA:=zF T
 have aX:=zF hb
 have HH:=zF hh
 have HP:=zF hP
 have Hn:=zF (And.intro hn aL)
 have aY:=zF x
 clear W hk hd T hb hh hP hn aL x
 go_enter Tryz.func27,Tryz.ntmps27
 go_wp2
 go_step3
 go_wp2_with fail
 refine HM.out.mono ?_
 rintro e w1 ⟨rfl,j⟩
 have HZ:=zF (dA dh (n:=4) w1 (HH.out.below j HP.out) (fun q f=>zH (HP.out q f) j.bsize) rfl (by decide) (by decide))
 have al:=zF j
 clear j HM
 go_wp2_with fail
 refine HZ.out.mono ?_
 rintro e w2 ⟨A2,c2,rfl,r2,E2⟩
 have R2:=zF r2
 have a:=zF (jb al.out E2)
 clear r2 E2 HZ
 have a2:kO [104,97,115,104]=1751217000:=by decide +kernel
 rw[a2]at R2 ⊢
 go_wp2
 try go_step3
 try go_wp2
 try go_step3
 go_loopw [11] (fun iv wr=>iv=undef∧wr=w2) (fun _ _=>0)
 case atStart=>exact⟨rfl,rfl⟩
 case round =>
  obtain⟨rfl,rfl⟩:=hrel;have O:=nx dh (C:=vH) wr (HK.out.ext a.out) (HD.out.ext a.out) Hn.out.1 Hn.out.2;rw[zDz]at O;have H3:=zF O;clear O;go_wp2_with fail;refine H3.out.mono ?_;rintro e w3 ⟨A3,c3,rfl,o3,d3,f3⟩;have aH:RU w3 A u (digs 18446744073709551616 ms):=((HA.out.below a.out (zG _)).rn.keep fun p d=>qB (f3.block _ (zH d.2 (zG _)) (by have:=d.1;have:=aX.out;omega))).mono fun q f=>zH f.2 f3.size;have aI:RU w3 A2 c2 (digs 18446744073709551616 1751217000):=(R2.out.rn.keep fun p d=>qB (f3.block _ d.2 (by have:=d.1;have:=HD.out.lt;have:=al.out.bsize;omega))).mono fun q f=>zH f.2 f3.size;have aU:=zF aH;have aW:=zF aI;have ay:=zF o3.ru;have ax:=zF ((jc (b:=b) a.out (zG _)).trans (f3.mono a.out.bsize));clear aH aI o3 d3 f3 H3;go_wp2_with fail;refine(pu dh w3).mono ?_;rintro e w4 ⟨Ax,cx,Ay,cy,rfl,hx,hy,F⟩;have Q:=rX dh w4 (show APt w4 (.agg #[.bool false,.slice Ax vH.xl.length cx,.slice Ay vH.yl.length cy]) false (val 18446744073709551616 vH.xl) (val 18446744073709551616 vH.yl)from⟨Ax,Ay,cx,cy,_,_,rfl,hx,hy,rfl,rfl⟩) (zN ay.out F) (zi (by omega) _);rw[zEJ]at Q;have H5:=zF Q;have av:=zF F;clear hx hy Q F;go_wp2_with fail;refine H5.out.mono ?_;rintro e w5 ⟨o,rfl,Y,E5⟩;have Y:PtV w5 w4.heap.size o (some eR):=Y;obtain⟨y,M,i,v,rfl,ox,oy⟩:=Y;obtain⟨Z,V⟩:=eV ((digs 18446744073709551616 eR.1).length);obtain⟨ly,aK⟩:=eV ((digs 18446744073709551616 eR.2).length);rw[V,aK];have X:=zS w5 (.cells #[.bool false,.slice y Z M,.slice i ly v] 33);have S:=zL w5 (.cells #[.bool false,.slice y Z M,.slice i ly v] 33);obtain⟨g,U⟩:=eV w5.heap.size;rw[U]at X;have aA:=zF (zN ox.ru S);have aw:=zF (jb av.out (jb E5 S));have Hg:=zF U;have aZ:=zF V;have az:=zF X;clear ox oy V aK U X S E5 av H5;go_upto_region 6 with fail;rw[Hg.out];generalize w5.alloc (.cells #[.bool false,.slice y Z M,.slice i ly v] 33)=w6 at *;obtain⟨y0,y1,y2,f0,f1,f2⟩:=jQ az.out;have h7:=mB dh (B:=i) (cb:=v) (ly:=ly) false w6 aA.out (by decide +kernel) e_r aZ.out;have H7:=zF h7;clear h7;go_wp2_with fail;refine H7.out.mono ?_;rintro e w7 ⟨A7,c7,rfl,r7,E7⟩;have R:=vO _ A7 c7 _ w7 r7;rw[zi (by omega)]at R;have H8:=zF R;have L:=zF r7;have t:=zF (jb aw.out E7);have k0:((qD eR':Int)==0)=false:=by decide +kernel
  clear y0 y1 y2 f0 f1 f2 R r7 E7 H7 aA az aw;go_wp2_with fail;refine H8.out.mono ?_;rintro e w8 ⟨rfl,rfl⟩;have h9:=bB dh w7 L.out (zN aU.out t.out) (zK ge.1 (by decide)) (zK zEF (by decide)) e_t rfl aY.out;have H9:=zF h9;clear h9 H8;go_wp2_with fail;refine H9.out.mono ?_;rintro e w9 ⟨A9,c9,rfl,r9,s⟩;have aE:=add_l w9 (zN aW.out (t.out.trans s)) r9 ge.2.2.2.2.2.2 ge.2.2.1 e_zt rfl rfl;have ac:=zF aE;have G:=zF (jb t.out s);have R9:=zF (zN L.out s);clear aE H9 r9 s t L;go_wp2_with fail;refine ac.out.mono ?_;rintro e a3 ⟨a8,bd,rfl,aN,k⟩;have aF:=zBL dh a3 (zN ay.out (G.out.trans k)) ge.2.2.2.2.2.1 zER rfl;have ae:=zF aF;have am:=zF (jb G.out k);have H:=zF (And.intro aN (zN R9.out k));clear aF ac aN k G R9;go_wp2_with fail;refine ae.out.mono ?_;rintro e a4 ⟨a9,be,rfl,aO,l⟩;have aG:=bB dh a4 (zN H.out.1 l) aO ge.2.2.2.2.1 ge.2.2.2.1 e_s2 rfl rfl;have af:=zF aG;have an:=zF (jb am.out l);have aB:=zF (zN H.out.2 l);clear aG ae aO l am H;go_wp2_with fail;refine af.out.mono ?_;rintro e aS ⟨ba,bf,rfl,aa,z⟩;have ag:=zF (zEb aS aa rfl);have ao:=zF (jb an.out z);have I:=zF (And.intro aa (zN aB.out z));have k1:((qD eS:Int)==0)=false:=by decide +kernel
  clear af aa z an aB;go_wp2_with fail;refine ag.out.mono ?_;rintro e bg ⟨rfl,rfl⟩;clear ag;have N:=bU dh aS;obtain⟨sz,aM⟩:=eV vH.size;rw[aM]at N;obtain rfl:32=sz:=aM;have ah:=zF N;clear N;go_wp2_with fail;refine ah.out.mono ?_;rintro e a5 ⟨rfl,m⟩;have ai:=zF (sM (n:=32) a5 (zN I.out.2 m) (by decide) ge.1 rfl);have ap:=zF (jb ao.out m);have aC:=zF (zN I.out.1 m);clear m ao I ah;go_wp2_with fail;refine ai.out.mono ?_;rintro e a6 ⟨bb,rfl,aP,D⟩;have aj:=zF (bU dh a6);have aq:=zF (jb ap.out D);have J:=zF (And.intro aP (zN aC.out D));clear aP D ap aC ai;go_wp2_with fail;refine aj.out.mono ?_;rintro e a7 ⟨rfl,r⟩;have ak:=zF (sM (n:=32) a7 (zN J.out.2 r) (by decide) ge.2.1 rfl);have ar:=zF (jb aq.out r);have aD:=zF (RB.upE J.out.1 r);clear r aq J aj;go_wp2_with fail;refine ak.out.mono ?_;rintro e bh ⟨bc,rfl,aQ,E⟩;have au:=zF (jb ar.out E);have K:=zF (And.intro (RB.upE aD.out E) aQ);clear aQ E ar aD ak;go_wp2_with (at_builtin;refine appF rfl (.tmp 76) (.tmp 77) rfl rfl rfl K.out.1 (vN _ _) (by decide) K.out.2 (vN _ _) (by decide) (by decide) ?_);intro aT a1 bi ab aR;have aV:=zF (jb au.out ab);have a0:=zF aR;clear ab aR au K;go_wp2
  first
   | rw[uU]
   | skip
  go_ret2;exact⟨aT,a1,rfl,a0.out,ax.out.trans (jc (b:=b) aV.out ax.out.size)⟩
end Go.Proofs.YtaemogcomplhiaaGreatDoor.Ec
namespace Go.Proofs.YtaemogcomplhiaaGreatDoor
open Go.RowKit
theorem onx_c {c:Int}{C:Crv}(s:IsC c C){p:Value}{a:Bool}{x y:Nat}(w:World)(l:APt w p a x y) :
 Calls Tryz.prog 52 #[.int .i64 c,p] w fun e w'=>e=.returned (.bool (onQ C a x y))∧Ext w w':=by
 obtain⟨p1,p2,rfl⟩:=bL l
 obtain⟨W0,d⟩:=eW (w.alloc (.cells #[.bool a,p1,p2] 33))
 obtain⟨q,u⟩:=eV w.heap.size
 have i:Ext w W0:=by rw[d];exact zL _ _
 have r:=zS w (.cells #[.bool a,p1,p2] 33)
 rw[←d,u]at r
 have H:=zF (l.ext i)
 have v:=zF i
 have n:=zF s
 obtain⟨res,m⟩:=eV (onQ C a x y)
 rw[m]
 have z:=zF m
 clear l i s m
 go_enter Tryz.func52,Tryz.ntmps52
 go_upto_region 1 with fail
 rw[←d]
 clear d u
 refine zZ (by kernel_rfl) 5 [0,1,0,7,15] [] (fun j f X=>match j with
  | 0=>f 0=.int .i64 c
  | 1=>∃ k,f 1=.pointer (some ⟨k,0,none⟩)∧OfC C X k
  | 2=>f 2=.agg #[.bool a,p1,p2]
  | 3=>f 3=.bool res
  | 4=>f 4=.bool res
  | _=>True) (by kernel_rfl) [(5,0),(6,1),(7,2),(8,3),(4,4)] (by kernel_rfl) ?_
 refine zJ 1 4 ?_
 refine qK 2 3 (fun f=>#[f 0]) (F':=64) (fun f X g hR=>?_) ?_
 · have A:f 0=.int .i64 c:=hR.out 0 rfl;simp only[A];refine(pM n.out X).mono ?_;rintro e w2 ⟨k,rfl,G,h⟩;exact⟨_,rfl,h,fun Y D=>⟨k,rfl,G.ext D⟩⟩
 refine lV0 3 2 r vl ?_
 refine qK 4 1 (fun f=>#[f 1,f 2]) (F':=72) (fun f X g hR=>?_) ?_
 · obtain⟨I,b,t⟩:∃ k,f 1=.pointer (some ⟨k,0,none⟩)∧OfC C X k:=hR.out 1 rfl;have B:f 2=.agg #[.bool a,p1,p2]:=hR.out 2 rfl;simp only[b,B];refine(mZ t n.out.fine (H.out.ext g)).mono ?_;rw[z.out];rintro e w2 ⟨rfl,h⟩;exact⟨_,rfl,h,fun _ _=>rfl⟩
 refine zt 5 0 3 ?_
 refine yF ⟨fun f X g hR E F=>?_⟩
 obtain⟨I,b,t⟩:∃ k,f 1=.pointer (some ⟨k,0,none⟩)∧OfC C X k:=hR 1 (by decide)
 have o:f 4=.bool res:=hR 4 (by decide)
 simp only[Par.vE,Act.put,jn,List.set_cons_succ,vQ,b,o]
 clear hR E F b o
 refine zI ?_
 go_wp2
 go_ret
 exact⟨rfl,v.out.trans g⟩
end Go.Proofs.YtaemogcomplhiaaGreatDoor
namespace Go.Proofs.YtaemogcomplhiaaGreatDoor.Ec
open Go.RowKit Go.Shelf
attribute [local go_sem] Oper.semAt_some
def VY (C:Crv) (z r s x y:Nat):Prop:=∃(v u1 u2:Nat) (a b d:Nat×Nat),xM s (ks C)=(digs 18446744073709551616 v,true)∧qD v≤4000∧qD z≤4000∧qD d.1≤4000∧z*v%ks C=u1∧r*v%ks C=u2 ∧
 uO C false (val 18446744073709551616 C.xl) (val 18446744073709551616 C.yl) u1=some (some a)∧uO C false x y u2=some (some b)∧aZ C false a.1 a.2 false b.1 b.2=some (some d)∧d.1%ks C=r
theorem zDO {c:Int}{C:Crv}(d:IsC c C){A:Option Addr}{a x b:Nat}{m:Bool}(w:World)(f:RU w A a (digs 18446744073709551616 x))(g:(digs 18446744073709551616 x).length=b)(i:vX C x=m) :
 Calls Tryz.prog 34 #[.int .i64 c,.slice A b a] w fun e w'=>e=.returned (.bool m)∧Ext w w':=by
 subst g i
 have h:=aJ (.inl d) _ A a _ w f (fun _ h=>h)
 rw[zi (by omega)]at h
 exact h
theorem zA2 {c:Int}{C:Crv}(f:IsC c C){x:Nat}(h:vX C x=true):qD x≤4000:=by
 have d:x<ks C:=by
  unfold vX at h;rw[jp]at h;exact xA h.2
 have g:=(bu f).2.2.2.2.1;by_cases h0:x=0
 · subst h0;rw[xk];omega
 · have a:=(wJ h0).1;have b:=(wJ (x:=ks C) (by omega)).2.1;have e:2 ^(qD x-1)<2^qD (ks C):=jh a (Nat.lt_trans d b);have:=(Nat.pow_lt_pow_iff_right (by omega:1<2)).1 e;omega
theorem oZ {c:Int}{C:Crv}(hC:IsC c C){p:Value}{x y z r s cap ch n nh:Nat}{P Q:Nat→Prop}{ad ah:Addr}{bs gs:List Nat}{V:Bool}(w:World)(hp:APt w p false x y)(ho:onQ C false x y=true)
 (hb:RB w P (some ad) cap bs) (hP:∀ q,P q→q<w.heap.size) (hn:bs.length=n) (hl:n=2*C.size) (hh:RB w Q (some ah) ch gs) (hQ:∀ q,Q q→q<w.heap.size) (hm:gs.length=nh) (aZ:0<nh) (M:nh≤C.size)
 (hz:kO gs=z) (hr:kO (bs.take C.size)=r) (hs:kO (bs.drop C.size)=s) (hV:((vX C r&&vX C s)=false∧V=false)∨(vX C r=true∧vX C s=true∧VY C z r s x y∧V=true)) :
 Calls Tryz.prog 24 #[.int .i64 c,p,.slice (some ah) nh ch,.slice (some ad) n cap] w fun e w'=>e=.returned (.bool V)∧Ext w w':=by
 obtain⟨p1,p2,rfl⟩:=bL hp
 obtain⟨t,ht⟩:=eV C.size
 have hF:=hC.fine
 have t1:32≤t:=by rw[←ht];exact hF.pos
 have t2:t≤48:=by rw[←ht];exact hF.small
 obtain⟨W0,al⟩:=eW (w.alloc (.cells #[.bool false,p1,p2] 33))
 obtain⟨q,G⟩:=eV w.heap.size
 have aC:=zS w (.cells #[.bool false,p1,p2] 33)
 have S:Ext w W0:=by rw[al];exact zL _ _
 rw[←al,G]at aC
 have aq:=zF (bU hC W0)
 rw[ht]at aq hl hr hs M
 obtain⟨l1,l2,l3⟩:=hb.cap
 rw[hn]at l1 l3
 have bk:((t:Int)==0)=false:=by simp;omega
 have bj:((n:Int) != 2*(t:Int))=false:=by simp;omega
 have w1:IntKind.i64.wrap (2*(t:Int))=2*t:=qu _ (by omega)
 have D:=zF hC
 have aQ:=zF (hp.ext S)
 have HO:=zF ho
 have HB:=zF (hb.below S hP)
 have HP:=zF (fun q G=>zH (hP q G) S.bsize)
 have HH:=zF (hh.below S hQ)
 have HQ:=zF (fun q G=>zH (hQ q G) S.bsize)
 have Hn:=zF hn
 have H:=zF hl
 have Hm:=zF (And.intro hm (And.intro aZ (And.intro M ht)))
 have Hz:=zF hz
 have Hr:=zF hr
 have Hs:=zF hs
 have HV:=zF hV
 have an:=zF S
 have Hq:=zF G
 clear hC hp ho hb hP hh hQ hn hl hm aZ M hz hr hs hV S G hF ht
 go_enter Tryz.func24,Tryz.ntmps24
 go_upto_region 1 with fail
 rw[←al,Hq.out]
 clear al
 go_upto_region 2 with(go_at_call 29;refine aq.out.mono ?_;rintro e wa ⟨rfl,Ea⟩)
 have ab:=Ea.at_ aC
 obtain⟨z0,z1,z2,f0,f1,f2⟩:=jQ ab
 have aB:=onx_c D.out wa (aQ.out.ext Ea)
 rw[HO.out]at aB
 have aR:=zF aB
 have aN:=zF Ea
 clear aC Ea aB aq
 go_upto_region 4 with(go_at_call 52;refine aR.out.mono ?_;rintro e wb ⟨rfl,Eb⟩)
 have ae:=zF (aN.out.trans Eb)
 have a0:=Eb.at_ ab
 obtain⟨B1,aj⟩:=eV (bs.take t)
 obtain⟨B2,ak⟩:=eV (bs.drop t)
 have aW:B1.length=t:=by rw[←aj,zh,Hn.out,H.out];omega
 have aX:B2.length=t:=by rw[←ak,qa,Hn.out,H.out];omega
 have a4:=zF (fun X (i:Ext wb X)=>show RB X P (some ad) cap B1 by
  have:=(HB.out.below (ae.out.trans i) HP.out).takeS t
  rw[aj]at this
  exact this)
 have a5:=zF (fun X (i:Ext wb X)=>show RB X P (some (ad.add t)) (cap-t) B2 by
  have:=(HB.out.below (ae.out.trans i) HP.out).mid (k:=t) (m:=bs.length) (c':=cap-t) (A':=some (ad.add t)) (by rw[Hn.out,H.out];omega) (zG _) (by rw[Hn.out];omega) (by unfold maxLen;omega) (fun _=>rfl)
  rw[zu (by rw[qa];omega),ak]at this
  exact this)
 have ap:=zF (fun X (i:Ext wb X) (q:Nat) (G:P q)=>zH (HP.out q G) (ae.out.trans i).bsize)
 have L1:=zF aW
 have L2:=zF aX
 have N1:=zF (show kO B1=r from by rw[←aj];exact Hr.out)
 have N2:=zF (show kO B2=s from by rw[←ak];exact Hs.out)
 have bf:(t:Int)≤cap:=by have:=H.out;omega
 have bg:(t:Int)≤n:=by have:=H.out;omega
 have bh:(0:Int)≤(t:Int):=by omega
 have c7:¬ cap=t:=by have:=H.out;omega
 have c1:t≤cap:=by have:=H.out;omega
 have c3:n-t=t:=by have:=H.out;omega
 have c4:t≤n:=by have:=H.out;omega
 clear aW aX aj ak ab z0 z1 z2 f0 f1 f2 aR aN Eb
 refine zZ (by kernel_rfl) 10 [0,0,3,7,0,0,48,127,255,511] [] (fun j f X=>match j with
  | 0=>f 0=.slice (some ad) n cap
  | 1=>f 1=.int .i64 (t:Int)
  | 2=>f 2=.slice (some ad) t cap
  | 3=>∃ A k,f 3=.slice A (digs 18446744073709551616 r).length k∧RU X A k (digs 18446744073709551616 r)
  | 4=>f 4=.slice (some ad) n cap
  | 5=>f 5=.int .i64 (t:Int)
  | 6=>f 6=.slice (some (ad.add t)) t (cap-t)
  | 7=>∃ A k,f 7=.slice A (digs 18446744073709551616 s).length k∧RU X A k (digs 18446744073709551616 s)
  | 8=>∃ A k,f 8=.slice A (digs 18446744073709551616 r).length k∧RU X A k (digs 18446744073709551616 r)
  | 9=>∃ A k,f 9=.slice A (digs 18446744073709551616 s).length k∧RU X A k (digs 18446744073709551616 s)
  | _=>True) (by kernel_rfl) [(40,0),(41,1),(42,2),(43,3),(44,4),(45,5),(46,6),(47,7),(10,8),(11,9)] (by kernel_rfl) ?_
 refine zJ 1 9 ?_
 refine zJ 2 8 ?_
 refine zv 3 7 [(40,0),(41,1),(44,4),(45,5),(46,6)] (fun f X i hR K l=>?_) ?_
 · have e0:f 0=_:=hR.out 0 rfl;have e1:f 1=_:=hR.out 1 rfl;simp only[yZ,e0,e1];refine⟨?_⟩;go_simp;exact qY l (s:=by simp only[yZ,e0,e1])
 refine qK 4 6 (fun f=>#[f 2]) (F':=53) (fun f X i hR=>?_) ?_
 · have e2:f 2=_:=hR.out 2 rfl;simp only[e2];have hf:=xr P _ _ B1 X (a4.out X i) (ap.out X i) (by rw[L1.out];omega);rw[L1.out,N1.out]at hf;refine hf.mono ?_;rintro e w2 ⟨U,k1,rfl,hO,R⟩;exact⟨(.slice U (digs 18446744073709551616 r).length k1),rfl,R,fun Y u=>⟨U,k1,rfl,zN hO.ru u⟩⟩
 refine zJ 5 5 ?_
 refine zJ 6 4 ?_
 refine zv 7 3 [(40,0),(41,1),(42,2),(43,3),(44,4),(45,5)] (fun f X i hR K l=>?_) ?_
 · have e4:f 4=_:=hR.out 4 rfl;have e5:f 5=_:=hR.out 5 rfl;simp only[yZ,e4,e5];refine⟨?_⟩;go_simp;exact qY l (s:=by simp only[yZ,e4,e5])
 refine qK 8 2 (fun f=>#[f 6]) (F':=53) (fun f X i hR=>?_) ?_
 · have e6:f 6=_:=hR.out 6 rfl;simp only[e6];have hf:=xr P _ _ B2 X (a5.out X i) (ap.out X i) (by rw[L2.out];omega);rw[L2.out,N2.out]at hf;refine hf.mono ?_;rintro e w2 ⟨U,k1,rfl,hO,R⟩;exact⟨(.slice U (digs 18446744073709551616 s).length k1),rfl,R,fun Y u=>⟨U,k1,rfl,zN hO.ru u⟩⟩
 refine zv 9 1 [(40,0),(41,1),(42,2),(43,3),(44,4),(45,5),(46,6),(47,7)] (fun f X i hR K l=>?_) ?_
 · obtain⟨A3,k3,(L:f 3=_),r3⟩:=hR.out 3 rfl;simp only[yZ,L];refine⟨?_⟩;go_simp;exact l.out _ _ _ (by simp only[yZ,L]) (zT _) trivial (fun Y u=>⟨A3,k3,rfl,zN r3 u⟩)
 refine zv 10 0 [(40,0),(41,1),(42,2),(43,3),(44,4),(45,5),(46,6),(47,7),(10,8)] (fun f X i hR K l=>?_) ?_
 · obtain⟨A7,k7,(F:f 7=_),r7⟩:=hR.out 7 rfl;simp only[yZ,F];refine⟨?_⟩;go_simp;exact l.out _ _ _ (by simp only[yZ,F]) (zT _) trivial (fun Y u=>⟨A7,k7,rfl,zN r7 u⟩)
 refine yF ⟨fun f X i hR aS bi=>?_⟩
 obtain⟨A3,k3,(L:f 3=_),r3⟩:=hR 3 (by decide)
 obtain⟨A7,k7,(F:f 7=_),r7⟩:=hR 7 (by decide)
 obtain⟨A8,k8,(e8:f 8=_),r8⟩:=hR 8 (by decide)
 obtain⟨A9,k9,(e9:f 9=_),r9⟩:=hR 9 (by decide)
 simp only[yZ,L,F,e8,e9]
 clear hR aS bi L F e8 e9
 refine zI ?_
 have a3:=i.at_ a0
 have ac:=zF (ae.out.trans i)
 have I:=zF r8
 have R9:=zF r9
 clear a0 i r3 r7 r8 r9 bf bg bh c7 c1 c3 c4 ae a4 a5 L1 L2 N1 N2 ap w1 bk bj l1 l2 l3
 obtain⟨m1,M⟩:=eV (vX C r)
 obtain⟨m2,am⟩:=eV (vX C s)
 have H5:=zF (zDO D.out X I.out rfl M)
 have H6:=zF (fun Y (u:Ext X Y)=>zDO D.out Y (zN R9.out u) rfl am)
 have T:=HV.out
 rw[M,am]at T
 have bd:=zF M
 have be:=zF am
 clear M am HV
 cases m1
 · obtain rfl:V=false:=by
    rcases T with h|h
    · exact h.2
    · exact absurd h.1 (by decide)
   clear T;go_wp2_with fail;refine H5.out.mono ?_;rintro e wc ⟨rfl,E⟩;have ba:=zF (an.out.trans (ac.out.trans E));clear E;go_wp2;go_ret;exact⟨rfl,ba.out⟩
 cases m2
 · obtain rfl:V=false:=by
    rcases T with h|h
    · exact h.2
    · exact absurd h.2.1 (by decide)
   clear T;go_wp2_with fail;refine H5.out.mono ?_;rintro e wc ⟨rfl,E⟩;go_wp2_with fail;refine(H6.out _ E).mono ?_;rintro e wd ⟨rfl,W⟩;have af:=zF (an.out.trans (ac.out.trans (E.trans W)));clear E W;go_wp2;go_ret;exact⟨rfl,af.out⟩
 obtain⟨rfl,hy⟩:V=true∧VY C z r s x y:=by
  rcases T with h|h
  · exact absurd h.1 (by decide)
  · exact⟨h.2.2.2,h.2.2.1⟩
 obtain⟨v,u1,u2,a,b,d,yi,nv,nz,nd,y1,y2,g1,g2,g3,yd⟩:=hy
 have N:=zF (And.intro yi (And.intro y1 (And.intro y2 (And.intro g1 (And.intro g2 (And.intro g3 yd))))))
 have HN:=zF (And.intro nv (And.intro nz nd))
 clear T yi nv nz nd y1 y2 g1 g2 g3 yd
 go_wp2_with fail
 refine H5.out.mono ?_
 rintro e wc ⟨rfl,E⟩
 go_wp2_with fail
 refine(H6.out _ E).mono ?_
 rintro e wd ⟨rfl,W⟩
 have H7:=zF (zBL D.out wd (zN R9.out (E.trans W)) (zA2 D.out be.out) N.out.1 rfl)
 have af:=zF (E.trans W)
 clear E W H5 H6
 go_wp2_with fail
 refine H7.out.mono ?_
 rintro e we ⟨a7,bl,rfl,a6,Ee⟩
 have aw:=ac.out.trans (af.out.trans Ee)
 have h8:=dA D.out we (HH.out.below aw HQ.out) (fun q G=>zH (HQ.out q G) aw.bsize) Hm.out.1 (by rw[Hm.out.2.2.2];exact Hm.out.2.2.1) Hm.out.2.1
 rw[Hz.out]at h8
 have H8:=zF h8
 have aO:=zF (af.out.trans Ee)
 have ar:=zF a6
 clear h8 aw Ee a6 H7 af
 go_wp2_with fail
 refine H8.out.mono ?_
 rintro e w1 ⟨U,k1,rfl,o1,E1⟩
 have H1:=zF (bB D.out w1 o1.ru (zN ar.out E1) HN.out.2.1 HN.out.1 N.out.2.1 rfl rfl)
 have aJ:=zF (aO.out.trans E1)
 have R1:=zF (zN ar.out E1)
 clear o1 E1 H8 aO ar
 go_wp2_with fail
 refine H1.out.mono ?_
 rintro e w2 ⟨A2,k2,rfl,r2,E2⟩
 have aK:=zF (aJ.out.trans E2)
 have R2:=zF (And.intro r2 (zN R1.out E2))
 clear r2 E2 aJ R1 H1
 go_wp2_with fail
 refine(pu D.out w2).mono ?_
 rintro e w3 ⟨Ax,cx,Ay,cy,rfl,hx,hy,E3⟩
 have h3:=rX D.out w3 (show APt w3 (.agg #[.bool false,.slice Ax C.xl.length cx,.slice Ay C.yl.length cy]) false (val 18446744073709551616 C.xl) (val 18446744073709551616 C.yl)from⟨Ax,Ay,cx,cy,_,_,rfl,hx,hy,rfl,rfl⟩) (zN R2.out.1 E3) (zi (by omega) _)
 rw[N.out.2.2.2.1]at h3
 have H3:=zF h3
 have ag:=zF (aK.out.trans E3)
 have R3:=zF (zN R2.out.2 E3)
 clear hx hy h3 E3 aK R2
 go_wp2_with fail
 refine H3.out.mono ?_
 rintro e w4 ⟨o,rfl,aF,E4⟩
 have aF:PtV w4 w3.heap.size o (some a):=aF
 obtain⟨Bx,dx,By,dy,rfl,ox,oy⟩:=aF
 have aD:=zS w4 (.cells #[.bool false,.slice Bx (digs 18446744073709551616 a.1).length dx,.slice By (digs 18446744073709551616 a.2).length dy] 33)
 have O:=zL w4 (.cells #[.bool false,.slice Bx (digs 18446744073709551616 a.1).length dx,.slice By (digs 18446744073709551616 a.2).length dy] 33)
 obtain⟨ga,ax⟩:=eV w4.heap.size
 rw[ax]at aD
 have Ra:=zF (And.intro (zN ox.ru O) (zN oy.ru O))
 have ao:=zF (ac.out.trans (ag.out.trans (E4.trans O)))
 have R5:=zF (zN R3.out (E4.trans O))
 have I:=zF (zN I.out (ag.out.trans (E4.trans O)))
 have a2:=(ag.out.trans (E4.trans O)).at_ a3
 have Hg:=zF ax
 clear ox oy ax O E4 ag H3 R3 a3 ac R9
 go_upto_region 9 with fail
 rw[Hg.out]
 generalize w4.alloc (.cells #[.bool false,.slice Bx (digs 18446744073709551616 a.1).length dx,.slice By (digs 18446744073709551616 a.2).length dy] 33)=w5 at *
 have aP:=zF (aQ.out.ext ao.out)
 have HL:=zF (And.intro (zA2 D.out bd.out) HN.out.1)
 refine Par.ou (by kernel_rfl) 11 9 (.bool true) [0,0,0,0,14,0,63,127,255,255,0,1535,4095] [10] (fun j f X=>match j with
  | 0=>f 0=.int .i64 c
  | 1=>f 1=.int .i64 c
  | 2=>f 2=.slice A8 (digs 18446744073709551616 r).length k8
  | 3=>f 3=.slice a7 (digs 18446744073709551616 v).length bl
  | 4=>∃ A k,f 4=.slice A (digs 18446744073709551616 u2).length k∧RU X A k (digs 18446744073709551616 u2)
  | 5=>f 5=.agg #[.bool false,p1,p2]
  | 6=>∃ A k B m,f 6=.tuple #[.agg #[.bool false,.slice A (digs 18446744073709551616 b.1).length k,.slice B (digs 18446744073709551616 b.2).length m],.bool true]∧RU X A k (digs 18446744073709551616 b.1)∧RU X B m (digs 18446744073709551616 b.2)
  | 7=>∃ A k B m,f 7=.tuple #[.agg #[.bool false,.slice A (digs 18446744073709551616 b.1).length k,.slice B (digs 18446744073709551616 b.2).length m],.bool true]∧RU X A k (digs 18446744073709551616 b.1)∧RU X B m (digs 18446744073709551616 b.2)
  | 8=>∃ A k B m,f 8=.agg #[.bool false,.slice A (digs 18446744073709551616 b.1).length k,.slice B (digs 18446744073709551616 b.2).length m]∧RU X A k (digs 18446744073709551616 b.1)∧RU X B m (digs 18446744073709551616 b.2)
  | 9=>f 9=.bool true
  | 10=>∃ b,f 10=.pointer (some ⟨b,0,none⟩)∧w5.heap.size≤b∧X.heap[b]?=some (.cells #[.bool false,.slice none 0 0,.slice none 0 0] 33 (0,0))
  | _=>True) (fun f Y=>∃(g:Nat) (A:Option Addr) (k:Nat) (B:Option Addr) (m:Nat),f 10=.pointer (some ⟨g,0,none⟩)∧Ext w5 Y∧Y.heap[g]?=some (.cells #[.bool false,.slice A (digs 18446744073709551616 b.1).length k,.slice B (digs 18446744073709551616 b.2).length m] 33 (0,0))∧RU Y A k (digs 18446744073709551616 b.1)∧RU Y B m (digs 18446744073709551616 b.2)) (by kernel_rfl) (by kernel_rfl) (fun _ _=>Iff.rfl) [(75,0),(76,1),(77,2),(78,3),(79,4),(80,5),(81,6),(74,7),(82,8),(83,9),(15,10)] (by kernel_rfl) (by kernel_rfl) ?_
 refine vG 1 10 rfl rfl (Par.yu.step rfl (vn [(76,1),(77,2),(78,3),(79,4),(80,5),(15,10)] (by kernel_rfl) (fun f X i hR K l=>?_))) ?_
 · simp only[yZ];refine⟨?_⟩;go_simp;exact qY l (s:=by simp only[yZ])
 refine vG 2 9 rfl rfl (Par.yu.step rfl (vn [(75,0),(77,2),(78,3),(80,5),(15,10)] (by kernel_rfl) (fun f X i hR K l=>?_))) ?_
 · simp only[yZ];refine⟨?_⟩;go_simp;exact qY l (s:=by simp only[yZ])
 refine vG 3 8 rfl rfl (Par.yu.step rfl (vn [(75,0),(76,1),(78,3),(80,5),(15,10)] (by kernel_rfl) (fun f X i hR K l=>?_))) ?_
 · simp only[yZ];refine⟨?_⟩;go_simp;exact qY l (s:=by simp only[yZ])
 refine vG 4 7 rfl rfl (Par.yu.step rfl (vn [(75,0),(76,1),(77,2),(80,5),(15,10)] (by kernel_rfl) (fun f X i hR K l=>?_))) ?_
 · simp only[yZ];refine⟨?_⟩;go_simp;exact qY l (s:=by simp only[yZ])
 refine vG 5 6 rfl rfl (Par.yu.step rfl (vn [(75,0),(76,1),(77,2),(78,3),(80,5),(15,10)] (by kernel_rfl) (fun f X i hR K l=>?_))) ?_
 · have e1:f 1=_:=hR.out 1 rfl;have e2:f 2=_:=hR.out 2 rfl;have L:f 3=_:=hR.out 3 rfl;simp only[yZ,e1,e2,L];refine⟨?_⟩;go_simp;refine(bB D.out X (zN I.out i) (zN R5.out i) HL.out.1 HL.out.2 N.out.2.2.1 rfl rfl).mono ?_;rintro e w2 ⟨A,c,rfl,h,R⟩;exact l.out _ (.slice A (digs 18446744073709551616 u2).length c) _ (by simp only[yZ,e1,e2,L]) R trivial (fun Y u=>⟨A,c,rfl,zN h u⟩)
 refine vG 6 5 rfl rfl (Par.yu.step rfl (vn [(75,0),(76,1),(77,2),(78,3),(79,4),(15,10)] (by kernel_rfl) (fun f X i hR K l=>?_))) ?_
 · simp only[yZ];refine⟨zU (by kernel_rfl) (vp (v:=.agg #[.bool false,p1,p2]) (t:=33) 33 (.tmp 5) rfl rfl (i.at_ a2) Tryz.underlying33 rfl vl rfl ?_)⟩;exact qY l (s:=by simp only[yZ])
 refine vG 7 4 rfl rfl (Par.yu.step rfl (vn [(75,0),(76,1),(77,2),(78,3),(79,4),(80,5),(15,10)] (by kernel_rfl) (fun f X i hR K l=>?_))) ?_
 · have e0:f 0=_:=hR.out 0 rfl;obtain⟨A4,c4,(e4:f 4=_),h4⟩:=hR.out 4 rfl;have e5:f 5=_:=hR.out 5 rfl;simp only[yZ,e0,e4,e5];refine⟨?_⟩;go_simp;have hm:=rX D.out X (aP.out.ext i) h4 (zi (by omega) _);rw[N.out.2.2.2.2.1,show(some (some b)).isSome=true from rfl,show(some (some b)).join=some b from rfl]at hm;refine hm.mono ?_;rintro e w2 ⟨o,rfl,⟨A,k,B,m,rfl,o1,o2⟩,R⟩;exact l.out _ (.tuple #[.agg #[.bool false,.slice A (digs 18446744073709551616 b.1).length k,.slice B (digs 18446744073709551616 b.2).length m],.bool true]) _ (by simp only[yZ,e0,e4,e5]) R trivial (fun Y u=>⟨A,k,B,m,rfl,zN o1.ru u,zN o2.ru u⟩)
 refine vG 8 3 rfl rfl (Par.yu.step rfl (vn [(75,0),(76,1),(77,2),(78,3),(79,4),(80,5),(81,6),(15,10)] (by kernel_rfl) (fun f X i hR K l=>?_))) ?_
 · obtain⟨A6,c6,B6,d6,(e6:f 6=_),h6,i6⟩:=hR.out 6 rfl;simp only[yZ,e6];refine⟨?_⟩;go_simp;exact l.out _ _ _ (by simp only[yZ,e6]) (zT _) trivial (fun Y u=>⟨A6,c6,B6,d6,rfl,zN h6 u,zN i6 u⟩)
 refine vG 9 2 rfl rfl (Par.yu.step rfl (vn [(75,0),(76,1),(77,2),(78,3),(79,4),(80,5),(81,6),(74,7),(83,9),(15,10)] (by kernel_rfl) (fun f X i hR K l=>?_))) ?_
 · obtain⟨A7,c7,B7,d7,(F:f 7=_),h7,i7⟩:=hR.out 7 rfl;simp only[yZ,F];refine⟨?_⟩;go_simp;exact l.out _ _ _ (by simp only[yZ,F]) (zT _) trivial (fun Y u=>⟨A7,c7,B7,d7,rfl,zN h7 u,zN i7 u⟩)
 refine vG 10 1 rfl rfl (Par.yu.pure (Par.PuO.intro [(75,0),(76,1),(77,2),(78,3),(79,4),(80,5),(81,6),(74,7),(82,8),(15,10)] (by kernel_rfl) (fun f X X1 i hR K l=>?_))) ?_
 · obtain⟨A7,c7,B7,d7,(F:f 7=_),h7,i7⟩:=hR.out 7 rfl;simp only[yZ,F];refine⟨?_⟩;go_simp;exact Par.zDw l (by simp only[yZ,F])
 refine vG 11 0 rfl rfl (Par.yu.step rfl (vn [(75,0),(76,1),(77,2),(78,3),(79,4),(80,5),(81,6),(74,7),(82,8),(83,9)] (by kernel_rfl) (fun f X i hR K l=>?_))) ?_
 · simp only[yZ];refine⟨?_⟩;go_simp;exact l.out _ _ _ (by simp only[yZ]) (zL _ _) ⟨rfl,by simp⟩ (fun Y u=>⟨_,rfl,i.bsize,u.at_ (zS _ _)⟩)
 refine Par.qT.fin (Par.zDF.intro (fun f X i hR aS K l=>?_) (fun f J aV hS=>?_))
 · obtain⟨A8,c8,B8,d8,(e8:f 8=_),h8,i8⟩:=hR.out 8 rfl;obtain⟨bn,(Z:f 10=_),bm,aA⟩:=hR.out 10 rfl;simp only[yZ,e8,Z];refine⟨zU (by kernel_rfl) (jX (cs':=#[.bool false,.slice A8 (digs 18446744073709551616 b.1).length c8,.slice B8 (digs 18446744073709551616 b.2).length d8]) (t:=33) 33 (.tmp 15) (.tmp 82) rfl rfl rfl rfl aA vl rfl (ur _ _ _ _ _ _ _) (fun Y h1 h2 h3=>?_))⟩;refine Par.zBy l (by simp only[yZ,e8,Z]) ⟨_,A8,c8,B8,d8,Z,h2.ext i bm,h1,h8.offJ h2 aA (by kernel_rfl),i8.offJ h2 aA (by kernel_rfl)⟩
 obtain⟨gb,Ab,kb,Bb,mb,Z,aa,a1,aT,aU⟩:∃(g:Nat) (A:Option Addr) (k:Nat) (B:Option Addr) (m:Nat),f 10=.pointer (some ⟨g,0,none⟩)∧Ext w5 J∧J.heap[g]?=some (.cells #[.bool false,.slice A (digs 18446744073709551616 b.1).length k,.slice B (digs 18446744073709551616 b.2).length m] 33 (0,0))∧RU J A k (digs 18446744073709551616 b.1)∧RU J B m (digs 18446744073709551616 b.2):=hS
 simp only[yZ,aV,Z]
 clear aV Z
 refine zO (fun K l=>⟨zU (by kernel_rfl) ?_⟩)
 go_simp
 refine l.out _ _ ?_
 refine zI ?_
 have ab:=aa.at_ aD
 have au:=add_c D.out J (show APt J (.agg #[.bool false,.slice Bx (digs 18446744073709551616 a.1).length dx,.slice By (digs 18446744073709551616 a.2).length dy]) false a.1 a.2 from⟨Bx,By,dx,dy,_,_,rfl,zN Ra.out.1 aa,zN Ra.out.2 aa,zi (by omega) _,zi (by omega) _⟩) (show APt J (.agg #[.bool false,.slice Ab (digs 18446744073709551616 b.1).length kb,.slice Bb (digs 18446744073709551616 b.2).length mb]) false b.1 b.2 from⟨Ab,Bb,kb,mb,_,_,rfl,aT,aU,zi (by omega) _,zi (by omega) _⟩)
 rw[N.out.2.2.2.2.2.1]at au
 have aH:=zF au
 have aL:=zF (ao.out.trans aa)
 have R6:=zF (zN I.out aa)
 obtain⟨y0,y1,y2,q0,q1,q2⟩:=jQ ab
 obtain⟨z0,z1,z2,f0,f1,f2⟩:=jQ a1
 clear ab a1 aD a2 au aT aU aa ao I R5 Ra aP HL
 go_wp2_with fail
 refine aH.out.mono ?_
 rintro e w7 ⟨o,rfl,aG,E7⟩
 have aG:PtV w7 J.heap.size o (some d):=aG
 obtain⟨Dx,ex,Dy,ey,rfl,ox,oy⟩:=aG
 obtain⟨lx,az⟩:=eV ((digs 18446744073709551616 d.1).length)
 obtain⟨ly,aY⟩:=eV ((digs 18446744073709551616 d.2).length)
 rw[az,aY]
 have aE:=zS w7 (.cells #[.bool false,.slice Dx lx ex,.slice Dy ly ey] 33)
 have ai:=zL w7 (.cells #[.bool false,.slice Dx lx ex,.slice Dy ly ey] 33)
 obtain⟨gd,ay⟩:=eV w7.heap.size
 rw[ay]at aE
 have RD:=zF (zN ox.ru ai)
 have aM:=zF (aL.out.trans (E7.trans ai))
 have I:=zF (zN R6.out (E7.trans ai))
 have bb:=zF ay
 have bc:=zF az
 clear ox oy az aY ay ai E7 aL aH R6 y0 y1 y2 q0 q1 q2 z0 z1 z2 f0 f1 f2
 go_upto_region 11 with fail
 rw[bb.out]
 generalize w7.alloc (.cells #[.bool false,.slice Dx lx ex,.slice Dy ly ey] 33)=w8 at *
 have aI:=zF (mB D.out (B:=Dy) (cb:=ey) (ly:=ly) false w8 RD.out HN.out.2.2 N.out.2.2.2.2.2.2 bc.out)
 obtain⟨z0,z1,z2,f0,f1,f2⟩:=jQ aE
 clear aE RD
 go_wp2_with fail
 refine aI.out.mono ?_
 rintro e w9 ⟨A9,k9,rfl,r9,E9⟩
 have av:=xO _ _ A9 A8 k9 k8 _ _ w9 r9 (zN I.out E9)
 rw[zi (by omega),bJ]at av
 have a8:=zF av
 have a9:=zF (aM.out.trans E9)
 clear r9 av E9 aM aI I
 go_wp2_with fail
 refine a8.out.mono ?_
 rintro e bo ⟨rfl,nn,rfl⟩
 go_wp2
 go_ret
 exact⟨rfl,an.out.trans (a9.out.trans (kE _ _))⟩
end Go.Proofs.YtaemogcomplhiaaGreatDoor.Ec
namespace Go.Proofs.YtaemogcomplhiaaGreatDoor.Ec
open Go.RowKit Go.Shelf
open Sha
attribute [local go_sem] Oper.semAt_some
theorem rS {w X:World}{g:Nat}{b:Bool}{f j:Option Addr}{n1 c1 n m:Nat}{T:TypeId}{P:Nat→Prop}{A:Option Addr}{c:Nat}{d:List Nat}(h:RB w P A c d)(o:∀ k,P k→k<w.heap.size)(p:w.heap[g]?=some (.cells #[.bool b,.slice f n1 c1,.slice j n m] T (0,0)))(r:jE g w X):RB X P A c d :=
 h.by_ fun q u t a=>(qB (r.block _ (o _ t) (fun e=>by
  unfold World.cell? at a
  rw[e,p]at a
  simp only at a
  split at a
  · cases a
  · have s:=xC (l:=[Value.bool b,.slice f n1 c1,.slice j n m]) (i:=q.off) (by simpa using a)
    simp at s))).trans a
theorem zCs {w X:World}{g:Nat}{b:Bool}{f i:Option Addr}{n1 c1 u m:Nat}{T:TypeId}{e:Nat}{k v:List Nat}{n:Int}(h:DR w e k v n)(d:w.heap[g]?=some (.cells #[.bool b,.slice f n1 c1,.slice i u m] T (0,0)))(a:jE g w X)(t:e≠g):DR X e k v n:=by
 obtain⟨j,o,l,cv,c,p,q,r,s⟩:=h;exact⟨j,o,l,cv,(a.block e (qd c) t).trans c,(rS p (fun _ h=>h) d a).mono (fun _ h=>zH h a.size),(rS q (fun _ h=>h) d a).mono (fun _ h=>zH h a.size),r,s⟩
theorem zDx {w:World}{base:Nat}{v:Value}{S:Option (Nat×Nat)}(h:PtV w base v S):∃ A c B d,v=.agg #[.bool S.isNone,.slice A (digs 18446744073709551616 (S.elim 0 (·.1))).length c,.slice B (digs 18446744073709551616 (S.elim 0 (·.2))).length d]∧OB w base A c (digs 18446744073709551616 (S.elim 0 (·.1)))∧OB w base B d (digs 18446744073709551616 (S.elim 0 (·.2))):=by
 cases S with
 | none =>
   obtain rfl:v=yU:=h;have e:(digs 18446744073709551616 (Option.elim (none:Option (Nat×Nat)) 0 (·.1)))=[]:=by rw[show Option.elim (none:Option (Nat×Nat)) 0 (·.1)=0 from rfl,qW]
   have a:(digs 18446744073709551616 (Option.elim (none:Option (Nat×Nat)) 0 (·.2)))=[]:=by rw[show Option.elim (none:Option (Nat×Nat)) 0 (·.2)=0 from rfl,qW]
   exact⟨none,0,none,0,by rw[e,a];rfl,by rw[e];exact OB.nil_ w base,by rw[a];exact OB.nil_ w base⟩
 | some p =>
   obtain⟨A,c,B,d,rfl,b,o2⟩:=h;exact⟨A,c,B,d,rfl,b,o2⟩
theorem mr {fn:Func}{R:Ending→World→Prop}{a:Act}{W:World}{u p t:Tmp}{g:Nat}{ty:TypeId}{fr:Nat×Nat}{x0 x1 x2 v b:Value}(h:fn.results=#[.tmp u,.cell p 33,.tmp t])(e:a.tmps.getD p undef=.pointer (some ⟨g,0,none⟩))(k:a.tmps.getD u undef=v)(i:a.tmps.getD t undef=b)(c:a.defers=[])
 (d:W.heap[g]?=some (.cells #[x0,x1,x2] ty fr)) (hR:R (.returned (.tuple #[v,.agg #[x0,x1,x2],b])) W):bodyPost Tryz.prog fn R .ret a W:=by
 refine vg (v:=.tuple #[v,.agg #[x0,x1,x2],b]) ?_ c hR
 have f:a.tmps[p]?.getD undef=.pointer (some ⟨g,0,none⟩):=by simpa using e
 have l:a.tmps[u]?.getD undef=v:=by simpa using k
 have j:a.tmps[t]?.getD undef=b:=by simpa using i
 simp[results,h,f,l,j,asAddr,run_loadVar_row W g ty 33 #[x0,x1,x2] fr _ d Tryz.underlying33 rfl vl,Result.andThen]
theorem zDQ {c:Int}{C:Crv}(y:IsC c C){b x:Nat}{k v:List Nat}{num:Int}{S:Option (Nat×Nat)}(w:World)(hk:KW w)(K:DR w b k v num)(hn:0≤num)(ab:num<1000000000)(X:yR C k v=x)(hm:uO C false (val 18446744073709551616 C.xl) (val 18446744073709551616 C.yl) x=some S) :
 Calls Tryz.prog 10 #[.int .i64 c,.pointer (some ⟨b,0,none⟩)] w fun e w'=>∃ A1 c1 A2 c2 i c3,e=.returned (.tuple #[.slice A1 (digs 18446744073709551616 x).length c1,.agg #[.bool S.isNone,.slice A2 (digs 18446744073709551616 (S.elim 0 (·.1))).length c2,.slice i (digs 18446744073709551616 (S.elim 0 (·.2))).length c3],.int .i64 0]) ∧
  OB w' w.heap.size A1 c1 (digs 18446744073709551616 x)∧OB w' w.heap.size A2 c2 (digs 18446744073709551616 (S.elim 0 (·.1)))∧OB w' w.heap.size i c3 (digs 18446744073709551616 (S.elim 0 (·.2)))∧DR w' b (bh C k v).1 (bh C k v).2 (num+1)∧Fr b w.heap.size w w':=by
 obtain⟨t,W⟩:=eV C.size
 have hF:=y.fine
 have t1:32≤t:=by rw[←W];exact hF.pos
 have aj:((t:Int)==0)=false:=by simp;omega
 obtain⟨W0,J⟩:=eW (w.alloc (.cells #[.bool false,.slice none 0 0,.slice none 0 0] 33))
 have D:=zS w (.cells #[.bool false,.slice none 0 0,.slice none 0 0] 33)
 have z:=zL w (.cells #[.bool false,.slice none 0 0,.slice none 0 0] 33)
 rw[←J]at D z
 obtain⟨q,P⟩:=eV w.heap.size
 rw[P]at D
 have G:=zF (bU y W0)
 rw[W]at G
 have O:=ap y k v
 rw[X]at O
 have ac:cX C x=some S:=by unfold cX;rw[O];exact hm
 have HC:=zF y
 have HK:=zF (hk.ext z)
 have HD:=zF (K.ext z)
 have HB:=zF K.lt
 have Hn:=zF (And.intro hn ab)
 have Hx:=zF X
 have af:=zF ac
 have ae:=zF z
 have B:=zF P
 clear y hk K hn ab X hm O ac z P hF W
 obtain⟨l,V⟩:=eV S.isNone
 obtain⟨d1,L⟩:=eV (S.elim 0 (·.1))
 obtain⟨d2,M⟩:=eV (S.elim 0 (·.2))
 rw[V,L,M]
 have r:=zF (And.intro V (And.intro L M))
 clear V L M
 go_enter Tryz.func10,Tryz.ntmps10
 go_upto_region 1 with fail
 rw[←J,B.out]
 clear J
 go_upto_region 3 with(go_at_call 29;refine G.out.mono ?_;rintro e wa ⟨rfl,m⟩)
 have H:=nx HC.out wa (HK.out.ext m) (HD.out.ext m) Hn.out.1 Hn.out.2
 rw[Hx.out]at H
 have H3:=zF H
 have A:=zF (ae.out.trans m)
 have U:=m.at_ D
 clear H D G m
 go_upto_region 4 with(go_at_call 31;refine H3.out.mono ?_;rintro e w3 ⟨i,c3,rfl,o3,d3,f3⟩)
 have ad:w3.heap[q]?=some (.cells #[.bool false,.slice none 0 0,.slice none 0 0] 33 (0,0)):=by
  rw[f3.block q (qd U) (by have:=HB.out;have:=B.out;omega)];exact U
 have I:=fO (.inl HC.out) _ i c3 (digs 18446744073709551616 x) w3 o3.ru (fun _ h=>h)
 rw[zi (by omega),af.out]at I
 have H4:=zF I
 have O3:=zF o3
 have D3:=zF d3
 have n:=zF ((jc (b:=b) A.out (zG _)).trans (f3.mono A.out.bsize))
 clear I o3 d3 f3 U H3
 go_wp2_with fail
 refine H4.out.mono ?_
 rintro e w4 ⟨o,rfl,ah,E⟩
 obtain⟨a,f,d,g,rfl,Z,oy⟩:=zDx (S:=S) ah
 rw[r.out.2.1]at Z
 rw[r.out.2.2]at oy
 rw[r.out.1,r.out.2.1,r.out.2.2]
 have Q:=zS w4 (.cells #[.bool l,.slice a (digs 18446744073709551616 d1).length f,.slice d (digs 18446744073709551616 d2).length g] 33)
 have u:=zL w4 (.cells #[.bool l,.slice a (digs 18446744073709551616 d1).length f,.slice d (digs 18446744073709551616 d2).length g] 33)
 obtain⟨ga,N⟩:=eV w4.heap.size
 rw[N]at Q
 have Ra:=zF (And.intro ((Z.below u (zG _)).mono n.out.size) ((oy.below u (zG _)).mono n.out.size))
 have p:=zF (E.trans u)
 have Hg:=zF N
 have T:=(E.trans u).at_ ad
 clear Z oy N u E H4 ad
 go_upto_region 5 with fail
 rw[Hg.out]
 generalize w4.alloc (.cells #[.bool l,.slice a (digs 18446744073709551616 d1).length f,.slice d (digs 18446744073709551616 d2).length g] 33)=w5 at *
 obtain⟨y0,y1,y2,q0,q1,q2⟩:=jQ Q
 obtain⟨z0,z1,z2,f0,f1,f2⟩:=jQ T
 have s:=zF T
 clear T Q
 go_region
 go_wp2
 generalize hY:((w5.setCell ⟨q,0,none⟩ (.bool l)).setCell ⟨q,1,none⟩ (.slice a (digs 18446744073709551616 d1).length f)).setCell ⟨q,2,none⟩ (.slice d (digs 18446744073709551616 d2).length g)=Y
 have R:=xG s.out (.bool l) (.slice a (digs 18446744073709551616 d1).length f) (.slice d (digs 18446744073709551616 d2).length g)
 have j:=mU w5 q (.bool l) (.slice a (digs 18446744073709551616 d1).length f) (.slice d (digs 18446744073709551616 d2).length g)
 rw[hY]at R j
 try rw[uU]
 have he:b≠q:=by have:=HB.out;have:=B.out;omega
 have ag:w.heap.size≤q:=by rw[B.out];exact zG _
 have aa:=zCs (DR.ext D3.out p.out) s.out j he
 have ai:=p.out
 have F:=zF (n.out.trans ((jc (b:=b) p.out n.out.size).trans (Fr.justTo (b:=b) j ag (zK n.out.size p.out.bsize))))
 have o5:=(O3.out.below p.out (zG _)).just j s.out (by decide)
 have r1:=Ra.out.1.just j s.out (by decide)
 have r2:=Ra.out.2.just j s.out (by decide)
 first
  | exact mr rfl rfl rfl rfl rfl R ⟨i,c3,a,f,d,g,rfl,o5.mono A.out.bsize,r1,r2,aa,F.out⟩
  | exact mr rfl rfl rfl rfl rfl (show Y.drew.heap[q]?=_ from R) ⟨i,c3,a,f,d,g,rfl,(o5.below (qp (zo _ Y) 1) (zG _)).mono A.out.bsize,r1.below (qp (zo _ Y) 1) (zG _),r2.below (qp (zo _ Y) 1) (zG _),aa.ext (qp (zo _ Y) 1),F.out.trans (jc (qp (zo _ Y) 1) F.out.size)⟩
theorem zCn {c:Int}(g1:c≠1)(o:c≠2)(v:Value)(w:World) :
 Calls Tryz.prog 10 #[.int .i64 c,v] w fun e w'=>e=.returned (.tuple #[.slice none 0 0,yU,.int .i64 7])∧Ext w w':=by
 obtain⟨W0,g⟩:=eW (w.alloc (.cells #[.bool false,.slice none 0 0,.slice none 0 0] 33))
 have a:=zS w (.cells #[.bool false,.slice none 0 0,.slice none 0 0] 33)
 have f:=zL w (.cells #[.bool false,.slice none 0 0,.slice none 0 0] 33)
 rw[←g]at a f
 obtain⟨q,h⟩:=eV w.heap.size
 rw[h]at a
 have m:=zF (zAM g1 o W0)
 have k:=zF f
 have j:=zF h
 clear f h
 go_enter Tryz.func10,Tryz.ntmps10
 go_upto_region 1 with fail
 rw[←g,j.out]
 clear g
 go_wp2_with fail
 refine m.out.mono ?_
 rintro e p ⟨rfl,b⟩
 go_wp2_with fail
 refine(cM p).mono ?_
 rintro e w2 ⟨rfl,d⟩
 have i:=(b.trans d).at_ a
 obtain⟨s,z1,t,r,f1,f2⟩:=jQ i
 have l:=zF (k.out.trans (b.trans d))
 have n:=zF i
 clear a i b d
 unfold yU
 go_wp2
 exact mr rfl rfl rfl rfl rfl (xG n.out _ _ _) ⟨rfl,xi l.out (by rw[j.out];exact zG _) _ _ _⟩
theorem zCp {c:Int}{C:Crv}(i:IsC c C){b x:Nat}{k v:List Nat}{num:Int}{d:Nat×Nat}(w:World)(l:KW w)(j:DR w b k v num)(n:0≤num)(o:num<1000000000)(p:yR C k v=x)(m:uO C false (val 18446744073709551616 C.xl) (val 18446744073709551616 C.yl) x=some (some d)) :
 Calls Tryz.prog 10 #[.int .i64 c,.pointer (some ⟨b,0,none⟩)] w fun e w'=>∃ a c1 f h g c3,e=.returned (.tuple #[.slice a (digs 18446744073709551616 x).length c1,.agg #[.bool false,.slice f (digs 18446744073709551616 d.1).length h,.slice g (digs 18446744073709551616 d.2).length c3],.int .i64 0]) ∧
  OB w' w.heap.size a c1 (digs 18446744073709551616 x)∧OB w' w.heap.size f h (digs 18446744073709551616 d.1)∧OB w' w.heap.size g c3 (digs 18446744073709551616 d.2)∧DR w' b (bh C k v).1 (bh C k v).2 (num+1)∧Fr b w.heap.size w w':=zDQ i w l j n o p m
theorem litm (w:World)(bs:List Nat)(a:∀ x∈bs,x<256)(d:bs.length≤1000000){cs:Array Value}(b:(bys bs).toArray=cs)(f:Nat×Nat) :
 RB (w.alloc (.cells cs 5 f)) (fun g=>g=w.heap.size) (some ⟨w.heap.size,0,none⟩) bs.length bs:=by
 subst b
 refine⟨⟨zG _,by unfold maxLen;omega,by simp[bys],fun _=>⟨_,rfl,rfl,fun j u c=>?_⟩⟩,a,by omega⟩
 rw[yW,World.cell?,zS]
 simpa using c
theorem cvm (w:World)(cs:Array Value)(n c:Nat):(convert 22 22 (.slice (some ⟨w.heap.size,0,none⟩) n c)).run Tryz.prog (w.alloc (.cells cs 5))=.ok (.slice (some ⟨w.heap.size,0,none⟩) n c) (w.alloc (.cells cs 5 (cs.size,cs.size+1))) :=
 Lib.run_convert_bytes_const (P:=Tryz.prog) w 22 5 cs n c Tryz.underlying22 Tryz.underlying5
theorem mg (w:World)(bs:List Nat)(a:∀ x∈bs,x<256)(c:bs.length≤1000000){cs:Array Value}(b:(bys bs).toArray=cs) :
 ∃ W,w.alloc (.cells cs 5 (cs.size,cs.size+1))=W∧Ext w W∧RB W (fun g=>g<W.heap.size) (some ⟨w.heap.size,0,none⟩) bs.length bs∧w.heap.size<W.heap.size :=
 ⟨_,rfl,zL _ _,(litm w bs a c b _).mono fun q d=>by rw[zz];omega,by rw[zz];omega⟩
theorem on_q:onQ vH false eQ.1 eQ.2=true:=by decide +kernel
theorem n_r:kO ((bytesOf eR' 32++bytesOf eS 32).take vH.size)=eR':=by decide +kernel
theorem n_s:kO ((bytesOf eR' 32++bytesOf eS 32).drop vH.size)=eS:=by decide +kernel
theorem may_r:vX vH eR'=true:=by decide +kernel
theorem may_s:vX vH eS=true:=by decide +kernel
theorem zEE:qD eWv≤4000∧qD (kO [104,97,115,104])≤4000∧qD eR.1≤4000:=by decide +kernel
theorem rk:(bytesOf eR' 32++bytesOf eS 32).length=64:=by rw[zf,vN,vN]
theorem zDL {W X:World}{base b c:Nat}{A:Option Addr}{l:List Nat}(h:OB W base A c l)(a:Fr b W.heap.size W X)(f:b<base):RU X A c l :=
 (h.rn.keep fun p d=>qB (a.block _ d.2 (by have:=d.1;omega))).mono fun q e=>zH e.2 a.size
theorem vy_x:VY vH (kO [104,97,115,104]) eR' eS eQ.1 eQ.2:=⟨eWv,eU1,eU2,eA,eB,eR,inv_s,zEE.1,zEE.2.1,zEE.2.2,dw,dv,zEH,zEG,zEd,e_r⟩
theorem cS (w:World)(C:KW w):Calls Tryz.prog 6 #[] w fun e w'=>e=.returned (.bool true)∧Ext w w':=by
 obtain⟨W1,z,p,ac,aj⟩:=mg w [120] (by decide) (by decide) (cs:=#[.int .u8 120]) rfl;have c:=cvm w #[.int .u8 120] 1 1;simp only[qZ,jP,jk,Nat.reduceAdd]at c z;rw[z]at c;have v:=zF (ma W1 (C.ext p) ac (fun _ h=>h) (by decide));rw[zED]at v;have M:=zF C;have s:=zF p;clear ac aj p C;go_enter Tryz.func6,Tryz.ntmps6;go_wp2_with fail;refine v.out.mono ?_;rintro e w2 ⟨b,rfl,hb,A,W⟩;have y:=s.out.trans W;have J:=zF y;have HB:=zF (zK s.out.bsize hb);have aa:=A.lt;have x:=zCp dh w2 (M.out.ext y) A (by omega) (by omega) zD0 zCc;rw[st_1]at x;have H:=zF x;clear c z hb A x W y v s;go_wp2_with fail;refine H.out.mono ?_;rintro e w3 ⟨A1,c1,g,k,j,c3,rfl,o1,o2,o3,S,f3⟩;obtain⟨o,D⟩:=eV ((digs 18446744073709551616 eQ.1).length);obtain⟨ly,E⟩:=eV ((digs 18446744073709551616 eQ.2).length);rw[D,E];have F:=zS w3 (.cells #[.bool false,.slice g o k,.slice j ly c3] 33);have f:=zL w3 (.cells #[.bool false,.slice g o k,.slice j ly c3] 33);obtain⟨gp,B⟩:=eV w3.heap.size;rw[B]at F;have P:=zF B;have L:=zF f3;have u:=zF f;have m:=zF (And.intro (o1.below f (zG _)) (And.intro (o2.below f (zG _)) (o3.below f (zG _))));have r:=zF (S.ext f);have N:=zF (And.intro D E);have n:=zF aa;have t:=zF (f3.ext' J.out HB.out J.out.bsize);clear D E B o1 o2 o3 S f3 f H aa;go_upto_region 3 with fail;rw[P.out];generalize w3.alloc (.cells #[.bool false,.slice g o k,.slice j ly c3] 33)=w4 at *;obtain⟨W5,Y,a,ae,ak⟩:=mg w4 [104,97,115,104] (by decide) (by decide) (cs:=#[.int .u8 104,.int .u8 97,.int .u8 115,.int .u8 104]) rfl;have c:=cvm w4 #[.int .u8 104,.int .u8 97,.int .u8 115,.int .u8 104] 4 4;simp only[qZ,jP,jk,Nat.reduceAdd]at c Y;rw[Y]at c;have T:=zDi (b:=b) (base:=w2.heap.size) (num:=0+1) W5 (M.out.ext (t.out.trans (u.out.trans a))) (r.out.ext a) (m.out.1.below a (zG _)) n.out ae (fun _ h=>h) (by omega) (by omega);have I:=zF T;have Q:=zF (a.at_ F);have O:=zF (And.intro (m.out.2.1.below a (zG _)) (m.out.2.2.below a (zG _)));have K:=zF (t.out.trans (u.out.trans a));have ai:=zF (show w2.heap.size≤gp from by rw[←P.out];exact L.out.size);have am:=zF (show b<W5.heap.size from zH r.out.lt a.bsize);clear a ae ak T F m u t r L;go_wp2_with fail;refine I.out.mono ?_;rintro e w6 ⟨A6,c6,rfl,G,l⟩;obtain⟨ad,rfl,_⟩:=G.at_ (i:=0) (by rw[rk];decide);have ab:=l.at_ (qd Q.out) (by have:=ai.out;have:=n.out;omega) Q.out;have rx:=zDL O.out.1 l n.out;have ry:=zDL O.out.2 l n.out;have X:=l.ext' K.out HB.out K.out.bsize;obtain⟨R,Z,d,af,al⟩:=mg w6 [104,97,115,104] (by decide) (by decide) (cs:=#[.int .u8 104,.int .u8 97,.int .u8 115,.int .u8 104]) rfl;have c:=cvm w6 #[.int .u8 104,.int .u8 97,.int .u8 115,.int .u8 104] 4 4;simp only[qZ,jP,jk,Nat.reduceAdd]at c Z;rw[Z]at c
 have U:=oZ (V:=true) dh R (show APt R (.agg #[.bool false,.slice g o k,.slice j ly c3]) false eQ.1 eQ.2 from by
  rw[←N.out.1,←N.out.2]
  exact⟨g,j,k,c3,_,_,rfl,zN rx d,zN ry d,zi (by omega) _,zi (by omega) _⟩) on_q (G.below d (fun _ h=>h)) (fun q hq=>zH hq d.bsize) rk rfl af (fun _ h=>h) rfl (by decide) (by decide) rfl n_r n_s (.inr ⟨may_r,may_s,vy_x,rfl⟩)
 have H7:=zF U;have ag:=zF (X.trans d);obtain⟨y0,y1,y2,q0,q1,q2⟩:=jQ ab;clear G l rx ry X d af al U I ab;go_wp2_with fail;refine H7.out.mono ?_;rintro e w8 ⟨rfl,E8⟩;have ah:=zF (ag.out.trans E8);go_wp2;go_ret;exact⟨rfl,ah.out⟩
end Go.Proofs.YtaemogcomplhiaaGreatDoor.Ec
namespace Go.Proofs.YtaemogcomplhiaaGreatDoor
open Go.RowKit
open Sha
theorem wT (x:W)(n s:Nat)(w:World)(c:IntKind.u64.wrap (32-(n:Int))=(s:Int))(h:n+s=32) :
 Calls Tryz.prog 155 #[.int .u32 (x.toNat:Int),.int .u64 (n:Int)] w fun e w'=>e=.returned (.int .u32 ((rr n x).toNat:Int))∧w'=w:=by
 have a:((x >>> n) ||| (x <<< s))=rr n x:=by unfold rr;rw[show s=32-n by omega,BitVec.or_comm]
 have b:=zF a
 clear a
 have d:¬(n:Int)<0:=by omega
 have f:¬(s:Int)<0:=by omega
 go_enter Tryz.func155,Tryz.ntmps155
 go_wp2_with fail
 go_ret
 refine⟨?_,rfl⟩
 show Ending.returned (.int .u32 (bits .or .u32 ((x.toNat:Int)/2^n) ((x.toNat:Int)*2^s%4294967296)))=_
 rw[xy,fV,gO,b.out]
theorem vZ (x:W)(n:Nat)(w:World)(a:n=2∨n=6∨n=7∨n=11∨n=13∨n=17∨n=18∨n=19∨n=22∨n=25) :
 Calls Tryz.prog 155 #[.int .u32 (x.toNat:Int),.int .u64 (n:Int)] w fun e w'=>e=.returned (.int .u32 ((rr n x).toNat:Int))∧w'=w:=by
 rcases a with rfl|rfl|rfl|rfl|rfl|rfl|rfl|rfl|rfl|rfl
 · exact wT x 2 30 w (by kernel_rfl) rfl
 · exact wT x 6 26 w (by kernel_rfl) rfl
 · exact wT x 7 25 w (by kernel_rfl) rfl
 · exact wT x 11 21 w (by kernel_rfl) rfl
 · exact wT x 13 19 w (by kernel_rfl) rfl
 · exact wT x 17 15 w (by kernel_rfl) rfl
 · exact wT x 18 14 w (by kernel_rfl) rfl
 · exact wT x 19 13 w (by kernel_rfl) rfl
 · exact wT x 22 10 w (by kernel_rfl) rfl
 · exact wT x 25 7 w (by kernel_rfl) rfl
theorem zAB (P:Nat→Prop)(A:Option Addr)(c:Nat)(bs:List Nat)(w:World)(h:RB w P A c bs)(s:4≤bs.length) :
 Calls Tryz.prog 151 #[.slice A bs.length c] w fun e w'=>e=.returned (.int .u32 ((be bs 0).toNat:Int))∧Ext w w':=by
 obtain⟨a,rfl,c0,f⟩:=h.dg (i:=0) (by omega)
 obtain⟨p,l,c1,g⟩:=h.dg (i:=1) (by omega)
 obtain⟨q,m,d,j⟩:=h.dg (i:=2) (by omega)
 obtain⟨a3,n,c3,k⟩:=h.dg (i:=3) (by omega)
 cases l;cases m;cases n
 have r:=h.cap
 rw[cL f]at c0;rw[cL g]at c1;rw[cL j]at d;rw[cL k]at c3
 have b:be bs 0=(o (dg bs 0) <<< 24) ||| (o (dg bs 1) <<< 16) ||| (o (dg bs 2) <<< 8) ||| o (dg bs 3):=rfl
 rw[b]
 clear b
 generalize o (dg bs 0)=x0 at *
 generalize o (dg bs 1)=x1 at *
 generalize o (dg bs 2)=x2 at *
 generalize o (dg bs 3)=x3 at *
 simp[Addr.add]at c0 c1 d c3
 have t:(0:Int)<(bs.length:Int):=by omega
 have u:(1:Int)<(bs.length:Int):=by omega
 have v:(2:Int)<(bs.length:Int):=by omega
 have x:(3:Int)<(bs.length:Int):=by omega
 clear f g j k
 go_enter Tryz.func151,Tryz.ntmps151
 go_wp2_with fail
 go_quiet (fail)
 go_wp2_with fail
 go_ret
 refine⟨?_,kE _ _⟩
 show Ending.returned (.int .u32 (bits .or .u32 (bits .or .u32 (bits .or .u32 ((x0.toNat:Int)*16777216%4294967296) ((x1.toNat:Int)*65536%4294967296)) ((x2.toNat:Int)*256%4294967296)) (x3.toNat:Int)))=_
 rw[show(16777216:Int)=2^24 from rfl,show(65536:Int)=2^16 from rfl,show(256:Int)=2^8 from rfl,xy,xy,xy,gO,gO,gO]
theorem zA5 (w:World) :
 Calls Tryz.prog 154 #[] w fun e w'=>e=.returned (.slice (some ⟨w.heap.size,0,none⟩) 64 64)∧VB w' w.heap.size kk 144∧Ext w w':=by
 go_enter Tryz.func154,Tryz.ntmps154
 go_wp2_with fail
 go_ret
 exact⟨rfl,zS _ _,zL _ _⟩
theorem cvb (x:W)(k n m:Nat)(a:m=2^k)(h:x.toNat/m%256=n):Value.int .u8 (IntKind.u8.wrap ((x >>> k).toNat:Int))=.int .u8 (n:Int):=by
 rw[IntKind.wrap_u8,BitVec.toNat_ushiftRight,Nat.shiftRight_eq_div_pow,←a,←h];rfl
theorem cvb0 (x:W)(n:Nat)(h:x.toNat%256=n):Value.int .u8 (IntKind.u8.wrap (x.toNat:Int))=.int .u8 (n:Int):=by
 rw[IntKind.wrap_u8,←h];rfl
theorem zBl {o:Oper}{a:Act}{K:Act→World→Prop}{Q:Exit→Act→World→Prop}{w:World}(s x:Operand)(p:o.op=.call { callee:=.builtin .append,args:=#[s,x],argTypes:=#[22,22] })(base:Nat){A e:Option Addr}{c f:Nat}{bs cs:List Nat}{B:Nat→Prop}
 (q:a.eval s=.slice A bs.length c) (g:OW w base A c bs) (t:a.eval x=.slice e cs.length f) (k:RB w B e f cs) (E:bs.length+cs.length≤100000000) (i:base≤w.heap.size)
 (h:∀ A' c' w',OW w' base A' c' (bs++cs)→Below base w w'→K (a.put o.dst (.slice A' (bs++cs).length c')) w'):o.wp Tryz.prog a w K Q:=by
 obtain⟨C,n,v,y,z⟩:=yz ub
 refine fU w s x 22 p base 5 C (.int .u8 0) 1 1 Tryz.underlying22 n v y z rfl (by decide) _ bs.length (bys bs) q g.1 B e cs.length f (bys cs) t k.1 (by intro u r;obtain⟨b,_,rfl⟩:=List.mem_map.1 r;rfl) (bs.length+cs.length) rfl (by unfold maxLen;omega) (by omega) i ?_
 intro A' c' w' l m D
 have j:(bs++cs).length=bs.length+cs.length:=zf
 refine(j▸h A' c' w' ⟨?_,?_⟩ ?_:_)
 · rw[j,show bys (bs++cs)=bys bs++bys cs by simp[bys]];exact l
 · intro b d;rcases List.mem_append.1 d with d|d
   · exact g.2 b d
   · exact k.2.1 b d
 · exact Below.grown (zo base w) m i (ua g.1)
theorem RB.lit8' (w:World)(bs:List Nat)(a:∀ x∈bs,x<256)(c:bs.length≤1000000){cs:Array Value}(b:(bys bs).toArray=cs) :
 RB (w.alloc (.cells cs 5)) (fun g=>g<(w.alloc (.cells cs 5)).heap.size) (some ⟨w.heap.size,0,none⟩) bs.length bs:=by
 subst b
 exact js.rb (zS _ _) (by rw[zz];omega) a c
def fu (l:List W):List Nat:=l.flatMap fun x=>byt x.toNat
theorem n7 (l:List W):(fu l).length=4*l.length:=by
 induction l with
 | nil=>rfl
 | cons x l ih=>simp[fu,byt]at ih ⊢;omega
theorem s9 {l:List W}{k:Nat}(h:k<l.length):fu (l.take (k+1))=fu (l.take k)++byt (wd l k).toNat:=by
 rw[fu,fu,List.take_add_one,List.flatMap_append,qL h];simp[wd,h]
theorem sX (g:Nat)(l:List W)(w:World)(hv:VB w g l 144)(T:l.length=8) :
 Calls Tryz.prog 153 #[.slice (some ⟨g,0,none⟩) 8 8] w fun e w'=>∃ A c,e=.returned (.slice A 32 c)∧OW w' w.heap.size A c (fu l)∧Ext w w':=by
 have HV:=zF hv
 have p:=zF T
 have D:Hid (OW w w.heap.size none 0 (fu (l.take 0))):=zF ⟨⟨by simp[bys,fu],.inl ⟨rfl,rfl⟩⟩,by simp[fu]⟩
 clear hv T
 go_enter Tryz.func153,Tryz.ntmps153
 go_wp2_with fail
 go_loopw [3,4] (fun s3 s4 wr=>∃(k:Nat) (A:Option Addr) (c:Nat) (bs:List Nat),s4=.int .i64 (k:Int)∧k≤8∧s3=.slice A bs.length c∧Hid (bs=fu (l.take k))∧Hid (OW wr w.heap.size A c bs)∧Hid (Ext w wr)) (fun s3 s4 _=>(8-intOf s4).toNat)
 case atStart=>exact⟨0,none,0,_,rfl,by omega,rfl,zF rfl,D,zF (zT _)⟩
 case round =>
  clear D;obtain⟨k,A,c,bs,rfl,ak,rfl,HB,t,q⟩:=hrel;by_cases hlt:k<8
  · have k8:(k:Int)<8:=by omega
    have r:=(HV.out.ext q.out).cell (i:=k) (by rw[p.out];exact hlt);have ad:=zF (HB.out▸s9 (l:=l) (k:=k) (by rw[p.out];exact hlt));have HL:=zF (show bs.length≤1000 by rw[HB.out,n7,zh];omega);generalize wd l k=x at *;obtain⟨o,B⟩:=eV (x.toNat/16777216%256);obtain⟨n,z⟩:=eV (x.toNat/65536%256);obtain⟨m,v⟩:=eV (x.toNat/256%256);obtain⟨d,u⟩:=eV (x.toNat%256);have C:=zF (show byt x.toNat=[o,n,m,d] by rw[byt,B,z,v,u]);have af:=zF (show ∀ y∈[o,n,m,d],y<256 by rw[←C.out];exact pq _);have q3:=cvb x 24 o 16777216 rfl B;have q2:=cvb x 16 n 65536 rfl z;have q1:=cvb x 8 m 256 rfl v;have q0:=cvb0 x d u;have Q3:=zF q3;have Q2:=zF q2;have Q1:=zF q1;have Q0:=zF q0;clear B z v u q3 q2 q1 q0;go_upto_region 5 with fail
    refine zZ (by kernel_rfl) 25 [0,0,0,6,14,30,62,0,0,384,896,1920,3968,0,0,24576,57344,122880,253952,0,0,1572864,3670016,7864320,16777214,33554431,67108863] [] (fun j f X=>match j with
     | 0=>f 0=.slice A bs.length c
     | 1=>f 1=.slice (some ⟨g,0,none⟩) 8 8
     | 2=>f 2=.int .i64 (k:Int)
     | 3=>f 3=.pointer (some ⟨g,k,none⟩)
     | 4=>f 4=.int .u32 ((x).toNat:Int)
     | 5=>f 5=.int .u32 ((x >>> 24).toNat:Int)
     | 6=>f 6=.int .u8 (o:Int)
     | 7=>f 7=.slice (some ⟨g,0,none⟩) 8 8
     | 8=>f 8=.int .i64 (k:Int)
     | 9=>f 9=.pointer (some ⟨g,k,none⟩)
     | 10=>f 10=.int .u32 ((x).toNat:Int)
     | 11=>f 11=.int .u32 ((x >>> 16).toNat:Int)
     | 12=>f 12=.int .u8 (n:Int)
     | 13=>f 13=.slice (some ⟨g,0,none⟩) 8 8
     | 14=>f 14=.int .i64 (k:Int)
     | 15=>f 15=.pointer (some ⟨g,k,none⟩)
     | 16=>f 16=.int .u32 ((x).toNat:Int)
     | 17=>f 17=.int .u32 ((x >>> 8).toNat:Int)
     | 18=>f 18=.int .u8 (m:Int)
     | 19=>f 19=.slice (some ⟨g,0,none⟩) 8 8
     | 20=>f 20=.int .i64 (k:Int)
     | 21=>f 21=.pointer (some ⟨g,k,none⟩)
     | 22=>f 22=.int .u32 ((x).toNat:Int)
     | 23=>f 23=.int .u8 (d:Int)
     | 24=>∃ g,f 24=.slice (some ⟨g,0,none⟩) 4 4∧RB X (fun k=>k<X.heap.size) (some ⟨g,0,none⟩) 4 [o,n,m,d]
     | _=>True) (by kernel_rfl) [(11,0),(12,1),(13,2),(14,3),(15,4),(16,5),(17,6),(18,7),(19,8),(20,9),(21,10),(22,11),(23,12),(24,13),(25,14),(26,15),(27,16),(28,17),(29,18),(30,19),(31,20),(32,21),(33,22),(34,23),(35,24)] (by kernel_rfl) ?_
    refine zJ 1 24 ?_;refine zJ 2 23 ?_;refine zJ 3 22 ?_;refine zv 4 21 [(11,0),(12,1),(13,2),(18,7),(19,8),(20,9),(21,10),(22,11),(23,12),(24,13),(25,14),(26,15),(27,16),(28,17),(29,18),(30,19),(31,20),(32,21),(33,22),(34,23)] (fun f X b hR K a=>?_) ?_
    · have F:f 1=_:=hR.out 1 rfl;have M:f 2=_:=hR.out 2 rfl;simp only[yZ,F,M];refine⟨?_⟩;go_simp;exact qY a (s:=by simp only[yZ,F,M])
    refine qC 5 20 3 r ?_;refine zt 6 19 4 (hR:=fun _ _ h=>h.trans (nG _ 24)) ?_;refine zt 7 18 5 (hR:=fun _ _ h=>h.trans (Q3.out)) ?_;refine zJ 8 17 ?_;refine zJ 9 16 ?_;refine zv 10 15 [(11,0),(12,1),(13,2),(14,3),(15,4),(16,5),(17,6),(18,7),(19,8),(24,13),(25,14),(26,15),(27,16),(28,17),(29,18),(30,19),(31,20),(32,21),(33,22),(34,23)] (fun f X b hR K a=>?_) ?_
    · have R:f 7=_:=hR.out 7 rfl;have S:f 8=_:=hR.out 8 rfl;simp only[yZ,R,S];refine⟨?_⟩;go_simp;exact qY a (s:=by simp only[yZ,R,S])
    refine qC 11 14 9 r ?_;refine zt 12 13 10 (hR:=fun _ _ h=>h.trans (nG _ 16)) ?_;refine zt 13 12 11 (hR:=fun _ _ h=>h.trans (Q2.out)) ?_;refine zJ 14 11 ?_;refine zJ 15 10 ?_;refine zv 16 9 [(11,0),(12,1),(13,2),(14,3),(15,4),(16,5),(17,6),(18,7),(19,8),(20,9),(21,10),(22,11),(23,12),(24,13),(25,14),(30,19),(31,20),(32,21),(33,22),(34,23)] (fun f X b hR K a=>?_) ?_
    · have H:f 13=_:=hR.out 13 rfl;have I:f 14=_:=hR.out 14 rfl;simp only[yZ,H,I];refine⟨?_⟩;go_simp;exact qY a (s:=by simp only[yZ,H,I])
    refine qC 17 8 15 r ?_;refine zt 18 7 16 (hR:=fun _ _ h=>h.trans (nG _ 8)) ?_;refine zt 19 6 17 (hR:=fun _ _ h=>h.trans (Q1.out)) ?_;refine zJ 20 5 ?_;refine zJ 21 4 ?_;refine zv 22 3 [(11,0),(12,1),(13,2),(14,3),(15,4),(16,5),(17,6),(18,7),(19,8),(20,9),(21,10),(22,11),(23,12),(24,13),(25,14),(26,15),(27,16),(28,17),(29,18),(30,19),(31,20)] (fun f X b hR K a=>?_) ?_
    · have L:f 19=_:=hR.out 19 rfl;have N:f 20=_:=hR.out 20 rfl;simp only[yZ,L,N];refine⟨?_⟩;go_simp;exact qY a (s:=by simp only[yZ,L,N])
    refine qC 23 2 21 r ?_;refine zt 24 1 22 (hR:=fun _ _ h=>h.trans (Q0.out)) ?_;refine zv 25 0 [(11,0),(12,1),(13,2),(14,3),(15,4),(16,5),(17,6),(18,7),(19,8),(20,9),(21,10),(22,11),(23,12),(24,13),(25,14),(26,15),(27,16),(28,17),(29,18),(30,19),(31,20),(32,21),(33,22),(34,23)] (fun f X b hR K a=>?_) ?_
    · have Q:f 6=_:=hR.out 6 rfl;have G:f 12=_:=hR.out 12 rfl;have J:f 18=_:=hR.out 18 rfl;have O:f 23=_:=hR.out 23 rfl;simp only[yZ,Q,G,J,O];refine⟨?_⟩;go_simp;exact a.out _ _ _ (by simp only[yZ,Q,G,J,O]) (zL _ _) trivial (fun Y hY=>⟨_,rfl,(RB.lit8' X [o,n,m,d] af.out (by simp) rfl).upE hY⟩)
    refine yF ⟨fun f X b hR ah ai=>?_⟩;have E:f 0=_:=hR 0 (by decide);obtain⟨aj,(P:f 24=_),ab⟩:=hR 24 (by decide);simp only[yZ,E,P];clear hR ah ai E P;have ho:=t.out.same (w':=X) fun k _ cs hb=>b.at_ hb;refine zO (fun K a=>⟨zU (by kernel_rfl) (zBl (.tmp 11) (.tmp 35) rfl w.heap.size rfl ho rfl ab (by have:=HL.out;simp;omega) (zK q.out.bsize b.bsize) (fun A' c' Y1 aa U=>a.out _ _ ?_))⟩);refine zO (fun K a=>⟨zU (by kernel_rfl) ?_⟩);go_simp;refine a.out _ _ ?_;refine zI ?_;have V:Ext w Y1:=jJ (q.out.trans b) U;have ag:=zF aa;have ae:=zF V;have ac:=zF (show bs++[o,n,m,d]=fu (l.take (k+1)) by rw[ad.out,C.out]);clear aa U b V ab;go_wp2_with fail;go_roundw;case rel=>exact⟨k+1,A',c',_,by go_num,by omega,by rw[zf];rfl,ac,ag,ae⟩
    case measure=>simp[intOf];omega
  · obtain rfl:k=8:=by omega
    rw[show((8:Nat):Int)=8 from rfl];have HF:=zF (show OW wr w.heap.size A c (fu l) by rw[show fu l=bs by rw[HB.out,zu (by rw[p.out];omega)]];exact t.out);have Z:bs.length=32:=by rw[HB.out,n7,zh,p.out];rfl
    rw[Z];clear Z t HB;go_wp2_with fail;go_ret;exact⟨_,_,rfl,HF.out,q.out⟩
theorem OW.nil_ (w:World)(base:Nat):OW w base none 0 []:=⟨⟨by simp[bys],.inl ⟨rfl,rfl⟩⟩,by simp⟩
theorem OW.extE {w X:World}{base:Nat}{A:Option Addr}{c:Nat}{bs:List Nat}(h:OW w base A c bs)(a:Ext w X):OW X base A c bs:=h.same fun _ _ _ b=>a.at_ b
theorem tU (L:List Nat)(k:Nat)(h:k<L.length):(List.replicate (k+1) 0++L.drop (k+1)).set k (dg L k)=List.replicate k 0++L.drop k:=by
 have a:L.drop k=dg L k::L.drop (k+1):=by
  rw[qX h];simp[dg,h]
 rw[List.replicate_succ',a,xD,kM _ _ (by simp)];simp
theorem sO (N u k:Nat)(a:k<8)(b:u=N/256 ^(7-k)):dg (kY N) k=u%256:=by
 subst b;match k,a with
 | 0,_|1,_|2,_|3,_|4,_|5,_|6,_|7,_=>simp[dg,kY]
theorem zCO {P:Nat→Prop}{A:Option Addr}{c:Nat}{bs:List Nat}(w:World)(hp:RB w P A c bs)(_hP:∀ k,P k→k<w.heap.size)(hl:bs.length≤1000000) :
 Calls Tryz.prog 150 #[.slice A bs.length c,.int .i64 64,.int .i64 8] w fun e w'=>∃ A' c',e=.returned (.slice A' (pad bs).length c')∧OW w' w.heap.size A' c' (pad bs)∧Ext w w':=by
 have Z:=OW.nil_ w w.heap.size
 have ay:IntKind.u64.wrap (bs.length:Int)=(bs.length:Int):=qf _ (by omega)
 obtain⟨N,Y⟩:=eV (bs.length*8)
 have ax:IntKind.u64.wrap ((bs.length:Int)*8)=(N:Int):=by rw[qf _ (by omega)];omega
 have d:=zF hl
 have S:=zF Y
 clear Y hl
 go_enter Tryz.func150,Tryz.ntmps150
 go_upto_region 2 with(at_builtin;refine nA rfl (.const (.slice none 0 0)) (.tmp 11) rfl w.heap.size rfl Z rfl hp (by have:=d.out;simp;omega) (zG _) ?_;intro A1 c1 K ae I)
 have af:=ae.extE (zL K (.cells #[.int .u8 128] 5))
 have J:=RB.lit8' K [128] (by decide) (by decide) (cs:=#[.int .u8 128]) rfl
 have G:=jJ I ((zL K (.cells #[.int .u8 128] 5)).mono I.size)
 clear Z hp ae I
 go_upto_region 3 with(at_builtin;refine nA rfl (.tmp 13) (.tmp 14) rfl w.heap.size rfl af rfl J (by have:=d.out;simp;omega) G.size ?_;intro A2 c2 w2 ag ab)
 have X:=jJ G ab
 have T:=zF ag
 have Q:=zF X
 clear af J G ag ab X
 obtain⟨z,hz⟩:=eV ((119-bs.length%64)%64)
 go_wp2_with fail
 go_loopw [7] (fun s7 wr=>∃(j:Nat) (A:Option Addr) (c:Nat) (m:List Nat),s7=.slice A m.length c∧j≤z∧Hid (m=bs++[128]++List.replicate j 0)∧Hid (OW wr w.heap.size A c m)∧Hid (Ext w wr)) (fun s7 _=>(match s7 with | .slice _ n _=>bs.length+1+z-n|_=>0))
 case atStart=>exact⟨0,A2,c2,_,by simp,by omega,zF (by simp),T,Q⟩
 case round =>
  clear T Q;obtain⟨j,A3,c3,m,rfl,hj,B,C,h⟩:=hrel;have f:m.length=bs.length+1+j:=by rw[B.out];simp;omega
  have aw:=zF f;obtain⟨q,a⟩:=eV m.length;rw[a]at f;have o:=zF f;by_cases hjz:j=z
  · have x:(q:Int)%64=56:=by have:=d.out;omega
    clear f x;have ad:=qt (P:=Tryz.prog) 22 5 (.int .u8 0) 1 Tryz.underlying22 ub rfl .i64 .i64 8 (by omega) (by omega);simp only[qO]at ad;have x:(q:Int)%64=56:=by have:=d.out;have:=o.out;omega
    have U:=zF (show m++kY N=pad bs by rw[B.out,hjz,←hz,pad,bT,S.out,sN];simp);have t:=js.made wr 8;have F:Ext wr (wr.alloc (.cells (madeCells #[.int .u8 0] 8) 5)):=zL _ _;rw[a];go_upto_region 8 with fail;obtain⟨W0,aa⟩:=eV (wr.alloc (.cells (madeCells #[.int .u8 0] 8) 5));rw[aa]at t F ⊢;obtain⟨g,v⟩:=eV wr.heap.size;have HG:=zF (show w.heap.size≤g by rw[←v];exact h.out.bsize);have ao:=zF v;rw[v]at t ⊢;have L:=zF t;have O:=zF F;generalize wr=V0 at *;clear aa t F v ad x;go_loopw [8,10] (fun s8 s10 wx=>∃(k u:Nat) (i:Int),k≤8∧s8=.int .u64 (u:Int)∧s10=.int .i64 i∧Hid (i=(k:Int)-1)∧Hid (u=N/256 ^(8-k))∧Hid (js wx g (List.replicate k 0++(kY N).drop k))∧Hid (Ext V0 wx)) (fun _ s10 _=>(intOf s10+1).toNat);case atStart=>exact⟨8,N,7,by omega,rfl,rfl,zF rfl,zF (by simp),zF L.out,O⟩
    case round =>
     clear L O;obtain⟨k,u,i,aA,rfl,rfl,R,s,HB,l⟩:=hrel;rcases k with _|k
     · obtain rfl:i=-1:=R.out;have D:js wr g (kY N):=by simpa using HB.out
       have y:RB wr (fun b=>b<wr.heap.size) (some ⟨g,0,none⟩) 8 (kY N):=D.rb (qd D) (m9 N) (by simp[kY]);have ho:=C.out.extE l.out;have W:=h.out.trans l.out;clear HB C h l D;go_wp2_with (at_builtin;refine nA rfl (.tmp 47) (.tmp 48) rfl w.heap.size (by rw[a];rfl) ho rfl y (by have:=d.out;have:=o.out;rw[a];simp[kY];omega) W.bsize ?_;intro A7 c7 w7 aj au);rw[U.out]at aj;have av:q+8=(pad bs).length:=by rw[←U.out,zf,a];rfl
       go_ret;exact⟨A7,c7,by rw[←av];rfl,aj,jJ W au⟩
     · obtain rfl:i=(k:Int):=by have:=R.out;omega
       have az:(k:Int)<8:=by omega
       obtain⟨r,y⟩:=eV (u%256);obtain⟨u2,al⟩:=eV (u/256);have aB:(u:Int)%256=(r:Int):=by omega
       have J:(r:Int)%256=(r:Int):=by omega
       have aC:(u:Int)/256=(u2:Int):=by omega
       have aE:u≤8000000:=by rw[s.out];exact zK (vD _ _) (by have:=S.out;have:=d.out;omega)
       have aD:IntKind.u64.wrap (u2:Int)=(u2:Int):=qf _ (by omega);have fk:=HB.out.free k;have ck:=HB.out.cell (i:=k) (by simp[kY];omega);have V:=zF y;have aq:=zF al;clear y al;go_wp2_with fail;have E:=HB.out.set k r;rw[show r=dg (kY N) k by rw[sO N u k (by omega) (by rw[s.out];congr 2;omega)];exact V.out.symm,tU _ _ (by simp[kY];omega)]at E;have M:=zF E;have an:=zF (l.out.setCell (p:=⟨g,k,none⟩) (by rw[ao.out];exact zG _) (.int .u8 (r:Int)));have ar:=zF (show u2=N/256 ^(8-k) by rw[←aq.out,s.out,yM,show 8-k=8-(k+1)+1 by omega,zx]);rw[show dg (kY N) k=r by rw[sO N u k (by omega) (by rw[s.out];congr 2;omega)];exact V.out]at M;clear E;go_roundw;case rel=>exact⟨k,u2,_,by omega,rfl,rfl,zF rfl,ar,M,an⟩
       case measure=>simp[intOf]
  · have x:¬(q:Int)%64=56:=by have:=d.out;omega
    have ah:=C.out.extE (zL wr (.cells #[.int .u8 0] 5));have ak:=RB.lit8' wr [0] (by decide) (by decide) (cs:=#[.int .u8 0]) rfl;have H:Ext w (wr.alloc (.cells #[.int .u8 0] 5)):=h.out.trans (zL _ _);rw[a];clear f;go_upto_region 4 with fail;go_wp2_with (at_builtin;refine nA rfl (.tmp 24) (.tmp 25) rfl w.heap.size (by rw[a];rfl) ah rfl ak (by have:=d.out;have:=o.out;rw[a];simp;omega) H.bsize ?_;intro A5 c5 w5 ai ac);have ap:=zF ai;have am:=zF (jJ H ac);clear ah ak H ai ac;go_roundw;case rel=>exact⟨j+1,A5,c5,_,by simp[a],by omega,zF (by rw[B.out,List.replicate_succ',←xD]),ap,am⟩
    case measure=>have:=o.out;simp;omega
theorem zC7 (p:List Nat){i:Nat}(h:i+3<64):be (p.take 64) i=be p i:=by
 simp only[be,zy];rw[xS (by omega),xS (by omega),xS (by omega),xS (by omega)]
def VC (w:World) (g:Nat) (l:List W):Prop:=g<w.heap.size∧∀ i,i<l.length→w.cell? ⟨g,i,none⟩=some (.int .u32 ((wd l i).toNat:Int))
theorem VB.vc {w:World}{g:Nat}{l:List W}{t:TypeId}(h:VB w g l t):VC w g l:=⟨h.lt,fun _ a=>h.cell a⟩
theorem VC.ext {w X:World}{g:Nat}{l:List W}(h:VC w g l)(a:Ext w X):VC X g l:=⟨zH h.1 a.bsize,fun i b=>a.cell (h.2 i b)⟩
theorem VC.just {w X:World}{g b:Nat}{l:List W}(h:VC w g l)(a:jE b w X)(d:g≠b):VC X g l:=⟨zH h.1 a.size,fun i c=>(qB (a.block _ h.1 d)).trans (h.2 i c)⟩
theorem zA9:(Tryz.prog.info? 144).map (fun i=>(i.zero,i.size,i.bytes))=some (some (.int .u32 0),1,4):=by kernel_rfl
section
variable {w:World} {ops:Array Oper} {rest:List Oper} {o:Oper} {a:Act} {Q:Exit→Act→World→Prop}
theorem appv (A:o.guard=none)(s x:Operand)(C:o.op=.call { callee:=.builtin .append,args:=#[s,x],argTypes:=#[186,186] }){g:Nat}{l:List W}
 (D:a.eval s=.slice none 0 0) (F:a.eval x=.slice (some ⟨g,0,none⟩) 8 8) (E:VB w g l 144) (r:l.length=8)
 (h:∀ d c' w',VC w' d l→w.heap.size≤d→8≤c'→Ext w w'→wpList Tryz.prog ops Q rest (a.put o.dst (.slice (some ⟨d,0,none⟩) 8 c')) w'):wpList Tryz.prog ops Q (o::rest) a w:=by
 obtain⟨J,e,G,H,I⟩:=yz zA9
 refine jd w A s x 186 C w.heap.size 144 J (.int .u32 0) 1 4 Tryz.underlying186 e G H I rfl (by decide) (.slice none 0 0) 0 [] D ⟨by simp,.inl ⟨rfl,rfl⟩⟩ (fun _=>True) (some ⟨g,0,none⟩) 8 8 (vs l) F ⟨zG _,by unfold maxLen;omega,by rw[dU,r],fun _=>⟨_,rfl,trivial,fun j u f=>?_⟩⟩ (by intro u f;obtain⟨b,_,rfl⟩:=List.mem_map.1 f;rfl) 8 rfl (by unfold maxLen;omega) (by omega) (zG _) ?_
 · rw[yW,zP E,zQ];exact f
 · intro A' c' w' p q K;have t:Ext w w':=Below.grown (zo w.heap.size w) q (zG _) (fun k B=>by cases B);obtain⟨_,⟨c,_⟩|⟨d,cap,n,c,v,m,y,L,M,z⟩⟩:=p
   · cases c
   · injection c with c _ e3
     subst c e3;refine h d c' w' ⟨qd m,fun i e=>?_⟩ v y t;rw[zP m,←Array.getElem?_toList];have:(n.toList.take (8*1))[i]?=([]++vs l)[i]?:=by rw[z]
     rw[xS (by omega),vh]at this;rw[this];exact mL e
end
def cO (n:Nat):Code→Option Code
 | .region id ops d=>if id=n then some (.region id ops d)else none
 | .seq a b=>(cO n a).or (cO n b)
 | .cond _ a b=>(cO n a).or (cO n b)
 | .block _ a=>cO n a
 | .loop a=>cO n a
 | .scope a=>cO n a
 | _=>none
def nR (f:Func) (n:Nat):Code:=(f.body.bind (cO n)).getD .skip
theorem zDs (x:W)(w:World):Calls Tryz.prog 155 #[.int .u32 (x.toNat:Int),.int .u64 2] w fun e w'=>e=.returned (.int .u32 ((rr 2 x).toNat:Int))∧w'=w:=vZ x 2 w (by omega)
theorem zDr (x:W)(w:World):Calls Tryz.prog 155 #[.int .u32 (x.toNat:Int),.int .u64 6] w fun e w'=>e=.returned (.int .u32 ((rr 6 x).toNat:Int))∧w'=w:=vZ x 6 w (by omega)
theorem zDq (x:W)(w:World):Calls Tryz.prog 155 #[.int .u32 (x.toNat:Int),.int .u64 7] w fun e w'=>e=.returned (.int .u32 ((rr 7 x).toNat:Int))∧w'=w:=vZ x 7 w (by omega)
theorem zCC (x:W)(w:World):Calls Tryz.prog 155 #[.int .u32 (x.toNat:Int),.int .u64 11] w fun e w'=>e=.returned (.int .u32 ((rr 11 x).toNat:Int))∧w'=w:=vZ x 11 w (by omega)
theorem zCB (x:W)(w:World):Calls Tryz.prog 155 #[.int .u32 (x.toNat:Int),.int .u64 13] w fun e w'=>e=.returned (.int .u32 ((rr 13 x).toNat:Int))∧w'=w:=vZ x 13 w (by omega)
theorem zCA (x:W)(w:World):Calls Tryz.prog 155 #[.int .u32 (x.toNat:Int),.int .u64 17] w fun e w'=>e=.returned (.int .u32 ((rr 17 x).toNat:Int))∧w'=w:=vZ x 17 w (by omega)
theorem zB9 (x:W)(w:World):Calls Tryz.prog 155 #[.int .u32 (x.toNat:Int),.int .u64 18] w fun e w'=>e=.returned (.int .u32 ((rr 18 x).toNat:Int))∧w'=w:=vZ x 18 w (by omega)
theorem zB8 (x:W)(w:World):Calls Tryz.prog 155 #[.int .u32 (x.toNat:Int),.int .u64 19] w fun e w'=>e=.returned (.int .u32 ((rr 19 x).toNat:Int))∧w'=w:=vZ x 19 w (by omega)
theorem zB7 (x:W)(w:World):Calls Tryz.prog 155 #[.int .u32 (x.toNat:Int),.int .u64 22] w fun e w'=>e=.returned (.int .u32 ((rr 22 x).toNat:Int))∧w'=w:=vZ x 22 w (by omega)
theorem zB6 (x:W)(w:World):Calls Tryz.prog 155 #[.int .u32 (x.toNat:Int),.int .u64 25] w fun e w'=>e=.returned (.int .u32 ((rr 25 x).toNat:Int))∧w'=w:=vZ x 25 w (by omega)
theorem zDo {Q:Exit→Act→World→Prop}{w:World}{b k z l:Nat}{g a i x2 m:W}{y:Value}{u0 u1 u2 u3 u4 u5 u6 u11 u12 u13 au aF u16 u17 u18 u19 bu u21 bw u23 bx bz bA bB bC bD bE bF bG bH bI bJ bK bL bM bN bO bP bQ bR bS bT bU bV bW bX bY cm cn co cp cq cr cs ct cu cv cw cx cy cz cA cB cC cD cE cF cG cH cI cJ cK cL cM cN cO cP cQ cR bZ b0 b1 b2 b3 b4 b5 b6 b7 b8 b9 ca cb cc cd ce cf A B C D E F G H I J L M N O P R S T U V Y Z aa ab ac ad ae af ag ah ai aj ak al am an ao ap aq ar av aw ax ay az aA aB aC aD aE aG aH aI aJ aK aL aM aN aO aP aQ aR aS aT aU aV aW aX aY aZ a0 a1 a2 a3 a4 a5 a6 a7 a8 a9 ba bb bc bd be bf bg bh bi bj bk bl bm bn bo bp bq br bs bt bv:Value}
 (dr:(k:Int)<64) (ds:(z:Int)<64) (l7:(l:Int)<64) (cS:IntKind.i64.wrap ((k:Int)-16)=(z:Int)) (w7:IntKind.i64.wrap ((k:Int)-7)=(l:Int)) (cg:w.cell? ⟨b,z,none⟩=some (.int .u32 ((g).toNat:Int))) (d7:w.cell? ⟨b,l,none⟩=some (.int .u32 ((i).toNat:Int))) (n:w.cell? ⟨b,k,none⟩=some y) (fk:∀ X,Ext w X→X.frozen? ⟨b,k,none⟩=false) (cl:g+g0 a+i+g1 x2=m)
 (h:∀(X:World) , Ext w X→∀(cT cU cV cW cX cY cZ c0 c1 c2 c3 c4 c5 c6 c7 c8 c9 da db dc dd de df dg dh di dj dk dl dm dn dp:Value),Q .normal { tmps:=#[u0,u1,u2,u3,u4,u5,u6,.slice (some ⟨b,0,none⟩) 64 64,.int .i64 (k:Int),.int .u32 ((a).toNat:Int),.int .u32 ((x2).toNat:Int),u11,u12,u13,au,aF,u16,u17,u18,u19,bu,u21,bw,u23,bx,bz,bA,bB,bC,bD,bE,bF,bG,bH,bI,bJ,bK,bL,bM,bN,bO,bP,bQ,bR,bS,bT,bU,bV,bW,bX,bY,cT,cU,cV,cW,cX,cY,cZ,c0,c1,c2,c3,c4,c5,c6,c7,c8,c9,da,db,dc,dd,de,df,dg,dh,di,dj,dk,dl,dm,dn,dp,bZ,b0,b1,b2,b3,b4,b5,b6,b7,b8,b9,ca,cb,cc,cd,ce,cf,A,B,C,D,E,F,G,H,I,J,L,M,N,O,P,R,S,T,U,V,Y,Z,aa,ab,ac,ad,ae,af,ag,ah,ai,aj,ak,al,am,an,ao,ap,aq,ar,av,aw,ax,ay,az,aA,aB,aC,aD,aE,aG,aH,aI,aJ,aK,aL,aM,aN,aO,aP,aQ,aR,aS,aT,aU,aV,aW,aX,aY,aZ,a0,a1,a2,a3,a4,a5,a6,a7,a8,a9,ba,bb,bc,bd,be,bf,bg,bh,bi,bj,bk,bl,bm,bn,bo,bp,bq,br,bs,bt,bv],defers:=[] } (X.setCell ⟨b,k,none⟩ (.int .u32 ((m).toNat:Int)))) :
 (nR Tryz.f141 13).wp Tryz.prog Q { tmps:=#[u0,u1,u2,u3,u4,u5,u6,.slice (some ⟨b,0,none⟩) 64 64,.int .i64 (k:Int),.int .u32 ((a).toNat:Int),.int .u32 ((x2).toNat:Int),u11,u12,u13,au,aF,u16,u17,u18,u19,bu,u21,bw,u23,bx,bz,bA,bB,bC,bD,bE,bF,bG,bH,bI,bJ,bK,bL,bM,bN,bO,bP,bQ,bR,bS,bT,bU,bV,bW,bX,bY,cm,cn,co,cp,cq,cr,cs,ct,cu,cv,cw,cx,cy,cz,cA,cB,cC,cD,cE,cF,cG,cH,cI,cJ,cK,cL,cM,cN,cO,cP,cQ,cR,bZ,b0,b1,b2,b3,b4,b5,b6,b7,b8,b9,ca,cb,cc,cd,ce,cf,A,B,C,D,E,F,G,H,I,J,L,M,N,O,P,R,S,T,U,V,Y,Z,aa,ab,ac,ad,ae,af,ag,ah,ai,aj,ak,al,am,an,ao,ap,aq,ar,av,aw,ax,ay,az,aA,aB,aC,aD,aE,aG,aH,aI,aJ,aK,aL,aM,aN,aO,aP,aQ,aR,aS,aT,aU,aV,aW,aX,aY,aZ,a0,a1,a2,a3,a4,a5,a6,a7,a8,a9,ba,bb,bc,bd,be,bf,bg,bh,bi,bj,bk,bl,bm,bn,bo,bp,bq,br,bs,bt,bv],defers:=[] } w:=by
 refine zZ (by kernel_rfl) 32 [0,0,0,0,8,28,60,0,128,0,896,1920,0,4096,16256,32764,0,0,131072,458752,983040,2097148,0,4196224,0,29362048,62916480,0,134217728,532678528,1073741820,2147483647,4294967295] [] (fun j f X=>match j with
  | 0=>f 0=.slice (some ⟨b,0,none⟩) 64 64
  | 1=>f 1=.int .i64 (k:Int)
  | 2=>f 2=.slice (some ⟨b,0,none⟩) 64 64
  | 3=>f 3=.int .i64 (k:Int)
  | 4=>f 4=.int .i64 (z:Int)
  | 5=>f 5=.pointer (some ⟨b,z,none⟩)
  | 6=>f 6=.int .u32 ((g).toNat:Int)
  | 7=>f 7=.int .u32 ((a).toNat:Int)
  | 8=>f 8=.int .u32 ((rr 7 a).toNat:Int)
  | 9=>f 9=.int .u32 ((a).toNat:Int)
  | 10=>f 10=.int .u32 ((rr 18 a).toNat:Int)
  | 11=>f 11=.int .u32 (((rr 7 a) ^^^(rr 18 a)).toNat:Int)
  | 12=>f 12=.int .u32 ((a).toNat:Int)
  | 13=>f 13=.int .u32 ((a >>> 3).toNat:Int)
  | 14=>f 14=.int .u32 ((g0 a).toNat:Int)
  | 15=>f 15=.int .u32 ((g+(g0 a)).toNat:Int)
  | 16=>f 16=.slice (some ⟨b,0,none⟩) 64 64
  | 17=>f 17=.int .i64 (k:Int)
  | 18=>f 18=.int .i64 (l:Int)
  | 19=>f 19=.pointer (some ⟨b,l,none⟩)
  | 20=>f 20=.int .u32 ((i).toNat:Int)
  | 21=>f 21=.int .u32 (((g+(g0 a))+i).toNat:Int)
  | 22=>f 22=.int .u32 ((x2).toNat:Int)
  | 23=>f 23=.int .u32 ((rr 17 x2).toNat:Int)
  | 24=>f 24=.int .u32 ((x2).toNat:Int)
  | 25=>f 25=.int .u32 ((rr 19 x2).toNat:Int)
  | 26=>f 26=.int .u32 (((rr 17 x2) ^^^(rr 19 x2)).toNat:Int)
  | 27=>f 27=.int .u32 ((x2).toNat:Int)
  | 28=>f 28=.int .u32 ((x2 >>> 10).toNat:Int)
  | 29=>f 29=.int .u32 ((g1 x2).toNat:Int)
  | 30=>f 30=.int .u32 ((m).toNat:Int)
  | 31=>f 31=.pointer (some ⟨b,k,none⟩)
  | _=>True) (by kernel_rfl) [(51,0),(52,1),(53,2),(54,3),(55,4),(56,5),(57,6),(58,7),(59,8),(60,9),(61,10),(62,11),(63,12),(64,13),(65,14),(66,15),(67,16),(68,17),(69,18),(70,19),(71,20),(72,21),(73,22),(74,23),(75,24),(76,25),(77,26),(78,27),(79,28),(80,29),(81,30),(82,31)] (by kernel_rfl) ?_
 refine zJ 1 31 ?_
 refine zJ 2 30 ?_
 refine zJ 3 29 ?_
 refine zJ 4 28 ?_
 refine zt 5 27 3 (hR:=fun _ _ h=>h.trans (congrArg (Value.int .i64) cS)) ?_
 refine zv 6 26 [(51,0),(52,1),(53,2),(54,3),(55,4),(58,7),(59,8),(60,9),(61,10),(62,11),(63,12),(64,13),(65,14),(67,16),(68,17),(69,18),(70,19),(71,20),(73,22),(74,23),(75,24),(76,25),(77,26),(78,27),(79,28),(80,29)] (fun f X c hR K d=>?_) ?_
 · have t:f 2=_:=hR.out 2 rfl;have x:f 4=_:=hR.out 4 rfl;simp only[yZ,t,x];refine⟨?_⟩;go_simp;exact qY d (s:=by simp only[yZ,t,x])
 refine qC 7 25 5 cg ?_
 refine zJ 8 24 ?_
 refine qK 9 23 (fun f=>#[f 7,Value.int IntKind.u64 7]) (F':=155) (fun f X c hR=>?_) ?_
 · have e7:f 7=_:=hR.out 7 rfl;simp only[e7];refine(zDq a X).mono ?_;rintro e w2 ⟨rfl,rfl⟩;exact⟨(.int .u32 ((rr 7 a).toNat:Int)),rfl,(zT _),fun _ _=>rfl⟩
 refine zJ 10 22 ?_
 refine qK 11 21 (fun f=>#[f 9,Value.int IntKind.u64 18]) (F':=155) (fun f X c hR=>?_) ?_
 · have e9:f 9=_:=hR.out 9 rfl;simp only[e9];refine(zB9 a X).mono ?_;rintro e w2 ⟨rfl,rfl⟩;exact⟨(.int .u32 ((rr 18 a).toNat:Int)),rfl,(zT _),fun _ _=>rfl⟩
 refine qj 12 20 8 10 (hR:=fun _ _ h=>h.trans (uC _ _)) ?_
 refine zJ 13 19 ?_
 refine zt 14 18 12 (hR:=fun _ _ h=>h.trans (nG _ 3)) ?_
 refine qj 15 17 11 13 (hR:=fun _ _ h=>h.trans (uC _ _)) ?_
 refine qj 16 16 6 14 (hR:=fun _ _ h=>h.trans (wM _ _)) ?_
 refine zJ 17 15 ?_
 refine zJ 18 14 ?_
 refine zt 19 13 17 (hR:=fun _ _ h=>h.trans (congrArg (Value.int .i64) w7)) ?_
 refine zv 20 12 [(51,0),(52,1),(53,2),(54,3),(55,4),(56,5),(57,6),(58,7),(59,8),(60,9),(61,10),(62,11),(63,12),(64,13),(65,14),(66,15),(67,16),(68,17),(69,18),(73,22),(74,23),(75,24),(76,25),(77,26),(78,27),(79,28),(80,29)] (fun f X c hR K d=>?_) ?_
 · have q:f 16=_:=hR.out 16 rfl;have r:f 18=_:=hR.out 18 rfl;simp only[yZ,q,r];refine⟨?_⟩;go_simp;exact qY d (s:=by simp only[yZ,q,r])
 refine qC 21 11 19 d7 ?_
 refine qj 22 10 15 20 (hR:=fun _ _ h=>h.trans (wM _ _)) ?_
 refine zJ 23 9 ?_
 refine qK 24 8 (fun f=>#[f 22,Value.int IntKind.u64 17]) (F':=155) (fun f X c hR=>?_) ?_
 · have ch:f 22=_:=hR.out 22 rfl;simp only[ch];refine(zCA x2 X).mono ?_;rintro e w2 ⟨rfl,rfl⟩;exact⟨(.int .u32 ((rr 17 x2).toNat:Int)),rfl,(zT _),fun _ _=>rfl⟩
 refine zJ 25 7 ?_
 refine qK 26 6 (fun f=>#[f 24,Value.int IntKind.u64 19]) (F':=155) (fun f X c hR=>?_) ?_
 · have ci:f 24=_:=hR.out 24 rfl;simp only[ci];refine(zB8 x2 X).mono ?_;rintro e w2 ⟨rfl,rfl⟩;exact⟨(.int .u32 ((rr 19 x2).toNat:Int)),rfl,(zT _),fun _ _=>rfl⟩
 refine qj 27 5 23 25 (hR:=fun _ _ h=>h.trans (uC _ _)) ?_
 refine zJ 28 4 ?_
 refine zt 29 3 27 (hR:=fun _ _ h=>h.trans (nG _ 10)) ?_
 refine qj 30 2 26 28 (hR:=fun _ _ h=>h.trans (uC _ _)) ?_
 refine qj 31 1 21 29 (hR:=fun _ _ h=>h.trans ((wM (g+g0 a+i) (g1 x2)).trans (congrArg (fun y:W=>Value.int .u32 (y.toNat:Int)) cl))) ?_
 refine zv 32 0 [(51,0),(52,1),(53,2),(54,3),(55,4),(56,5),(57,6),(58,7),(59,8),(60,9),(61,10),(62,11),(63,12),(64,13),(65,14),(66,15),(67,16),(68,17),(69,18),(70,19),(71,20),(72,21),(73,22),(74,23),(75,24),(76,25),(77,26),(78,27),(79,28),(80,29),(81,30)] (fun f X c hR K d=>?_) ?_
 · have o:f 0=_:=hR.out 0 rfl;have p:f 1=_:=hR.out 1 rfl;simp only[yZ,o,p];refine⟨?_⟩;go_simp;exact qY d (s:=by simp only[yZ,o,p])
 refine yF ⟨fun f X c hR cj ck=>?_⟩
 have u:f 30=_:=hR 30 (by decide)
 have v:f 31=_:=hR 31 (by decide)
 simp only[yZ,u,v]
 clear hR cj ck u v
 replace n:=c.cell n
 have dq:=fk X c
 refine zO (fun K d=>⟨zU (by kernel_rfl) ?_⟩)
 go_simp
 refine d.out _ _ ?_
 refine zI ?_
 exact h X c _ _ _ _ _ _ _ _ _ _ _ _ _ _ _ _ _ _ _ _ _ _ _ _ _ _ _ _ _ _ _ _
theorem zDn {Q:Exit→Act→World→Prop}{w:World}{l m b cv k:Nat}{a c d i n x t:W}{u0 u1 u2 u3 u4 u6 u8 u9 u10 J cL u16 u17 u18 u19 aY u21 a0 u23 a1 a2 a3 a4 a5 a6 a7 a8 a9 ba bb bc bd be bf bg bh bi bj bk bl bm bn bo bp bq br bs bt bu bv bw bx bz bA bB bC bD bE bF bG bH bI bJ bK bL bM bN bO bP bQ bR bS bT bU bV bW bX bY bZ b0 b1 b2 b3 b4 b5 b6 b7 b8 b9 ca cM cN cO cP cQ cd ce cf cg ci cj cl cm cn co cp cq cr cs ct cu cw cy cz cA cB cC cD cE cF cG cH cI cJ cK z A B C D E F G H I L M N O P R S T U V Y Z aa ab ac ad ae af ag ah ai aj ak al am an ao ap aq ar au av aw ax ay az aA aB aC aD aE aF aG aH aI aJ aK aL aM aN aO aP aQ aR aS aT aU aV aW aX aZ:Value}
 (dr:(k:Int)<64) (v5:w.cell? ⟨b,5,none⟩=some (.int .u32 ((c).toNat:Int))) (v6:w.cell? ⟨b,6,none⟩=some (.int .u32 ((d).toNat:Int))) (v7:w.cell? ⟨b,7,none⟩=some (.int .u32 ((i).toNat:Int))) (ck:w.cell? ⟨l,k,none⟩=some (.int .u32 ((n).toNat:Int))) (cx:w.cell? ⟨m,k,none⟩=some (.int .u32 ((x).toNat:Int))) (ht:i+S1 a+ch a c d+n+x=t)
 (h:∀(X:World) , Ext w X→∀(dl dm dn dp dq cR cS cT cU cV cW cX cY cZ c0 c1 c2 c3 c4 c5 c6 c7 c8 c9 da db dc dd de df dg dh di dj dk:Value),Q .normal { tmps:=#[u0,u1,u2,u3,u4,.slice (some ⟨l,0,none⟩) 64 64,u6,.slice (some ⟨m,0,none⟩) 64 64,u8,u9,u10,.slice (some ⟨b,0,none⟩) 8 cv,.int .i64 (k:Int),.int .u32 ((a).toNat:Int),J,.int .u32 ((t).toNat:Int),u16,u17,u18,u19,aY,u21,a0,u23,a1,a2,a3,a4,a5,a6,a7,a8,a9,ba,bb,bc,bd,be,bf,bg,bh,bi,bj,bk,bl,bm,bn,bo,bp,bq,br,bs,bt,bu,bv,bw,bx,bz,bA,bB,bC,bD,bE,bF,bG,bH,bI,bJ,bK,bL,bM,bN,bO,bP,bQ,bR,bS,bT,bU,bV,bW,bX,bY,bZ,b0,b1,b2,b3,b4,b5,b6,b7,b8,b9,ca,dl,dm,dn,dp,dq,cR,cS,cT,cU,cV,cW,cX,cY,cZ,c0,c1,c2,c3,c4,c5,c6,c7,c8,c9,da,db,dc,dd,de,df,dg,dh,di,dj,dk,z,A,B,C,D,E,F,G,H,I,L,M,N,O,P,R,S,T,U,V,Y,Z,aa,ab,ac,ad,ae,af,ag,ah,ai,aj,ak,al,am,an,ao,ap,aq,ar,au,av,aw,ax,ay,az,aA,aB,aC,aD,aE,aF,aG,aH,aI,aJ,aK,aL,aM,aN,aO,aP,aQ,aR,aS,aT,aU,aV,aW,aX,aZ],defers:=[] } X) :
 (nR Tryz.f141 20).wp Tryz.prog Q { tmps:=#[u0,u1,u2,u3,u4,.slice (some ⟨l,0,none⟩) 64 64,u6,.slice (some ⟨m,0,none⟩) 64 64,u8,u9,u10,.slice (some ⟨b,0,none⟩) 8 cv,.int .i64 (k:Int),.int .u32 ((a).toNat:Int),J,cL,u16,u17,u18,u19,aY,u21,a0,u23,a1,a2,a3,a4,a5,a6,a7,a8,a9,ba,bb,bc,bd,be,bf,bg,bh,bi,bj,bk,bl,bm,bn,bo,bp,bq,br,bs,bt,bu,bv,bw,bx,bz,bA,bB,bC,bD,bE,bF,bG,bH,bI,bJ,bK,bL,bM,bN,bO,bP,bQ,bR,bS,bT,bU,bV,bW,bX,bY,bZ,b0,b1,b2,b3,b4,b5,b6,b7,b8,b9,ca,cM,cN,cO,cP,cQ,cd,ce,cf,cg,ci,cj,cl,cm,cn,co,cp,cq,cr,cs,ct,cu,cw,cy,cz,cA,cB,cC,cD,cE,cF,cG,cH,cI,cJ,cK,z,A,B,C,D,E,F,G,H,I,L,M,N,O,P,R,S,T,U,V,Y,Z,aa,ab,ac,ad,ae,af,ag,ah,ai,aj,ak,al,am,an,ao,ap,aq,ar,au,av,aw,ax,ay,az,aA,aB,aC,aD,aE,aF,aG,aH,aI,aJ,aK,aL,aM,aN,aO,aP,aQ,aR,aS,aT,aU,aV,aW,aX,aZ],defers:=[] } w:=by
 refine zZ (by kernel_rfl) 36 [0,1,3,0,8,0,56,120,0,376,1016,2047,0,0,8192,24576,61440,0,131072,0,524288,1572864,4063232,8384512,16777215,0,0,100663296,234881024,536870911,0,0,3221225472,7516192768,17179869183,34359738367] [] (fun j f X=>match j with
  | 0=>f 0=.slice (some ⟨b,0,none⟩) 8 cv
  | 1=>f 1=.pointer (some ⟨b,7,none⟩)
  | 2=>f 2=.int .u32 ((i).toNat:Int)
  | 3=>f 3=.int .u32 ((a).toNat:Int)
  | 4=>f 4=.int .u32 ((rr 6 a).toNat:Int)
  | 5=>f 5=.int .u32 ((a).toNat:Int)
  | 6=>f 6=.int .u32 ((rr 11 a).toNat:Int)
  | 7=>f 7=.int .u32 (((rr 6 a) ^^^(rr 11 a)).toNat:Int)
  | 8=>f 8=.int .u32 ((a).toNat:Int)
  | 9=>f 9=.int .u32 ((rr 25 a).toNat:Int)
  | 10=>f 10=.int .u32 ((S1 a).toNat:Int)
  | 11=>f 11=.int .u32 ((i+(S1 a)).toNat:Int)
  | 12=>f 12=.int .u32 ((a).toNat:Int)
  | 13=>f 13=.slice (some ⟨b,0,none⟩) 8 cv
  | 14=>f 14=.pointer (some ⟨b,5,none⟩)
  | 15=>f 15=.int .u32 ((c).toNat:Int)
  | 16=>f 16=.int .u32 ((a &&& c).toNat:Int)
  | 17=>f 17=.int .u32 ((a).toNat:Int)
  | 18=>f 18=.int .u32 ((~~~a).toNat:Int)
  | 19=>f 19=.slice (some ⟨b,0,none⟩) 8 cv
  | 20=>f 20=.pointer (some ⟨b,6,none⟩)
  | 21=>f 21=.int .u32 ((d).toNat:Int)
  | 22=>f 22=.int .u32 (((~~~a) &&& d).toNat:Int)
  | 23=>f 23=.int .u32 ((ch a c d).toNat:Int)
  | 24=>f 24=.int .u32 (((i+(S1 a))+(ch a c d)).toNat:Int)
  | 25=>f 25=.slice (some ⟨l,0,none⟩) 64 64
  | 26=>f 26=.int .i64 (k:Int)
  | 27=>f 27=.pointer (some ⟨l,k,none⟩)
  | 28=>f 28=.int .u32 ((n).toNat:Int)
  | 29=>f 29=.int .u32 ((((i+(S1 a))+(ch a c d))+n).toNat:Int)
  | 30=>f 30=.slice (some ⟨m,0,none⟩) 64 64
  | 31=>f 31=.int .i64 (k:Int)
  | 32=>f 32=.pointer (some ⟨m,k,none⟩)
  | 33=>f 33=.int .u32 ((x).toNat:Int)
  | 34=>f 34=.int .u32 ((t).toNat:Int)
  | 35=>f 35=.int .u32 ((t).toNat:Int)
  | _=>True) (by kernel_rfl) [(95,0),(96,1),(97,2),(98,3),(99,4),(100,5),(101,6),(102,7),(103,8),(104,9),(105,10),(106,11),(107,12),(108,13),(109,14),(110,15),(111,16),(112,17),(113,18),(114,19),(115,20),(116,21),(117,22),(118,23),(119,24),(120,25),(121,26),(122,27),(123,28),(124,29),(125,30),(126,31),(127,32),(128,33),(129,34),(15,35)] (by kernel_rfl) ?_
 refine zJ 1 35 ?_
 refine zt 2 34 0 ?_
 refine qC 3 33 1 v7 ?_
 refine zJ 4 32 ?_
 refine qK 5 31 (fun f=>#[f 3,Value.int IntKind.u64 6]) (F':=155) (fun f X g hR=>?_) ?_
 · have e3:f 3=_:=hR.out 3 rfl;simp only[e3];refine(zDr a X).mono ?_;rintro e w2 ⟨rfl,rfl⟩;exact⟨(.int .u32 ((rr 6 a).toNat:Int)),rfl,(zT _),fun _ _=>rfl⟩
 refine zJ 6 30 ?_
 refine qK 7 29 (fun f=>#[f 5,Value.int IntKind.u64 11]) (F':=155) (fun f X g hR=>?_) ?_
 · have e5:f 5=_:=hR.out 5 rfl;simp only[e5];refine(zCC a X).mono ?_;rintro e w2 ⟨rfl,rfl⟩;exact⟨(.int .u32 ((rr 11 a).toNat:Int)),rfl,(zT _),fun _ _=>rfl⟩
 refine qj 8 28 4 6 (hR:=fun _ _ h=>h.trans (uC _ _)) ?_
 refine zJ 9 27 ?_
 refine qK 10 26 (fun f=>#[f 8,Value.int IntKind.u64 25]) (F':=155) (fun f X g hR=>?_) ?_
 · have e8:f 8=_:=hR.out 8 rfl;simp only[e8];refine(zB6 a X).mono ?_;rintro e w2 ⟨rfl,rfl⟩;exact⟨(.int .u32 ((rr 25 a).toNat:Int)),rfl,(zT _),fun _ _=>rfl⟩
 refine qj 11 25 7 9 (hR:=fun _ _ h=>h.trans (uC _ _)) ?_
 refine qj 12 24 2 10 (hR:=fun _ _ h=>h.trans (wM _ _)) ?_
 refine zJ 13 23 ?_
 refine zJ 14 22 ?_
 refine zt 15 21 13 ?_
 refine qC 16 20 14 v5 ?_
 refine qj 17 19 12 15 (hR:=fun _ _ h=>h.trans (fH _ _)) ?_
 refine zJ 18 18 ?_
 refine zt 19 17 17 (hR:=fun _ _ h=>h.trans (zDG _)) ?_
 refine zJ 20 16 ?_
 refine zt 21 15 19 ?_
 refine qC 22 14 20 v6 ?_
 refine qj 23 13 18 21 (hR:=fun _ _ h=>h.trans (fH _ _)) ?_
 refine qj 24 12 16 22 (hR:=fun _ _ h=>h.trans (uC _ _)) ?_
 refine qj 25 11 11 23 (hR:=fun _ _ h=>h.trans (wM _ _)) ?_
 refine zJ 26 10 ?_
 refine zJ 27 9 ?_
 refine zv 28 8 [(95,0),(96,1),(97,2),(98,3),(99,4),(100,5),(101,6),(102,7),(103,8),(104,9),(105,10),(106,11),(107,12),(108,13),(109,14),(110,15),(111,16),(112,17),(113,18),(114,19),(115,20),(116,21),(117,22),(118,23),(119,24),(120,25),(121,26),(125,30),(126,31),(127,32),(128,33)] (fun f X g hR K o=>?_) ?_
 · have p:f 25=_:=hR.out 25 rfl;have q:f 26=_:=hR.out 26 rfl;simp only[yZ,p,q];refine⟨?_⟩;go_simp;exact qY o (s:=by simp only[yZ,p,q])
 refine qC 29 7 27 ck ?_
 refine qj 30 6 24 28 (hR:=fun _ _ h=>h.trans (wM _ _)) ?_
 refine zJ 31 5 ?_
 refine zJ 32 4 ?_
 refine zv 33 3 [(95,0),(96,1),(97,2),(98,3),(99,4),(100,5),(101,6),(102,7),(103,8),(104,9),(105,10),(106,11),(107,12),(108,13),(109,14),(110,15),(111,16),(112,17),(113,18),(114,19),(115,20),(116,21),(117,22),(118,23),(119,24),(120,25),(121,26),(122,27),(123,28),(124,29),(125,30),(126,31)] (fun f X g hR K o=>?_) ?_
 · have r:f 30=_:=hR.out 30 rfl;have u:f 31=_:=hR.out 31 rfl;simp only[yZ,r,u];refine⟨?_⟩;go_simp;exact qY o (s:=by simp only[yZ,r,u])
 refine qC 34 2 32 cx ?_
 refine qj 35 1 29 33 (hR:=fun _ _ h=>h.trans ((wM _ _).trans (congrArg (fun y:W=>Value.int .u32 (y.toNat:Int)) ht))) ?_
 refine zt 36 0 34 ?_
 refine yF ⟨fun f X g hR cb cc=>?_⟩
 have v:f 35=_:=hR 35 (by decide)
 simp only[yZ,v]
 clear hR cb cc v
 refine zI ?_
 exact h X g _ _ _ _ _ _ _ _ _ _ _ _ _ _ _ _ _ _ _ _ _ _ _ _ _ _ _ _ _ _ _ _ _ _ _
theorem zDm {Q:Exit→Act→World→Prop}{w:World}{b cv:Nat}{a rb rc u:W}{u0 u1 u2 u3 u4 u5 u6 u7 u8 u9 u10 u12 u13 P u16 u17 u18 u19 aL u21 aN u23 aO aP aQ aR aS aT aU aV aW aX aY aZ a0 a1 a2 a3 a4 a5 a6 a7 a8 a9 ba bb bc bd be bf bg bh bi bj bk bl bm bn bo bp bq br bs bt bu bv bw bx bz bA bB bC bD bE bF bG bH bI bJ bK bL bM bN bO bP bQ bR bS bT bU bV bW bX bY bZ b0 b1 b2 g i k l m n o p q r s t v x z A B C D E F G H I J K L M N O b5 b6 b7 b8 b9 ca cb cc cd ce cf cg ch ci cj ck cl cm cn co cp cq cr cs ct cu cw cx R S T U V Y Z aa ab ac ad ae af ag ah ai aj ak al am an ao ap aq ar au av aw ax ay az aA aB aC aD aE aF aG aH aI aJ aK aM:Value}
 (v1:w.cell? ⟨b,1,none⟩=some (.int .u32 ((rb).toNat:Int))) (v2:w.cell? ⟨b,2,none⟩=some (.int .u32 ((rc).toNat:Int))) (hu:S0 a+mj a rb rc=u)
 (h:∀(X:World) , Ext w X→∀(cy cz cA cB cC cD cE cF cG cH cI cJ cK cL cM cN cO cP cQ cR cS cT cU cV cW cX cY cZ:Value),Q .normal { tmps:=#[u0,u1,u2,u3,u4,u5,u6,u7,u8,u9,u10,.slice (some ⟨b,0,none⟩) 8 cv,u12,u13,.int .u32 ((a).toNat:Int),P,.int .u32 ((u).toNat:Int),u17,u18,u19,aL,u21,aN,u23,aO,aP,aQ,aR,aS,aT,aU,aV,aW,aX,aY,aZ,a0,a1,a2,a3,a4,a5,a6,a7,a8,a9,ba,bb,bc,bd,be,bf,bg,bh,bi,bj,bk,bl,bm,bn,bo,bp,bq,br,bs,bt,bu,bv,bw,bx,bz,bA,bB,bC,bD,bE,bF,bG,bH,bI,bJ,bK,bL,bM,bN,bO,bP,bQ,bR,bS,bT,bU,bV,bW,bX,bY,bZ,b0,b1,b2,g,i,k,l,m,n,o,p,q,r,s,t,v,x,z,A,B,C,D,E,F,G,H,I,J,K,L,M,N,O,cy,cz,cA,cB,cC,cD,cE,cF,cG,cH,cI,cJ,cK,cL,cM,cN,cO,cP,cQ,cR,cS,cT,cU,cV,cW,cX,cY,cZ,R,S,T,U,V,Y,Z,aa,ab,ac,ad,ae,af,ag,ah,ai,aj,ak,al,am,an,ao,ap,aq,ar,au,av,aw,ax,ay,az,aA,aB,aC,aD,aE,aF,aG,aH,aI,aJ,aK,aM],defers:=[] } X) :
 (nR Tryz.f141 21).wp Tryz.prog Q { tmps:=#[u0,u1,u2,u3,u4,u5,u6,u7,u8,u9,u10,.slice (some ⟨b,0,none⟩) 8 cv,u12,u13,.int .u32 ((a).toNat:Int),P,u16,u17,u18,u19,aL,u21,aN,u23,aO,aP,aQ,aR,aS,aT,aU,aV,aW,aX,aY,aZ,a0,a1,a2,a3,a4,a5,a6,a7,a8,a9,ba,bb,bc,bd,be,bf,bg,bh,bi,bj,bk,bl,bm,bn,bo,bp,bq,br,bs,bt,bu,bv,bw,bx,bz,bA,bB,bC,bD,bE,bF,bG,bH,bI,bJ,bK,bL,bM,bN,bO,bP,bQ,bR,bS,bT,bU,bV,bW,bX,bY,bZ,b0,b1,b2,g,i,k,l,m,n,o,p,q,r,s,t,v,x,z,A,B,C,D,E,F,G,H,I,J,K,L,M,N,O,b5,b6,b7,b8,b9,ca,cb,cc,cd,ce,cf,cg,ch,ci,cj,ck,cl,cm,cn,co,cp,cq,cr,cs,ct,cu,cw,cx,R,S,T,U,V,Y,Z,aa,ab,ac,ad,ae,af,ag,ah,ai,aj,ak,al,am,an,ao,ap,aq,ar,au,av,aw,ax,ay,az,aA,aB,aC,aD,aE,aF,aG,aH,aI,aJ,aK,aM],defers:=[] } w:=by
 refine zZ (by kernel_rfl) 29 [0,1,0,7,15,0,47,127,0,0,512,1536,3840,0,0,16384,49152,122880,261888,0,524288,1572864,0,4194304,12582912,33030144,67108608,134217727,268435455] [] (fun j f X=>match j with
  | 0=>f 0=.int .u32 ((a).toNat:Int)
  | 1=>f 1=.int .u32 ((rr 2 a).toNat:Int)
  | 2=>f 2=.int .u32 ((a).toNat:Int)
  | 3=>f 3=.int .u32 ((rr 13 a).toNat:Int)
  | 4=>f 4=.int .u32 (((rr 2 a) ^^^(rr 13 a)).toNat:Int)
  | 5=>f 5=.int .u32 ((a).toNat:Int)
  | 6=>f 6=.int .u32 ((rr 22 a).toNat:Int)
  | 7=>f 7=.int .u32 ((S0 a).toNat:Int)
  | 8=>f 8=.int .u32 ((a).toNat:Int)
  | 9=>f 9=.slice (some ⟨b,0,none⟩) 8 cv
  | 10=>f 10=.pointer (some ⟨b,1,none⟩)
  | 11=>f 11=.int .u32 ((rb).toNat:Int)
  | 12=>f 12=.int .u32 ((a &&& rb).toNat:Int)
  | 13=>f 13=.int .u32 ((a).toNat:Int)
  | 14=>f 14=.slice (some ⟨b,0,none⟩) 8 cv
  | 15=>f 15=.pointer (some ⟨b,2,none⟩)
  | 16=>f 16=.int .u32 ((rc).toNat:Int)
  | 17=>f 17=.int .u32 ((a &&& rc).toNat:Int)
  | 18=>f 18=.int .u32 (((a &&& rb) ^^^(a &&& rc)).toNat:Int)
  | 19=>f 19=.slice (some ⟨b,0,none⟩) 8 cv
  | 20=>f 20=.pointer (some ⟨b,1,none⟩)
  | 21=>f 21=.int .u32 ((rb).toNat:Int)
  | 22=>f 22=.slice (some ⟨b,0,none⟩) 8 cv
  | 23=>f 23=.pointer (some ⟨b,2,none⟩)
  | 24=>f 24=.int .u32 ((rc).toNat:Int)
  | 25=>f 25=.int .u32 ((rb &&& rc).toNat:Int)
  | 26=>f 26=.int .u32 ((mj a rb rc).toNat:Int)
  | 27=>f 27=.int .u32 ((u).toNat:Int)
  | 28=>f 28=.int .u32 ((u).toNat:Int)
  | _=>True) (by kernel_rfl) [(130,0),(131,1),(132,2),(133,3),(134,4),(135,5),(136,6),(137,7),(138,8),(139,9),(140,10),(141,11),(142,12),(143,13),(144,14),(145,15),(146,16),(147,17),(148,18),(149,19),(150,20),(151,21),(152,22),(153,23),(154,24),(155,25),(156,26),(157,27),(16,28)] (by kernel_rfl) ?_
 refine zJ 1 28 ?_
 refine qK 2 27 (fun f=>#[f 0,Value.int IntKind.u64 2]) (F':=155) (fun f X c hR=>?_) ?_
 · have e0:f 0=_:=hR.out 0 rfl;simp only[e0];refine(zDs a X).mono ?_;rintro e w2 ⟨rfl,rfl⟩;exact⟨(.int .u32 ((rr 2 a).toNat:Int)),rfl,(zT _),fun _ _=>rfl⟩
 refine zJ 3 26 ?_
 refine qK 4 25 (fun f=>#[f 2,Value.int IntKind.u64 13]) (F':=155) (fun f X c hR=>?_) ?_
 · have e2:f 2=_:=hR.out 2 rfl;simp only[e2];refine(zCB a X).mono ?_;rintro e w2 ⟨rfl,rfl⟩;exact⟨(.int .u32 ((rr 13 a).toNat:Int)),rfl,(zT _),fun _ _=>rfl⟩
 refine qj 5 24 1 3 (hR:=fun _ _ h=>h.trans (uC _ _)) ?_
 refine zJ 6 23 ?_
 refine qK 7 22 (fun f=>#[f 5,Value.int IntKind.u64 22]) (F':=155) (fun f X c hR=>?_) ?_
 · have e5:f 5=_:=hR.out 5 rfl;simp only[e5];refine(zB7 a X).mono ?_;rintro e w2 ⟨rfl,rfl⟩;exact⟨(.int .u32 ((rr 22 a).toNat:Int)),rfl,(zT _),fun _ _=>rfl⟩
 refine qj 8 21 4 6 (hR:=fun _ _ h=>h.trans (uC _ _)) ?_
 refine zJ 9 20 ?_
 refine zJ 10 19 ?_
 refine zt 11 18 9 ?_
 refine qC 12 17 10 v1 ?_
 refine qj 13 16 8 11 (hR:=fun _ _ h=>h.trans (fH _ _)) ?_
 refine zJ 14 15 ?_
 refine zJ 15 14 ?_
 refine zt 16 13 14 ?_
 refine qC 17 12 15 v2 ?_
 refine qj 18 11 13 16 (hR:=fun _ _ h=>h.trans (fH _ _)) ?_
 refine qj 19 10 12 17 (hR:=fun _ _ h=>h.trans (uC _ _)) ?_
 refine zJ 20 9 ?_
 refine zt 21 8 19 ?_
 refine qC 22 7 20 v1 ?_
 refine zJ 23 6 ?_
 refine zt 24 5 22 ?_
 refine qC 25 4 23 v2 ?_
 refine qj 26 3 21 24 (hR:=fun _ _ h=>h.trans (fH _ _)) ?_
 refine qj 27 2 18 25 (hR:=fun _ _ h=>h.trans (uC _ _)) ?_
 refine qj 28 1 7 26 (hR:=fun _ _ h=>h.trans ((wM _ _).trans (congrArg (fun y:W=>Value.int .u32 (y.toNat:Int)) hu))) ?_
 refine zt 29 0 27 ?_
 refine yF ⟨fun f X c hR b3 b4=>?_⟩
 have d:f 28=_:=hR 28 (by decide)
 simp only[yZ,d]
 clear hR b3 b4 d
 refine zI ?_
 exact h X c _ _ _ _ _ _ _ _ _ _ _ _ _ _ _ _ _ _ _ _ _ _ _ _ _ _ _ _
theorem zDl {Q:Exit→Act→World→Prop}{w:World}{a cv:Nat}{c rb rc rd d e i t u b ne:W}{u0 u1 u2 u3 u4 u5 u6 u7 u8 u9 u10 u12 u13 az u17 u18 u19 a7 u21 a9 u23 ba bb bc bd be bf bg bh bi bj bk bl bm bn bo bp bq br bs bt bu bv bw bx bz bA bB bC bD bE bF bG bH bI bJ bK bL bM bN bO bP bQ bR bS bT bU bV bW bX bY bZ b0 b1 b2 b3 b4 b5 b6 b7 b8 b9 ca cb cc cd ce cf cg ch ci cj ck cl cm cn co E F G H I J L M N O P R S T U V Z aa ab ac ad ae af ag ah ai aj ak al am an ao ap aq ar au av aw ax ay aA aB aC aD aE aF aG aH aI aJ aK aL aM aN aO aP aQ aR cy cz cA cB cC cD cE cF cG cH cI cJ cK cL cM cN cO cP cQ cR cS cT cU cV cW cX cY aS aT aU aV aW aX aY aZ a0 a1 a2 a3 a4 a5 a6 a8:Value}
 (v0:w.cell? ⟨a,0,none⟩=some (.int .u32 ((c).toNat:Int))) (v1:w.cell? ⟨a,1,none⟩=some (.int .u32 ((rb).toNat:Int))) (v2:w.cell? ⟨a,2,none⟩=some (.int .u32 ((rc).toNat:Int))) (v3:w.cell? ⟨a,3,none⟩=some (.int .u32 ((rd).toNat:Int))) (v4:w.cell? ⟨a,4,none⟩=some (.int .u32 ((d).toNat:Int))) (v5:w.cell? ⟨a,5,none⟩=some (.int .u32 ((e).toNat:Int))) (v6:w.cell? ⟨a,6,none⟩=some (.int .u32 ((i).toNat:Int))) (cu:t+u=b) (cw:rd+t=ne)
 (h:∀(X:World) (m:Nat) , Ext w X→w.heap.size≤m→VC X m [b,c,rb,rc,ne,d,e,i]→∀(cZ c0 c1 c2 c3 c4 c5 c6 c7 c8 c9 da db dc dd de df dg dh di dj dk dl dm dn dp dq:Value),Q .normal { tmps:=#[u0,u1,u2,u3,u4,u5,u6,u7,u8,u9,u10,.slice (some ⟨m,0,none⟩) 8 8,u12,u13,az,.int .u32 ((t).toNat:Int),.int .u32 ((u).toNat:Int),u17,u18,u19,a7,u21,a9,u23,ba,bb,bc,bd,be,bf,bg,bh,bi,bj,bk,bl,bm,bn,bo,bp,bq,br,bs,bt,bu,bv,bw,bx,bz,bA,bB,bC,bD,bE,bF,bG,bH,bI,bJ,bK,bL,bM,bN,bO,bP,bQ,bR,bS,bT,bU,bV,bW,bX,bY,bZ,b0,b1,b2,b3,b4,b5,b6,b7,b8,b9,ca,cb,cc,cd,ce,cf,cg,ch,ci,cj,ck,cl,cm,cn,co,E,F,G,H,I,J,L,M,N,O,P,R,S,T,U,V,Z,aa,ab,ac,ad,ae,af,ag,ah,ai,aj,ak,al,am,an,ao,ap,aq,ar,au,av,aw,ax,ay,aA,aB,aC,aD,aE,aF,aG,aH,aI,aJ,aK,aL,aM,aN,aO,aP,aQ,aR,cZ,c0,c1,c2,c3,c4,c5,c6,c7,c8,c9,da,db,dc,dd,de,df,dg,dh,di,dj,dk,dl,dm,dn,dp,dq,aS,aT,aU,aV,aW,aX,aY,aZ,a0,a1,a2,a3,a4,a5,a6,a8],defers:=[] } X) :
 (nR Tryz.f141 22).wp Tryz.prog Q { tmps:=#[u0,u1,u2,u3,u4,u5,u6,u7,u8,u9,u10,.slice (some ⟨a,0,none⟩) 8 cv,u12,u13,az,.int .u32 ((t).toNat:Int),.int .u32 ((u).toNat:Int),u17,u18,u19,a7,u21,a9,u23,ba,bb,bc,bd,be,bf,bg,bh,bi,bj,bk,bl,bm,bn,bo,bp,bq,br,bs,bt,bu,bv,bw,bx,bz,bA,bB,bC,bD,bE,bF,bG,bH,bI,bJ,bK,bL,bM,bN,bO,bP,bQ,bR,bS,bT,bU,bV,bW,bX,bY,bZ,b0,b1,b2,b3,b4,b5,b6,b7,b8,b9,ca,cb,cc,cd,ce,cf,cg,ch,ci,cj,ck,cl,cm,cn,co,E,F,G,H,I,J,L,M,N,O,P,R,S,T,U,V,Z,aa,ab,ac,ad,ae,af,ag,ah,ai,aj,ak,al,am,an,ao,ap,aq,ar,au,av,aw,ax,ay,aA,aB,aC,aD,aE,aF,aG,aH,aI,aJ,aK,aL,aM,aN,aO,aP,aQ,aR,cy,cz,cA,cB,cC,cD,cE,cF,cG,cH,cI,cJ,cK,cL,cM,cN,cO,cP,cQ,cR,cS,cT,cU,cV,cW,cX,cY,aS,aT,aU,aV,aW,aX,aY,aZ,a0,a1,a2,a3,a4,a5,a6,a8],defers:=[] } w:=by
 refine zZ (by kernel_rfl) 28 [0,0,3,0,8,24,0,64,192,0,512,1536,0,4096,12288,0,61440,0,131072,393216,0,1048576,3145728,0,8388608,25165824,67108863,134217727] [] (fun j f X=>match j with
  | 0=>f 0=.int .u32 ((t).toNat:Int)
  | 1=>f 1=.int .u32 ((u).toNat:Int)
  | 2=>f 2=.int .u32 ((b).toNat:Int)
  | 3=>f 3=.slice (some ⟨a,0,none⟩) 8 cv
  | 4=>f 4=.pointer (some ⟨a,0,none⟩)
  | 5=>f 5=.int .u32 ((c).toNat:Int)
  | 6=>f 6=.slice (some ⟨a,0,none⟩) 8 cv
  | 7=>f 7=.pointer (some ⟨a,1,none⟩)
  | 8=>f 8=.int .u32 ((rb).toNat:Int)
  | 9=>f 9=.slice (some ⟨a,0,none⟩) 8 cv
  | 10=>f 10=.pointer (some ⟨a,2,none⟩)
  | 11=>f 11=.int .u32 ((rc).toNat:Int)
  | 12=>f 12=.slice (some ⟨a,0,none⟩) 8 cv
  | 13=>f 13=.pointer (some ⟨a,3,none⟩)
  | 14=>f 14=.int .u32 ((rd).toNat:Int)
  | 15=>f 15=.int .u32 ((t).toNat:Int)
  | 16=>f 16=.int .u32 ((ne).toNat:Int)
  | 17=>f 17=.slice (some ⟨a,0,none⟩) 8 cv
  | 18=>f 18=.pointer (some ⟨a,4,none⟩)
  | 19=>f 19=.int .u32 ((d).toNat:Int)
  | 20=>f 20=.slice (some ⟨a,0,none⟩) 8 cv
  | 21=>f 21=.pointer (some ⟨a,5,none⟩)
  | 22=>f 22=.int .u32 ((e).toNat:Int)
  | 23=>f 23=.slice (some ⟨a,0,none⟩) 8 cv
  | 24=>f 24=.pointer (some ⟨a,6,none⟩)
  | 25=>f 25=.int .u32 ((i).toNat:Int)
  | 26=>∃ g,f 26=.slice (some ⟨g,0,none⟩) 8 8∧w.heap.size≤g∧VC X g [b,c,rb,rc,ne,d,e,i]
  | 27=>∃ g,f 27=.slice (some ⟨g,0,none⟩) 8 8∧w.heap.size≤g∧VC X g [b,c,rb,rc,ne,d,e,i]
  | _=>True) (by kernel_rfl) [(158,0),(159,1),(160,2),(161,3),(162,4),(163,5),(164,6),(165,7),(166,8),(167,9),(168,10),(169,11),(170,12),(171,13),(172,14),(173,15),(174,16),(175,17),(176,18),(177,19),(178,20),(179,21),(180,22),(181,23),(182,24),(183,25),(184,26),(11,27)] (by kernel_rfl) ?_
 refine zJ 1 27 ?_
 refine zJ 2 26 ?_
 refine qj 3 25 0 1 (hR:=fun _ _ h=>h.trans ((wM _ _).trans (congrArg (fun y:W=>Value.int .u32 (y.toNat:Int)) cu))) ?_
 refine zJ 4 24 ?_
 refine zt 5 23 3 ?_
 refine qC 6 22 4 v0 ?_
 refine zJ 7 21 ?_
 refine zt 8 20 6 ?_
 refine qC 9 19 7 v1 ?_
 refine zJ 10 18 ?_
 refine zt 11 17 9 ?_
 refine qC 12 16 10 v2 ?_
 refine zJ 13 15 ?_
 refine zt 14 14 12 ?_
 refine qC 15 13 13 v3 ?_
 refine zJ 16 12 ?_
 refine qj 17 11 14 15 (hR:=fun _ _ h=>h.trans ((wM _ _).trans (congrArg (fun y:W=>Value.int .u32 (y.toNat:Int)) cw))) ?_
 refine zJ 18 10 ?_
 refine zt 19 9 17 ?_
 refine qC 20 8 18 v4 ?_
 refine zJ 21 7 ?_
 refine zt 22 6 20 ?_
 refine qC 23 5 21 v5 ?_
 refine zJ 24 4 ?_
 refine zt 25 3 23 ?_
 refine qC 26 2 24 v6 ?_
 refine zv 27 1 [(158,0),(159,1),(160,2),(161,3),(162,4),(163,5),(164,6),(165,7),(166,8),(167,9),(168,10),(169,11),(170,12),(171,13),(172,14),(173,15),(174,16),(175,17),(176,18),(177,19),(178,20),(179,21),(180,22),(181,23),(182,24),(183,25)] (fun f X l hR K n=>?_) ?_
 · have s:f 2=_:=hR.out 2 rfl;have A:f 5=_:=hR.out 5 rfl;have B:f 8=_:=hR.out 8 rfl;have p:f 11=_:=hR.out 11 rfl;have q:f 16=_:=hR.out 16 rfl;have r:f 19=_:=hR.out 19 rfl;have v:f 22=_:=hR.out 22 rfl;have x:f 25=_:=hR.out 25 rfl;simp only[yZ,s,A,B,p,q,r,v,x];refine⟨?_⟩;go_simp;exact n.out _ _ _ (by simp only[yZ,s,A,B,p,q,r,v,x]) (zL _ _) trivial (fun Y o=>⟨_,rfl,l.bsize,(VB.vc (show VB _ _ [b,c,rb,rc,ne,d,e,i] 144 from zS _ _)).ext o⟩)
 refine zv 28 0 [(158,0),(159,1),(160,2),(161,3),(162,4),(163,5),(164,6),(165,7),(166,8),(167,9),(168,10),(169,11),(170,12),(171,13),(172,14),(173,15),(174,16),(175,17),(176,18),(177,19),(178,20),(179,21),(180,22),(181,23),(182,24),(183,25),(184,26)] (fun f X l hR K n=>?_) ?_
 · obtain⟨cp,(k:f 26=_),D,C⟩:=hR.out 26 rfl;simp only[yZ,k];refine⟨?_⟩;go_simp;exact n.out _ _ _ (by simp only[yZ,k]) (zT _) trivial (fun Y o=>⟨_,rfl,D,C.ext o⟩)
 refine yF ⟨fun f X l hR cs ct=>?_⟩
 obtain⟨cp,(k:f 26=_),D,C⟩:=hR 26 (by decide)
 obtain⟨cq,(z:f 27=_),cx,cr⟩:=hR 27 (by decide)
 simp only[yZ,k,z]
 clear hR cs ct k z
 refine zI ?_
 exact h X cq l cx cr _ _ _ _ _ _ _ _ _ _ _ _ _ _ _ _ _ _ _ _ _ _ _ _ _ _ _
theorem zDk {Q:Exit→Act→World→Prop}{w:World}{g e cv k:Nat}{x y z:W}{u0 u2 u3 u4 u5 u6 u7 u8 u9 u10 u12 u13 am az u16 u18 u19 be u21 bg u23 bh bi bj bk bl bm bn bo bp bq br bs bt bu bv bw bx bz bA bB bC bD bE bF bG bH bI bJ bK bL bM bN bO bP bQ bR bS bT bU bV bW bX bY bZ b0 b1 b2 b3 b4 b5 b6 b7 b8 b9 ca cb cc cd ce cf cg ch ci cj ck cl cm cn co cp cq cr cs ct cu cw p q r t u v A B C D E F G H I J L M N O P R S T U V Y Z aa ab ac ad ae af ag ah ai aj ak al an ao ap aq ar au av aw ax ay aA aB aC aD aE aF aG aH aI aJ aK aL aM aN aO aP aQ aR aS aT aU aV aW aX aY aZ a0 a1 a2 a3 a4 a5 a6 a7 a8 a9 ba bb bc cA cB cC cD cE cF cG cH cI cJ bd bf:Value}
 (k8:(k:Int)<8) (_cV:8≤cv) (i:w.cell? ⟨g,k,none⟩=some (.int .u32 ((y).toNat:Int))) (cx:w.cell? ⟨e,k,none⟩=some (.int .u32 ((x).toNat:Int))) (fk:∀ X,Ext w X→X.frozen? ⟨g,k,none⟩=false) (hz:y+x=z)
 (h:∀(X:World) , Ext w X→∀(cK cL cM cN cO cP cQ cR cS cT:Value),Q .normal { tmps:=#[u0,.slice (some ⟨g,0,none⟩) 8 8,u2,u3,u4,u5,u6,u7,u8,u9,u10,.slice (some ⟨e,0,none⟩) 8 cv,u12,u13,am,az,u16,.int .i64 (k:Int),u18,u19,be,u21,bg,u23,bh,bi,bj,bk,bl,bm,bn,bo,bp,bq,br,bs,bt,bu,bv,bw,bx,bz,bA,bB,bC,bD,bE,bF,bG,bH,bI,bJ,bK,bL,bM,bN,bO,bP,bQ,bR,bS,bT,bU,bV,bW,bX,bY,bZ,b0,b1,b2,b3,b4,b5,b6,b7,b8,b9,ca,cb,cc,cd,ce,cf,cg,ch,ci,cj,ck,cl,cm,cn,co,cp,cq,cr,cs,ct,cu,cw,p,q,r,t,u,v,A,B,C,D,E,F,G,H,I,J,L,M,N,O,P,R,S,T,U,V,Y,Z,aa,ab,ac,ad,ae,af,ag,ah,ai,aj,ak,al,an,ao,ap,aq,ar,au,av,aw,ax,ay,aA,aB,aC,aD,aE,aF,aG,aH,aI,aJ,aK,aL,aM,aN,aO,aP,aQ,aR,aS,aT,aU,aV,aW,aX,aY,aZ,a0,a1,a2,a3,a4,a5,a6,a7,a8,a9,ba,bb,bc,cK,cL,cM,cN,cO,cP,cQ,cR,cS,cT,bd,bf],defers:=[] } (X.setCell ⟨g,k,none⟩ (.int .u32 ((z).toNat:Int)))) :
 (nR Tryz.f141 26).wp Tryz.prog Q { tmps:=#[u0,.slice (some ⟨g,0,none⟩) 8 8,u2,u3,u4,u5,u6,u7,u8,u9,u10,.slice (some ⟨e,0,none⟩) 8 cv,u12,u13,am,az,u16,.int .i64 (k:Int),u18,u19,be,u21,bg,u23,bh,bi,bj,bk,bl,bm,bn,bo,bp,bq,br,bs,bt,bu,bv,bw,bx,bz,bA,bB,bC,bD,bE,bF,bG,bH,bI,bJ,bK,bL,bM,bN,bO,bP,bQ,bR,bS,bT,bU,bV,bW,bX,bY,bZ,b0,b1,b2,b3,b4,b5,b6,b7,b8,b9,ca,cb,cc,cd,ce,cf,cg,ch,ci,cj,ck,cl,cm,cn,co,cp,cq,cr,cs,ct,cu,cw,p,q,r,t,u,v,A,B,C,D,E,F,G,H,I,J,L,M,N,O,P,R,S,T,U,V,Y,Z,aa,ab,ac,ad,ae,af,ag,ah,ai,aj,ak,al,an,ao,ap,aq,ar,au,av,aw,ax,ay,aA,aB,aC,aD,aE,aF,aG,aH,aI,aJ,aK,aL,aM,aN,aO,aP,aQ,aR,aS,aT,aU,aV,aW,aX,aY,aZ,a0,a1,a2,a3,a4,a5,a6,a7,a8,a9,ba,bb,bc,cA,cB,cC,cD,cE,cF,cG,cH,cI,cJ,bd,bf],defers:=[] } w:=by
 refine zZ (by kernel_rfl) 10 [0,0,3,7,0,0,48,112,255,511,1023] [] (fun j f X=>match j with
  | 0=>f 0=.slice (some ⟨g,0,none⟩) 8 8
  | 1=>f 1=.int .i64 (k:Int)
  | 2=>f 2=.pointer (some ⟨g,k,none⟩)
  | 3=>f 3=.int .u32 ((y).toNat:Int)
  | 4=>f 4=.slice (some ⟨e,0,none⟩) 8 cv
  | 5=>f 5=.int .i64 (k:Int)
  | 6=>f 6=.pointer (some ⟨e,k,none⟩)
  | 7=>f 7=.int .u32 ((x).toNat:Int)
  | 8=>f 8=.int .u32 ((z).toNat:Int)
  | 9=>f 9=.pointer (some ⟨g,k,none⟩)
  | _=>True) (by kernel_rfl) [(189,0),(190,1),(191,2),(192,3),(193,4),(194,5),(195,6),(196,7),(197,8),(198,9)] (by kernel_rfl) ?_
 refine zJ 1 9 ?_
 refine zJ 2 8 ?_
 refine zv 3 7 [(189,0),(190,1),(193,4),(194,5),(195,6),(196,7)] (fun f X b hR K a=>?_) ?_
 · have c:f 0=_:=hR.out 0 rfl;have d:f 1=_:=hR.out 1 rfl;simp only[yZ,c,d];refine⟨?_⟩;go_simp;exact qY a (s:=by simp only[yZ,c,d])
 refine qC 4 6 2 i ?_
 refine zJ 5 5 ?_
 refine zJ 6 4 ?_
 refine zv 7 3 [(189,0),(190,1),(191,2),(192,3),(193,4),(194,5)] (fun f X b hR K a=>?_) ?_
 · have l:f 4=_:=hR.out 4 rfl;have m:f 5=_:=hR.out 5 rfl;simp only[yZ,l,m];refine⟨?_⟩;go_simp;exact qY a (s:=by simp only[yZ,l,m])
 refine qC 8 2 6 cx ?_
 refine qj 9 1 3 7 (hR:=fun _ _ h=>h.trans ((wM _ _).trans (congrArg (fun y:W=>Value.int .u32 (y.toNat:Int)) hz))) ?_
 refine zv 10 0 [(189,0),(190,1),(191,2),(192,3),(193,4),(194,5),(195,6),(196,7),(197,8)] (fun f X b hR K a=>?_) ?_
 · have c:f 0=_:=hR.out 0 rfl;have d:f 1=_:=hR.out 1 rfl;simp only[yZ,c,d];refine⟨?_⟩;go_simp;exact qY a (s:=by simp only[yZ,c,d])
 refine yF ⟨fun f X b hR cy cz=>?_⟩
 have n:f 8=_:=hR 8 (by decide)
 have o:f 9=_:=hR 9 (by decide)
 simp only[yZ,n,o]
 clear hR cy cz n o
 replace i:=b.cell i
 have cU:=fk X b
 refine zO (fun K a=>⟨zU (by kernel_rfl) ?_⟩)
 go_simp
 refine a.out _ _ ?_
 refine zI ?_
 exact h X b _ _ _ _ _ _ _ _ _ _
theorem RB.upK {w X:World}{A:Option Addr}{c n:Nat}{bs:List Nat}(h:RB w (fun b=>n<b∧b<w.heap.size) A c bs)(d:Ext w X):RB X (fun b=>n<b∧b<X.heap.size) A c bs:=(h.below d (fun _ a=>a.2)).mono fun _ a=>⟨a.1,zH a.2 d.bsize⟩
theorem RB.justK {w X:World}{A:Option Addr}{c n g:Nat}{bs:List Nat}(h:RB w (fun b=>n<b∧b<w.heap.size) A c bs)(d:jE g w X)(f:g≤n):RB X (fun b=>n<b∧b<X.heap.size) A c bs:=(h.keep fun p e=>qB (d.block _ e.2 (by have:=e.1;omega))).mono fun _ a=>⟨a.1,zH a.2 d.size⟩
theorem VB.made64 (w:World):VB (w.alloc (.cells (madeCells #[.int .u32 0] 64) 144)) w.heap.size (List.replicate 64 0) 144:=by
 unfold VB;rw[zS];have:madeCells #[.int .u32 0] 64=(vs (List.replicate 64 0)).toArray:=by kernel_rfl
 rw[this]
theorem zAS {P:Nat→Prop}{A:Option Addr}{c:Nat}{bs:List Nat}(g:Nat)(s:St)(w:World)(hp:RB w P A c bs)(hP:∀ k,P k→k<w.heap.size)(hl:bs.length≤900000)(hg:VB w g s.list 144) :
 Calls Tryz.prog 141 #[.slice A bs.length c,.slice (some ⟨g,0,none⟩) 8 8] w fun e w'=>∃ A' c',e=.returned (.slice A' 32 c')∧OW w' w.heap.size A' c' ((kK s (pad bs) ((pad bs).length/64)).out)∧Fr g w.heap.size w w':=by
 have J:=zF hg
 have HP:=zF hp
 have ao:=zF hP
 have HL:=zF hl
 clear hg hp hP hl
 go_enter Tryz.func141,Tryz.ntmps141
 go_wp2_with fail
 refine(zA5 w).mono ?_
 rintro e w1 ⟨rfl,hk,ai⟩
 have H2:=zF (zCO w1 (HP.out.below ai ao.out) (fun k hk=>zH (ao.out k hk) ai.bsize) (by have:=HL.out;omega))
 obtain⟨R,az⟩:=eV w.heap.size
 rw[az]at hk ⊢
 have HK:=zF hk
 have an:=zF ai
 have bD:=zF az
 clear hk ai az HP ao
 go_wp2_with fail
 refine H2.out.mono ?_
 rintro e w2 ⟨A2,c2,rfl,S,v⟩
 have bn:=pF bs
 have aI:(pad bs).length≤1000000:=by rw[pad,zf,gP];have:=HL.out;omega
 obtain⟨m,hm⟩:=eV (pad bs)
 have bG:=zF hm
 rw[hm]at S bn aI ⊢
 obtain⟨n,hn⟩:=eV (m.length/64)
 have bI:=zF hn
 have bp:m.length=64*n:=by omega
 have bm:=HK.out.lt
 have a3:=zF (show RB w2 (fun b=>R<b∧b<w2.heap.size) A2 c2 m from(S.rb (by omega)).mono fun b hb=>⟨zH bm hb.1,hb.2⟩)
 have aY:=zF (HK.out.ext v)
 have aT:=zF ((J.out.ext an.out).ext v)
 have aR:=zF (show Fr g w.heap.size w w2 from jc (an.out.trans v) (zG _))
 have ae:=zF (show g<R by rw[←bD.out];exact J.out.lt)
 have bF:=zF bp
 have bV:=zF aI
 clear H2 S v bn hm hn bp bm aI HK an J
 go_wp2_with fail
 go_loopw [6] (fun s6 wr=>∃(i:Nat) (A:Option Addr) (c:Nat) (r:List Nat),s6=.slice A r.length c∧i≤n∧Hid (r=m.drop (64*i))∧Hid (RB wr (fun b=>R<b∧b<wr.heap.size) A c r)∧Hid (VB wr R kk 144)∧Hid (VB wr g (kK s m i).list 144)∧Hid (Fr g w.heap.size w wr)) (fun s6 _=>(match s6 with | .slice _ n _=>n|_=>0))
 case atStart=>exact⟨0,A2,c2,m,rfl,by omega,zF rfl,a3,aY,aT,aR⟩
 case round =>
  clear a3 aY aT aR;obtain⟨i,A3,c3,r,rfl,hi,HR,ab,HK,J,HF⟩:=hrel;have br:r.length=64*(n-i):=by rw[HR.out,qa,bF.out];omega
  obtain⟨q,T⟩:=eV r.length;have ac:=zF (T▸br);have D:=zF T;clear br;by_cases hin:i=n
  · have q0:¬(0:Int)<(q:Int):=by have:=ac.out;rw[hin,uk]at this;omega
    have HW:=zF (sX g (kK s m i).list wr J.out rfl);have a6:=zF HF.out.size;rw[T];clear T;go_wp2_with fail;refine HW.out.mono ?_;rintro e w9 ⟨A9,c9,rfl,S,hE⟩;have bJ:=zF (show OW w9 w.heap.size A9 c9 ((kK s (pad bs) ((pad bs).length/64)).out) by rw[bG.out,bI.out,←hin];exact S.mono a6.out);have bC:=zF (show Fr g w.heap.size w w9 from HF.out.trans ((jc hE (zG _)).mono a6.out));clear S hE HW;go_wp2_with fail;go_ret;exact⟨A9,c9,rfl,bJ.out,bC.out⟩
  · have q0:(0:Int)<(q:Int):=by have:=ac.out;omega
    obtain⟨l,aK⟩:=eV (kK s m i);have hT:kK s m (i+1)=pk l (r.take 64):=by rw[HR.out,←aK];rfl
    rw[aK]at J;have HT:=zF hT;obtain⟨ad,rfl⟩:∃ ad,A3=some ad:=by obtain⟨ad,e,_⟩:=ab.out.dg (i:=0) (by have:=ac.out;have:=D.out;omega);exact⟨ad,e⟩
    clear hT aK;rw[T];clear T;generalize wr=Q at *;have bo:=qt (P:=Tryz.prog) 186 144 (.int .u32 0) 4 Tryz.underlying186 zA9 rfl .i64 .i64 64 (by omega) (by omega);simp only[qO]at bo;have al:=VB.made64 Q;have ar:Ext Q (Q.alloc (.cells (madeCells #[.int .u32 0] 64) 144)):=zL _ _;obtain⟨L,hL⟩:=eV (sch (r.take 64) 64);have aq:L.length=64:=by rw[←hL];exact ym _ 64
    have a1:=zF (show ∀ j,j<64→wd L j=if j<16 then be (r.take 64) (4*j)else nxt (sch (r.take 64) j)from fun j hj=>by rw[←hL];exact gr _ 64 j hj);have a2:=zF (show ∀ j,16≤j→j<64→wd L j=wd L (j-16)+g0 (wd L (j-15))+wd L (j-7)+g1 (wd L (j-2))from fun j h1 h2=>by rw[←hL];exact nN _ h1 h2);have a7:=zF (show kK s m (i+1)=l.add (uY L l 64) by rw[HT.out,←hL];rfl);have a8:Hid (uh (List.replicate 64 0) L 0):=zF (uh.zero _ _ (by rw[aq];rfl));have aa:=zF aq;clear HT hL aq;go_upto_region 6 with fail;have bl:decide (0<q)=true:=qm (by omega);rw[bl];clear bl;obtain⟨W0,bh⟩:=eV (Q.alloc (.cells (madeCells #[.int .u32 0] 64) 144));obtain⟨gw,aB⟩:=eV Q.heap.size;rw[bh]at al ar ⊢;rw[aB]at al ⊢;have aM:=zF al;have aP:=zF ar;have aX:=zF aB;clear al ar aB bh bo;go_wp2_with fail;go_loopw [8] (fun s8 wx=>∃(k:Nat) (o:List W),s8=.int .i64 (k:Int)∧k≤64∧Hid (uh o L k)∧Hid (VB wx gw o 144)∧Hid (Ext Q wx)) (fun s8 _=>(64-intOf s8).toNat);case atStart=>exact⟨0,_,rfl,by omega,a8,aM,aP⟩
    case round =>
     clear a8 aM aP;obtain⟨k,o,rfl,aD,f,a,d⟩:=hrel;have bZ:o.length=64:=f.out.1.trans aa.out;by_cases hlt:k<64
     · have aL:(k:Int)<64:=by omega
       by_cases h16:k<16
       · have bQ:(k:Int)<16:=by omega
         have bv:IntKind.i64.wrap (4*(k:Int))=((4*k:Nat):Int):=by rw[qu _ (by omega)];omega
         obtain⟨C,aC⟩:=eV (4*k);rw[aC]at bv;have G:=ab.out.cap;have aJ:64≤q:=by have:=ac.out;omega
         have q1:(0:Int)≤(C:Int):=by omega
         have q2:(C:Int)≤(q:Int):=by omega
         have q4:(C:Int)≤(c3:Int):=by have:=G.1;have:=D.out;omega
         have q5:(q:Int)≤(c3:Int):=by have:=G.1;have:=D.out;omega
         have q3:¬(c3:Int)=(C:Int):=by omega
         have ay:=zAB (fun b=>R<b∧b<wr.heap.size) (some (ad.add C)) (c3-C) (r.drop C) wr ((ab.out.upK d.out).from' (by have:=D.out;omega) (by have:=G.1;omega) (by have:=G.2.1;unfold maxLen;omega) (fun _=>rfl)) (by rw[qa,D.out];omega);rw[sQ,qa,D.out]at ay;have bb:=zF ay;have bM:=zF aC;clear ay aC G;go_wp2_with fail;refine bb.out.mono ?_;rintro e w3 ⟨rfl,au⟩;have aj:=a.out.ext au;have bX:=aj.free k;have bW:=aj.cell (i:=k) (by omega);have M:=zF (f.out.step (x:=be r C) (by rw[aa.out];omega) (by rw[a1.out k hlt,qg h16,zC7 _ (by omega),bM.out]));have ap:=zF (aj.set k (be r C));have I:=zF ((d.out.trans au).setCell (p:=⟨gw,k,none⟩) (by rw[aX.out];exact zG _) (.int .u32 ((be r C).toNat:Int)));clear bb aj au f a d q0 q1 q2 q3 q4 q5 bv;generalize be r C=x at *;go_wp2_with fail;go_roundw;case rel=>exact⟨k+1,_,by go_num,by omega,M,ap,I⟩
         case measure=>simp[intOf];omega
       · have bQ:¬(k:Int)<16:=by omega
         obtain⟨z,V⟩:=eV (k-16);obtain⟨Y,bw⟩:=eV (k-15);obtain⟨z7,bz⟩:=eV (k-7);obtain⟨Z,bx⟩:=eV (k-2);have bR:(z:Int)<64:=by omega
         have b3:(Y:Int)<64:=by omega
         have l7:(z7:Int)<64:=by omega
         have l2:(Z:Int)<64:=by omega
         have bS:IntKind.i64.wrap ((k:Int)-16)=(z:Int):=by rw[qu _ (by omega)];omega
         have b4:IntKind.i64.wrap ((k:Int)-15)=(Y:Int):=by rw[qu _ (by omega)];omega
         have w7:IntKind.i64.wrap ((k:Int)-7)=(z7:Int):=by rw[qu _ (by omega)];omega
         have w2:IntKind.i64.wrap ((k:Int)-2)=(Z:Int):=by rw[qu _ (by omega)];omega
         have bc:=a.out.cell (i:=z) (by omega);have bN:=a.out.cell (i:=Y) (by omega);have d7:=a.out.cell (i:=z7) (by omega);have d2:=a.out.cell (i:=Z) (by omega);have dk:=a.out.cell (i:=k) (by omega);have he:wd L k=wd o z+g0 (wd o Y)+wd o z7+g1 (wd o Z):=by
          rw[a2.out k (by omega) hlt,V,bw,bz,bx,f.out.2 z (by omega),f.out.2 Y (by omega),f.out.2 z7 (by omega),f.out.2 Z (by omega)]
         have M:=zF (f.out.step (x:=wd L k) (by rw[aa.out];omega) rfl);rw[he]at M;clear he V bw bz bx q0;generalize wd o z=bU at *;generalize wd o Y=bT at *;generalize wd o z7=x7 at *;generalize wd o Z=x2 at *;go_upto_region 13 with fail;obtain⟨nw,aH⟩:=eV (bU+g0 bT+x7+g1 x2);rw[aH]at M;have hV:=a.out;refine zDo aL bR l7 bS w7 bc d7 dk (fun X B=>(hV.ext B).free k) aH ?_;intro X B;intros;have bf:=hV.ext B;have bL:=zF (bf.set k nw);have bB:=zF ((d.out.trans B).setCell (p:=⟨gw,k,none⟩) (by rw[aX.out];exact zG _) (.int .u32 (nw.toNat:Int)));clear dk bf hV B bc bN d7 d2 f a d aH;generalize World.setCell X ⟨gw,k,none⟩ (.int .u32 (nw.toNat:Int))=w7 at *;go_wp2_with fail;go_roundw;case rel=>exact⟨k+1,_,by go_num,by omega,M,bL,bB⟩
         case measure=>simp[intOf];omega
     · obtain rfl:k=64:=by omega
       rw[show((64:Nat):Int)=64 from rfl];have bg:VB wr gw L 144:=by
        have hU:=f.out;rw[←aa.out]at hU;have e:=hU.fin;rw[←e];exact a.out
       have aw:=HK.out.ext d.out;have av:=J.out.ext d.out;have bd:=ab.out.upK d.out;clear hlt aD f a a1 a2;go_upto_region 15 with(at_builtin;refine appv rfl (.const (.slice none 0 0)) (.tmp 83) rfl rfl rfl av rfl ?_;intro F cv V2 bu bP am v);have aA:g<F:=by have:=ae.out;have:=aw.lt;omega
       have a9:=zF (show VC V2 F (uY L l 0).list from bu);have ba:=zF (bg.ext v);have af:=zF (aw.ext v);have aW:=zF (av.ext v);have a5:=zF (bd.upK v);have aQ:=zF (d.out.trans v);clear bg aw av bd bu v d;go_wp2_with fail;go_loopw [11,12] (fun s11 s12 wx=>∃(k F cv:Nat),s11=.slice (some ⟨F,0,none⟩) 8 cv∧s12=.int .i64 (k:Int)∧k≤64∧8≤cv∧g<F∧Hid (VC wx F (uY L l k).list)∧Hid (Ext V2 wx)) (fun _ s12 _=>(64-intOf s12).toNat);case atStart=>exact⟨0,F,cv,rfl,rfl,by omega,am,aA,a9,zF (zT _)⟩
       case round =>
        clear a9 am aA bP;obtain⟨k,F,cv,rfl,rfl,aD,am,aA,a,d⟩:=hrel;by_cases hlt:k<64
        · have aL:(k:Int)<64:=by omega
          have cx:=(ba.out.ext d.out).cell (i:=k) (by rw[aa.out];exact hlt);have N:=(af.out.ext d.out).cell (i:=k) hlt;obtain⟨x,O⟩:=eV (wd L k);obtain⟨kw,aE⟩:=eV (wd kk k);have Hr:=zF (show uY L l (k+1)=rnd (uY L l k) kw x by rw[←O,←aE];rfl);rw[O]at cx;rw[aE]at N;clear O aE;generalize uY L l k=r' at *;obtain⟨ra,rb,rc,rd,re,rf,rg,rh⟩:=r';have v0:=a.out.2 0 (show 0<8 by omega);have v1:=a.out.2 1 (show 1<8 by omega);have v2:=a.out.2 2 (show 2<8 by omega);have v3:=a.out.2 3 (show 3<8 by omega);have v4:=a.out.2 4 (show 4<8 by omega);have v5:=a.out.2 5 (show 5<8 by omega);have v6:=a.out.2 6 (show 6<8 by omega);have v7:=a.out.2 7 (show 7<8 by omega);simp only[wd,St.list,List.getD_cons_zero,List.getD_cons_succ]at v0 v1 v2 v3 v4 v5 v6 v7;clear a;go_upto_region 20 with fail;obtain⟨t,U⟩:=eV (rh+S1 re+ch re rf rg+kw+x);obtain⟨u,hu⟩:=eV (S0 ra+mj ra rb rc);obtain⟨na,aF⟩:=eV (t+u);obtain⟨ne,aG⟩:=eV (rd+t);have Hn:=zF (show rnd ⟨ra,rb,rc,rd,re,rf,rg,rh⟩ kw x=⟨na,ra,rb,rc,ne,re,rf,rg⟩ by rw[←aF,←aG,←U,←hu];rfl);refine zDn aL v5 v6 v7 N cx U ?_;intro X1 ak;intros;have w1:=ak.cell v1;have w2:=ak.cell v2;clear N cx;go_upto_region 21 with fail;refine zDm w1 w2 hu ?_;intro X2 bi;intros;have E:=ak.trans bi;clear w1 w2;go_upto_region 22 with fail;refine zDl (E.cell v0) (E.cell v1) (E.cell v2) (E.cell v3) (E.cell v4) (E.cell v5) (E.cell v6) aF aG ?_;intro X3 g3 bj b2 bt;have bO:g<g3:=by have:=ae.out;have:=(af.out.ext (d.out.trans E)).lt;omega
          intros;have ap:=zF (show VC X3 g3 (uY L l (k+1)).list by rw[Hr.out,Hn.out];exact bt);have I:=zF (d.out.trans (E.trans bj));clear ak bi bj E bt v0 v1 v2 v3 v4 v5 v6 v7 d Hr Hn aF aG U hu;go_wp2_with fail;go_roundw;case rel=>exact⟨k+1,g3,8,rfl,by go_num,by omega,by omega,bO,ap,I⟩
          case measure=>simp[intOf];omega
        · obtain rfl:k=64:=by omega
          rw[show((64:Nat):Int)=64 from rfl];have HC:=zF (a.out);have aU:=zF (aW.out.ext d.out);have aZ:=zF (af.out.ext d.out);have a4:=zF (a5.out.upK d.out);have I:=zF (aQ.out.trans d.out);have bH:=zF (show g≠F by omega);clear a d aW af a5 aQ ba hlt aD;obtain⟨t,U⟩:=eV (uY L l 64);rw[U]at HC a7;clear U;generalize wr=V3 at *;go_wp2_with fail;go_loopw [17] (fun s17 wx=>∃(k:Nat) (H:List W),s17=.int .i64 (k:Int)∧k≤8∧Hid (VB wx g H 144)∧Hid (uh H (l.add t).list k)∧Hid (∀ j,k≤j→wd H j=wd l.list j)∧Hid (jE g V3 wx)) (fun s17 _=>(8-intOf s17).toNat);case atStart=>exact⟨0,_,rfl,by omega,aU,zF (uh.zero _ _ rfl),zF (fun _ _=>rfl),zF (q9 g V3)⟩
          case round =>
           obtain⟨k,H,rfl,b1,HB,f,ah,K⟩:=hrel;by_cases hlt:k<8
           · have k8:(k:Int)<8:=by omega
             have cx:=(HC.out.just K.out (xa bH.out)).2 k hlt;have hB:=HB.out;have bY:H.length=8:=f.out.1;have N:=hB.cell (i:=k) (by omega);obtain⟨x,O⟩:=eV (wd t.list k);obtain⟨y,hy⟩:=eV (wd H k);obtain⟨z,V⟩:=eV (y+x)
             have M:=zF (f.out.step (x:=z) hlt (by
              have e:wd (l.add t).list k=wd l.list k+wd t.list k:=by
               match k,hlt with
               | 0,_|1,_|2,_|3,_|4,_|5,_|6,_|7,_=>rfl
              rw[e,←V,←O,←hy,ah.out k (zG _)]))
             have ag:=zF (show ∀ j,k+1≤j→wd (H.set k z) j=wd l.list j from fun j hj=>by rw[dS _ (by omega)];exact ah.out j (by omega));rw[O]at cx;rw[hy]at N;clear O hy f ah HB;go_upto_region 26 with fail;refine zDk k8 am N cx (fun X B=>(hB.ext B).free k) V ?_;intro X B;intros;have bA:=zF ((hB.ext B).set k z);have bE:=zF ((K.out.trans (jE.of_below B (zG _))).set k (.int .u32 (z.toNat:Int)));clear hB B cx N V K;generalize World.setCell X ⟨g,k,none⟩ (.int .u32 (z.toNat:Int))=w9 at *;go_wp2_with fail;go_roundw;case rel=>exact⟨k+1,_,by go_num,by omega,bA,M,ag,bE⟩
             case measure=>simp[intOf];omega
           · obtain rfl:k=8:=by omega
             rw[show((8:Nat):Int)=8 from rfl];have hH:=f.out.fin;have aV:=zF (show VB wr g (kK s m (i+1)).list 144 by rw[a7.out,←hH];exact HB.out);have a0:=zF (show VB wr R kk 144 from K.out.at_ (by have:=ae.out;omega) aZ.out);have ag:=zF (a4.out.justK K.out (by have:=ae.out;omega));have aS:=zF (show Fr g w.heap.size w wr from(HF.out.trans ((jc I.out (zG _)).mono HF.out.size)).trans ((xT K.out (zK HF.out.size I.out.bsize))));clear hH HB f ah K aU aZ a4 I HC;have G:=ab.out.cap;have aJ:64≤q:=by have:=ac.out;omega
             have bq:q≤c3:=by have:=D.out;omega
             have r1:(64:Int)≤(q:Int):=by omega
             have r2:(q:Int)≤(c3:Int):=by omega
             have r3:(64:Int)≤(c3:Int):=by omega
             have ax:m.drop (64*(i+1))=r.drop 64:=by rw[HR.out,List.drop_drop];rfl
             have aO:=zF (show r.drop 64=m.drop (64*(i+1))from ax.symm);have aN:=zF (show(r.drop 64).length=q-64 by rw[qa,D.out]);have b0:i<n:=by omega
             by_cases hc:c3=64
             · subst hc;obtain rfl:q=64:=by omega
               clear ax G bq r2 r3 aJ;go_wp2_with fail;have bk:r.drop 64=[]:=qV (by rw[aN.out]);go_roundw;case rel=>exact⟨i+1,some ad,0,r.drop 64,by rw[bk];rfl,by omega,aO,zF (by rw[bk];exact⟨⟨by simp,by unfold maxLen;omega,by simp[bys],fun h=>absurd h (by simp)⟩,by simp,by simp⟩),a0,aV,aS⟩
               case measure=>simp
             · have r4:¬(c3:Int)=64:=by omega
               have bK:=zF (ag.out.from' (k:=64) (c':=c3-64) (by have:=D.out;omega) (by have:=D.out;omega) (by have:=G.2.1;unfold maxLen;omega) (A':=some (ad.add 64)) (fun _=>rfl));clear ax G bq aJ ag;go_wp2_with fail;go_roundw;case rel=>exact⟨i+1,some (ad.add 64),c3-64,r.drop 64,by rw[aN.out];rfl,by omega,aO,bK,a0,aV,aS⟩
               case measure=>simp;omega
end Go.Proofs.YtaemogcomplhiaaGreatDoor

/- Laws that the proof rests on. -/
import Derived.Test.YtaemogcomplhiaaGreatDoorQcb98dd7cfcf7
set_option maxRecDepth 100000
set_option maxHeartbeats 16000000
namespace Go.Proofs.YtaemogcomplhiaaGreatDoor
namespace Kr
structure Op (α:Type) where
 add:α→α→α
 sub:α→α→α
 mul:α→α→α
 int:Int→α
structure Rel {α β:Type} (O:Op α) (U:Op β) (R:α→β→Prop):Prop where
 add:∀ {a b c d},R a c→R b d→R (O.add a b) (U.add c d)
 sub:∀ {a b c d},R a c→R b d→R (O.sub a b) (U.sub c d)
 mul:∀ {a b c d},R a c→R b d→R (O.mul a b) (U.mul c d)
 int:∀ n,R (O.int n) (U.int n)
def ext {α:Type} (O:Op α) (c:α):Op (α×α) :=
 ⟨fun a b=>(O.add a.1 b.1,O.add a.2 b.2),fun a b=>(O.sub a.1 b.1,O.sub a.2 b.2),fun a b=>(O.add (O.mul a.1 b.1) (O.mul (O.mul a.2 b.2) c),O.add (O.mul a.1 b.2) (O.mul a.2 b.1)),fun n=>(O.int n,O.int 0)⟩
def two {α β:Type} (R:α→β→Prop):α×α→β×β→Prop:=fun a b=>R a.1 b.1∧R a.2 b.2
theorem Rel.ext {α β:Type}{O:Op α}{U:Op β}{R:α→β→Prop}{c:α}{d:β}(h:Rel O U R)(hc:R c d):Rel (ext O c) (ext U d) (two R) :=
 ⟨fun h1 h2 => ⟨h.add h1.1 h2.1, h.add h1.2 h2.2⟩, fun h1 h2 => ⟨h.sub h1.1 h2.1, h.sub h1.2 h2.2⟩,
  fun h1 h2=>⟨h.add (h.mul h1.1 h2.1) (h.mul (h.mul h1.2 h2.2) hc),h.add (h.mul h1.1 h2.2) (h.mul h1.2 h2.1)⟩,fun n=>⟨h.int n,h.int 0⟩⟩
structure Pr (α:Type) where
 x:α
 y:α
 z:α
structure bZ {α β:Type} (R:α→β→Prop) (P:Pr α) (Q:Pr β):Prop where
 x:R P.x Q.x
 y:R P.y Q.y
 z:R P.z Q.z
section
variable {α β:Type}
def fx (O:Op α) (b:α) (P Q:Pr α):α:=O.sub (O.mul (O.add (O.mul P.x Q.y) (O.mul Q.x P.y)) (O.sub (O.mul P.y Q.y) (O.mul (O.int 3) (O.sub (O.mul b (O.mul P.z Q.z)) (O.add (O.mul P.x Q.z) (O.mul Q.x P.z)))))) (O.mul (O.add (O.mul P.y Q.z) (O.mul Q.y P.z)) (O.mul (O.int 3) (O.sub (O.sub (O.mul b (O.add (O.mul P.x Q.z) (O.mul Q.x P.z))) (O.mul P.x Q.x)) (O.mul (O.int 3) (O.mul P.z Q.z)))))
def fy (O:Op α) (b:α) (P Q:Pr α):α:=O.add (O.mul (O.mul (O.int 3) (O.sub (O.mul P.x Q.x) (O.mul P.z Q.z))) (O.mul (O.int 3) (O.sub (O.sub (O.mul b (O.add (O.mul P.x Q.z) (O.mul Q.x P.z))) (O.mul P.x Q.x)) (O.mul (O.int 3) (O.mul P.z Q.z))))) (O.mul (O.add (O.mul P.y Q.y) (O.mul (O.int 3) (O.sub (O.mul b (O.mul P.z Q.z)) (O.add (O.mul P.x Q.z) (O.mul Q.x P.z))))) (O.sub (O.mul P.y Q.y) (O.mul (O.int 3) (O.sub (O.mul b (O.mul P.z Q.z)) (O.add (O.mul P.x Q.z) (O.mul Q.x P.z))))))
def fz (O:Op α) (b:α) (P Q:Pr α):α:=O.add (O.mul (O.add (O.mul P.y Q.z) (O.mul Q.y P.z)) (O.add (O.mul P.y Q.y) (O.mul (O.int 3) (O.sub (O.mul b (O.mul P.z Q.z)) (O.add (O.mul P.x Q.z) (O.mul Q.x P.z)))))) (O.mul (O.add (O.mul P.x Q.y) (O.mul Q.x P.y)) (O.mul (O.int 3) (O.sub (O.mul P.x Q.x) (O.mul P.z Q.z))))
def bw (O:Op α) (b:α) (P Q:Pr α):Pr α:=⟨fx O b P Q,fy O b P Q,fz O b P Q⟩
theorem fV {O:Op α}{U:Op β}{R:α→β→Prop}(h:Rel O U R){b:α}{c:β}{P Q:Pr α}{S T:Pr β}(hb:R b c)(h1:bZ R P S)(h2:bZ R Q T):bZ R (bw O b P Q) (bw U c S T):=by
 have hxy:=h.add (h.mul h1.x h2.y) (h.mul h2.x h1.y);have hyz:=h.add (h.mul h1.y h2.z) (h.mul h2.y h1.z);have hxz:=h.add (h.mul h1.x h2.z) (h.mul h2.x h1.z);have hxx:=h.mul h1.x h2.x;have hyy:=h.mul h1.y h2.y;have hzz:=h.mul h1.z h2.z;have ht:=h.mul (h.int 3) (h.sub (h.mul hb hzz) hxz);have hn:=h.mul (h.int 3) (h.sub (h.sub (h.mul hb hxz) hxx) (h.mul (h.int 3) hzz));have hk:=h.mul (h.int 3) (h.sub hxx hzz);exact⟨h.sub (h.mul hxy (h.sub hyy ht)) (h.mul hyz hn),h.add (h.mul hk hn) (h.mul (h.add hyy ht) (h.sub hyy ht)),h.add (h.mul hyz (h.add hyy ht)) (h.mul hxy hk)⟩
def cz (O:Op α) (T V:Pr α):α×α:=(O.sub (O.mul T.x V.z) (O.mul T.z V.x),O.sub (O.mul T.y V.z) (O.mul T.z V.y))
theorem zD7 {O:Op α}{U:Op β}{R:α→β→Prop}(h:Rel O U R){P Q:Pr α}{S T:Pr β}(h1:bZ R P S)(h2:bZ R Q T):two R (cz O P Q) (cz U S T) :=
 ⟨h.sub (h.mul h1.x h2.z) (h.mul h1.z h2.x),h.sub (h.mul h1.y h2.z) (h.mul h1.z h2.y)⟩
def assoc (O:Op α) (b:α) (P Q S:Pr α):α×α:=cz O (bw O b (bw O b P Q) S) (bw O b P (bw O b Q S))
theorem ao {O:Op α}{U:Op β}{R:α→β→Prop}(h:Rel O U R){b:α}{c:β}{P Q S:Pr α}{P' Q' S':Pr β}(hb:R b c)(h1:bZ R P P')(h2:bZ R Q Q')(h3:bZ R S S'):two R (assoc O b P Q S) (assoc U c P' Q' S') :=
 zD7 h (fV h hb (fV h hb h1 h2) h3) (fV h hb h1 (fV h hb h2 h3))
def pg (O:Op α) (b x:α):α:=O.add (O.sub (O.mul (O.mul x x) x) (O.mul (O.int 3) x)) b
theorem fX {O:Op α}{U:Op β}{R:α→β→Prop}(h:Rel O U R){b x:α}{c y:β}(hb:R b c)(hx:R x y):R (pg O b x) (pg U c y):=h.add (h.sub (h.mul (h.mul hx hx) hx) (h.mul (h.int 3) hx)) hb
def lift (O:Op α) (a:α):α×α:=(a,O.int 0)
theorem xC {O:Op α}{U:Op β}{R:α→β→Prop}(h:Rel O U R){a:α}{b:β}(hab:R a b):two R (lift O a) (lift U b):=⟨hab,h.int 0⟩
def O1 (O:Op α) (b x1:α):=ext O (pg O b x1)
def O2 (O:Op α) (b x1 x2:α):=ext (O1 O b x1) (lift O (pg O b x2))
def O3 (O:Op α) (b x1 x2 x3:α):=ext (O2 O b x1 x2) (lift (O1 O b x1) (lift O (pg O b x3)))
def bL (O:Op α) (b x1 x2:α) (a:α):((α×α)×(α×α))×((α×α)×(α×α)):=lift (O2 O b x1 x2) (lift (O1 O b x1) (lift O a))
def p1 (O:Op α) (b x1 x2 x3:α):Pr (((α×α)×(α×α))×((α×α)×(α×α))):=⟨bL O b x1 x2 x1,lift (O2 O b x1 x2) (lift (O1 O b x1) (O.int 0,O.int 1)),(O3 O b x1 x2 x3).int 1⟩
def p2 (O:Op α) (b x1 x2 x3:α):Pr (((α×α)×(α×α))×((α×α)×(α×α))):=⟨bL O b x1 x2 x2,lift (O2 O b x1 x2) ((O1 O b x1).int 0,(O1 O b x1).int 1),(O3 O b x1 x2 x3).int 1⟩
def p3 (O:Op α) (b x1 x2 x3:α):Pr (((α×α)×(α×α))×((α×α)×(α×α))):=⟨bL O b x1 x2 x3,((O2 O b x1 x2).int 0,(O2 O b x1 x2).int 1),(O3 O b x1 x2 x3).int 1⟩
def gg (O:Op α) (b x1 x2 x3:α):=assoc (O3 O b x1 x2 x3) (bL O b x1 x2 b) (p1 O b x1 x2 x3) (p2 O b x1 x2 x3) (p3 O b x1 x2 x3)
theorem bN {O:Op α}{U:Op β}{R:α→β→Prop}(h:Rel O U R){b x1 x2 x3:α}{c y1 y2 y3:β}(hb:R b c)(h1:R x1 y1)(h2:R x2 y2)(h3:R x3 y3):two (two (two (two R))) (gg O b x1 x2 x3) (gg U c y1 y2 y3):=by
 have r1:Rel (O1 O b x1) (O1 U c y1) (two R):=h.ext (fX h hb h1);have r2:Rel (O2 O b x1 x2) (O2 U c y1 y2) (two (two R)):=r1.ext (xC h (fX h hb h2));have r3:Rel (O3 O b x1 x2 x3) (O3 U c y1 y2 y3) (two (two (two R))):=r2.ext (xC r1 (xC h (fX h hb h3)));have l3:∀ {a:α} {d:β},R a d→two (two (two R)) (bL O b x1 x2 a) (bL U c y1 y2 d):=fun ha=>xC r2 (xC r1 (xC h ha));exact ao r3 (l3 hb) ⟨l3 h1,xC r2 (xC r1 ⟨h.int 0,h.int 1⟩),r3.int 1⟩ ⟨l3 h2,xC r2 ⟨r1.int 0,r1.int 1⟩,r3.int 1⟩ ⟨l3 h3,⟨r2.int 0,r2.int 1⟩,r3.int 1⟩
end
def vU {α:Type} (p:α→Prop):α×α→Prop:=fun a=>p a.1∧p a.2
theorem fi {α:Type}{p q r:α→Prop}(h:∀ x,p x→q x→r x){a:α×α}(h1:vU p a)(h2:vU q a):vU r a:=⟨h _ h1.1 h2.1,h _ h1.2 h2.2⟩
theorem fh {α β:Type}{R:α→β→Prop}{p:β→Prop}{q:α→Prop}(h:∀ x y,R x y→p y→q x){a:α×α}{b:β×β}(h1:two R a b)(h2:vU p b):vU q a:=⟨h _ _ h1.1 h2.1,h _ _ h1.2 h2.2⟩
theorem fA {α β:Type}{R:α→β→Prop}{p:α→Prop}{q:β→Prop}(h:∀ x y,R x y→p x→q y){a:α×α}{b:β×β}(h1:two R a b)(h2:vU p a):vU q b:=⟨h _ _ h1.1 h2.1,h _ _ h1.2 h2.2⟩
def ak {α:Type} (p:α→Bool):α×α→Bool:=fun a=>p a.1&&p a.2
theorem fj {α:Type}{p:α→Bool}{q:α→Prop}(h:∀ x,p x=true→q x){a:α×α}(h1:ak p a=true):vU q a:=by
 unfold ak at h1;rw[ji]at h1;exact⟨h _ h1.1,h _ h1.2⟩
abbrev al {α:Type} (p:α→Prop):=vU (vU (vU (vU p)))
abbrev alB {α:Type} (p:α→Bool):=ak (ak (ak (ak p)))
theorem mg {α:Type}{p q r:α→Prop}(h:∀ x,p x→q x→r x){a}(h1:al p a)(h2:al q a):al r a:=fi (fun _=>fi (fun _=>fi (fun _=>fi h))) h1 h2
theorem pz {α β:Type}{R:α→β→Prop}{p:β→Prop}{q:α→Prop}(h:∀ x y,R x y→p y→q x){a b}(h1:two (two (two (two R))) a b)(h2:al p b):al q a:=fh (p:=vU (vU (vU p))) (q:=vU (vU (vU q))) (fun _ _=>fh (p:=vU (vU p)) (q:=vU (vU q)) (fun _ _=>fh (p:=vU p) (q:=vU q) (fun _ _=>fh h))) h1 h2
theorem zDJ {α β:Type}{R:α→β→Prop}{p:α→Prop}{q:β→Prop}(h:∀ x y,R x y→p x→q y){a b}(h1:two (two (two (two R))) a b)(h2:al p a):al q b:=fA (p:=vU (vU (vU p))) (q:=vU (vU (vU q))) (fun _ _=>fA (p:=vU (vU p)) (q:=vU (vU q)) (fun _ _=>fA (p:=vU p) (q:=vU q) (fun _ _=>fA h))) h1 h2
theorem bU {α:Type}{p:α→Bool}{q:α→Prop}(h:∀ x,p x=true→q x){a}(h1:alB p a=true):al q a:=fj (fun _=>fj (fun _=>fj (fun _=>fj h))) h1
structure Tm where
 c:Int
 e:Nat→Nat
abbrev MP:=List Tm
def mono (v:Nat→Int) (e:Nat→Nat):Int:=v 0^e 0*v 1^e 1*v 2^e 2*v 3^e 3
def ev (v:Nat→Int):MP→Int
 | []=>0
 | t::l=>t.c*mono v t.e+ev v l
def oZ (s t:Tm):Tm:=⟨s.c*t.c,fun i=>s.e i+t.e i⟩
def opM:Op MP:=⟨fun P Q=>P++Q,fun P Q=>P++Q.map (fun t=>⟨-t.c,t.e⟩),fun P Q=>P.flatMap (fun s=>Q.map (oZ s)),fun n=>if n=0 then []else [⟨n,fun _=>0⟩]⟩
def var (i:Nat):MP:=[⟨1,fun j=>if j=i then 1 else 0⟩]
theorem dL (v:Nat→Int)(P Q:MP):ev v (P++Q)=ev v P+ev v Q:=by
 induction P with
 | nil=>simp[ev]
 | cons t l ih=>simp only[uS,ev,ih];omega
theorem zD5 (v:Nat→Int)(Q:MP):ev v (Q.map (fun t=>⟨-t.c,t.e⟩))=- ev v Q:=by
 induction Q with
 | nil=>rfl
 | cons t l ih=>simp only[List.map_cons,ev,ih,Int.neg_mul];omega
theorem zAu (v:Nat→Int)(e f:Nat→Nat):mono v (fun i=>e i+f i)=mono v e*mono v f:=by
 simp only[mono,Int.pow_add];grind
theorem zCU (v:Nat→Int)(s:Tm)(Q:MP):ev v (Q.map (oZ s))=s.c*mono v s.e*ev v Q:=by
 induction Q with
 | nil=>simp[ev]
 | cons t l ih =>
   simp only[List.map_cons,ev,ih,oZ,zAu];grind
theorem zD6 (v:Nat→Int)(P Q:MP):ev v (P.flatMap (fun s=>Q.map (oZ s)))=ev v P*ev v Q:=by
 induction P with
 | nil=>simp[ev]
 | cons t l ih=>simp only[List.flatMap_cons,dL,ev,ih,zCU,Int.add_mul]
def opI:Op Int:=⟨fun a b=>a+b,fun a b=>a-b,fun a b=>a*b,fun n=>n⟩
theorem zDQ (v:Nat→Int):Rel opM opI (fun P z=>ev v P=z) :=
 ⟨fun h1 h2 => by rw [← h1, ← h2]; exact dL v _ _, fun h1 h2 => by rw [← h1, ← h2]; show ev v (_ ++ _) = _; rw [dL, zD5]; rfl, fun h1 h2 => by rw [← h1, ← h2]; exact zD6 v _ _, fun n => by
  show ev v (if n=0 then []else _)=n
  split
  · rename_i h;rw[h];rfl
  · simp[ev,mono]⟩
theorem mU (v:Nat→Int):ev v (var 0)=v 0∧ev v (var 1)=v 1∧ev v (var 2)=v 2∧ev v (var 3)=v 3:=by simp[ev,var,mono,Int.pow_succ]
def nrm:MP→Nat
 | []=>0
 | t::l=>t.c.natAbs+nrm l
theorem gr (P Q:MP):nrm (P++Q)=nrm P+nrm Q:=by
 induction P with
 | nil=>simp[nrm]
 | cons t l ih=>simp only[uS,nrm,ih];omega
theorem zCC (Q:MP):nrm (Q.map (fun t=>⟨-t.c,t.e⟩))=nrm Q:=by
 induction Q with
 | nil=>rfl
 | cons t l ih=>simp only[List.map_cons,nrm,ih,Int.natAbs_neg]
theorem zAn (s:Tm)(Q:MP):nrm (Q.map (oZ s))=s.c.natAbs*nrm Q:=by
 induction Q with
 | nil=>rfl
 | cons t l ih=>simp only[List.map_cons,nrm,ih,oZ,Int.natAbs_mul,zf]
theorem zCD (P Q:MP):nrm (P.flatMap (fun s=>Q.map (oZ s)))=nrm P*nrm Q:=by
 induction P with
 | nil=>simp[nrm]
 | cons t l ih=>simp only[List.flatMap_cons,gr,nrm,ih,zAn,qY]
def opN:Op Nat:=⟨fun a b=>a+b,fun a b=>a+b,fun a b=>a*b,fun n=>n.natAbs⟩
theorem zBv:Rel opM opN (fun P z=>nrm P=z) :=
 ⟨fun h1 h2 => by rw [← h1, ← h2]; exact gr _ _, fun h1 h2 => by rw [← h1, ← h2]; show nrm (_ ++ _) = _; rw [gr, zCC]; rfl, fun h1 h2 => by rw [← h1, ← h2]; exact zCD _ _, fun n => by
  show nrm (if n=0 then []else _)=n.natAbs
  split
  · rename_i h;rw[h];rfl
  · simp[nrm]⟩
def dg (i:Nat) (P:MP) (d:Nat):Prop:=∀ t∈P,t.e i<d
def opD:Op Nat:=⟨fun a b=>max a b,fun a b=>max a b,fun a b=>match a,b with|0,_=>0|_,0=>0|a+1,b+1=>a+b+1,fun n=>if n=0 then 0 else 1⟩
theorem zDR (i:Nat):Rel opM opD (dg i):=by
 refine⟨fun {a b c d} h1 h2 t ht=>?_,fun {a b c d} h1 h2 t ht=>?_,fun {a b c d} h1 h2 t ht=>?_,fun n t ht=>?_⟩
 · show _<max c d;rcases List.mem_append.1 ht with h|h
   · have:=h1 t h;omega
   · have:=h2 t h;omega
 · show _<max c d;rcases List.mem_append.1 ht with h|h
   · have:=h1 t h;omega
   · obtain⟨s,hs,rfl⟩:=List.mem_map.1 h;have:=h2 s hs;show s.e i<_;omega
 · obtain⟨s,hs,h⟩:=List.mem_flatMap.1 ht;obtain⟨r,hr,rfl⟩:=List.mem_map.1 h;have:=h1 s hs;have:=h2 r hr;show s.e i+r.e i<opD.mul c d;match c,d with
   | 0,_=>omega
   | _+1,0=>omega
   | c+1,d+1=>show _<c+d+1;omega
 · have ht':t∈(if n=0 then []else [⟨n,fun _=>0⟩]:MP):=ht;show t.e i<if n=0 then 0 else 1
   split
   · rename_i h;rw[qg h]at ht';cases ht'
   · rename_i h;rw[ql h]at ht';have:t=⟨n,fun _=>0⟩:=List.mem_singleton.1 ht';subst this;show 0<1;omega
def S (f:Nat→Int):List (Int×Nat)→Int
 | []=>0
 | t::l=>t.1*f t.2+S f l
def n1:List (Int×Nat)→Nat
 | []=>0
 | t::l=>t.1.natAbs+n1 l
def c0:List (Int×Nat)→Int
 | []=>0
 | (c,0)::l=>c+c0 l
 | (_,_+1)::l=>c0 l
def dn:List (Int×Nat)→List (Int×Nat)
 | []=>[]
 | (_,0)::l=>dn l
 | (c,k+1)::l=>(c,k)::dn l
theorem zCs (f:Nat→Int):∀ l,S f l=c0 l*f 0+S (fun k=>f (k+1)) (dn l)
 | []=>by simp[S,c0,dn]
 | (c,0)::l=>by simp only[S,c0,dn];rw[zCs f l,Int.add_mul];omega
 | (c,k+1)::l=>by simp only[S,c0,dn];rw[zCs f l];omega
theorem zAp:∀ l,(c0 l).natAbs+n1 (dn l)≤n1 l
 | []=>by simp[n1,c0,dn]
 | (c, 0) :: l => by
   have:=zAp l;simp only[n1,c0,dn];have:=Int.natAbs_add_le c (c0 l);omega
 | (c, k + 1) :: l => by
   have:=zAp l;simp only[n1,c0,dn];omega
theorem zBI {M:Nat} : ∀ {l:List (Int×Nat)},(∀ t∈l,t.2<M+1)→∀ t∈dn l,t.2<M
 | [],_,t,ht=>by cases ht
 | (c,0)::l,h,t,ht=>zBI (fun s hs=>h s (List.mem_cons_of_mem _ hs)) t ht
 | (c, k + 1) :: l, h, t, ht => by
   rcases List.mem_cons.1 ht with rfl|ht
   · have:=h (c,k+1) List.mem_cons_self;show k<M;simp only at this;omega
   · exact zBI (fun s hs=>h s (List.mem_cons_of_mem _ hs)) t ht
theorem sQ (B:Int)(f:Nat→Int):∀ l,S (fun k=>B*f k) l=B*S f l
 | []=>by simp[S]
 | t::l=>by simp only[S];rw[sQ B f l];grind
theorem zBc {B:Nat} : ∀(M:Nat) (l:List (Int×Nat)),(∀ t∈l,t.2<M)→n1 l<B→S (fun k=>(B:Int)^k) l=0→∀ f,S f l=0
 | 0,[],_,_,_,_=>rfl
 | 0,t::l,h,_,_,_=>absurd (h t List.mem_cons_self) (by omega)
 | M + 1, l, h, hn, hz, f => by
   have h1:=zAp l;rw[zCs]at hz;have e:(fun k=>(B:Int) ^(k+1))=fun k=>(B:Int)*(B:Int)^k:=by
     funext k;rw[Int.pow_succ,Int.mul_comm]
   rw[e,show S (fun k=>(B:Int)*(B:Int)^k) (dn l)=(B:Int)*S (fun k=>(B:Int)^k) (dn l)from sQ _ _ _,Int.pow_zero,Int.mul_one]at hz;have hB:0<(B:Int):=by omega
   have hd:(B:Int)∣c0 l:=⟨- S (fun k=>(B:Int)^k) (dn l),by rw[Int.mul_neg];omega⟩
   have hc:c0 l=0:=by
     have h2:B∣(c0 l).natAbs:=by have:=Int.natAbs_dvd_natAbs.2 hd;rwa [Int.natAbs_natCast]at this
     rcases zT (c0 l).natAbs with h0|h0
     · exact Int.natAbs_eq_zero.1 h0
     · have:=Nat.le_of_dvd h0 h2;omega
   rw[hc,Int.zero_add]at hz;have hz2:S (fun k=>(B:Int)^k) (dn l)=0:=by
     rcases Int.mul_eq_zero.1 hz with h|h
     · omega
     · exact h
   rw[zCs,hc,zBc M (dn l) (zBI h) (by omega) hz2,Int.zero_mul,Int.zero_add]
section
variable (B d0 d1 d2:Nat)
def gi (e:Nat→Nat):Nat:=e 0+d0*(e 1+d1*(e 2+d2*e 3))
def gp:Nat→Int
 | 0=>(B:Int)
 | 1=>(B:Int)^d0
 | 2=>(B:Int) ^(d0*d1)
 | _=>(B:Int) ^(d0*d1*d2)
def unc (v:Nat→Int) (k:Nat):Int:=v 0 ^(k%d0)*v 1 ^(k/d0%d1)*v 2 ^(k/d0/d1%d2)*v 3 ^(k/d0/d1/d2)
def cl (P:MP):List (Int×Nat):=P.map fun t=>(t.c,gi d0 d1 d2 t.e)
theorem zCJ (e:Nat→Nat):mono (gp B d0 d1 d2) e=(B:Int)^gi d0 d1 d2 e:=by
 simp only[mono,gp,gi,←Int.pow_mul,←Int.pow_add];congr 1;grind
theorem zC5:∀ P:MP,ev (gp B d0 d1 d2) P=S (fun k=>(B:Int)^k) (cl d0 d1 d2 P)
 | []=>rfl
 | t :: l => by
   show _=t.c*(B:Int)^gi d0 d1 d2 t.e+S _ (cl d0 d1 d2 l);rw[←zC5 l,←zCJ];rfl
theorem zAt (v:Nat→Int){e:Nat→Nat}(h0:e 0<d0)(h1:e 1<d1)(h2:e 2<d2):mono v e=unc d0 d1 d2 v (gi d0 d1 d2 e):=by
 have a0:gi d0 d1 d2 e%d0=e 0:=by unfold gi;rw[qm,zy h0]
 have a1:gi d0 d1 d2 e/d0=e 1+d1*(e 2+d2*e 3):=by unfold gi;rw[kO _ _ (by omega),qh h0,jH]
 have a2:(e 1+d1*(e 2+d2*e 3))%d1=e 1:=by rw[qm,zy h1]
 have a3:(e 1+d1*(e 2+d2*e 3))/d1=e 2+d2*e 3:=by rw[kO _ _ (by omega),qh h1,jH]
 have a4:(e 2+d2*e 3)%d2=e 2:=by rw[qm,zy h2]
 have a5:(e 2+d2*e 3)/d2=e 3:=by rw[kO _ _ (by omega),qh h2,jH]
 unfold unc mono;rw[a0,a1,a2,a3,a4,a5]
theorem zA8 (v:Nat→Int):∀ P:MP,dg 0 P d0→dg 1 P d1→dg 2 P d2→ev v P=S (unc d0 d1 d2 v) (cl d0 d1 d2 P)
 | [],_,_,_=>rfl
 | t :: l, h0, h1, h2 => by
   show _=t.c*unc d0 d1 d2 v (gi d0 d1 d2 t.e)+S _ (cl d0 d1 d2 l);rw[←zA8 v l (fun s hs=>h0 s (List.mem_cons_of_mem _ hs)) (fun s hs=>h1 s (List.mem_cons_of_mem _ hs)) (fun s hs=>h2 s (List.mem_cons_of_mem _ hs)),←zAt d0 d1 d2 v (h0 t List.mem_cons_self) (h1 t List.mem_cons_self) (h2 t List.mem_cons_self)];rfl
theorem zC1:∀ P:MP,n1 (cl d0 d1 d2 P)=nrm P
 | []=>rfl
 | t::l=>by show t.c.natAbs+n1 (cl d0 d1 d2 l)=_;rw[zC1 l];rfl
theorem bound:∀ l:List (Int×Nat),∃ M,∀ t∈l,t.2<M
 | []=>⟨0,fun t ht=>by cases ht⟩
 | s :: l => by
   obtain⟨M,hM⟩:=bound l;refine⟨max M (s.2+1),fun t ht=>?_⟩;rcases List.mem_cons.1 ht with rfl|ht
   · omega
   · have:=hM t ht;omega
theorem zCT {P:MP}(h0:dg 0 P d0)(h1:dg 1 P d1)(h2:dg 2 P d2)(hn:nrm P<B)(hz:ev (gp B d0 d1 d2) P=0)(v:Nat→Int):ev v P=0:=by
 rw[zA8 d0 d1 d2 v P h0 h1 h2];obtain⟨M,hM⟩:=bound (cl d0 d1 d2 P);exact zBc (B:=B) M _ hM (by rw[zC1];exact hn) (by rw[←zC5];exact hz) _
end
def zb (z:Int):Bool:=match z with | .ofNat 0=>true|_=>false
theorem zb_ok:∀ z:Int,zb z=true→z=0
 | .ofNat 0,_=>rfl
 | .ofNat (_+1),h=>by cases h
 | .negSucc _,h=>by cases h
def DV (i:Nat):Nat→Nat:=fun j=>if j=i then 2 else 1
theorem mX (i j:Nat):dg i (var j) (DV i j):=by
 intro t ht;have:t=⟨1,fun k=>if k=j then 1 else 0⟩:=List.mem_singleton.1 ht;subst this;show(if i=j then 1 else 0)<if j=i then 2 else 1
 split<;>split<;>omega
theorem chk_n:alB (fun n=>Nat.ble (n+1) (2^42)) (gg opN 1 1 1 1)=true:=by kernel_rfl
theorem chk_0:alB (fun n=>Nat.ble n 10) (gg opD (DV 0 3) (DV 0 0) (DV 0 1) (DV 0 2))=true:=by kernel_rfl
theorem chk_1:alB (fun n=>Nat.ble n 13) (gg opD (DV 1 3) (DV 1 0) (DV 1 1) (DV 1 2))=true:=by kernel_rfl
theorem chk_k:alB zb (gg opI (gp (2^42) 10 13 10 3) (gp (2^42) 10 13 10 0) (gp (2^42) 10 13 10 1) (gp (2^42) 10 13 10 2))=true:=by kernel_rfl
theorem chk_2:alB (fun n=>Nat.ble n 10) (gg opD (DV 2 3) (DV 2 0) (DV 2 1) (DV 2 2))=true:=by kernel_rfl
theorem tL (b x1 x2 x3:Int):al (fun z=>z=0) (gg opI b x1 x2 x3):=by
 obtain⟨v,hv⟩:∃ v:Nat→Int,v=fun i=>match i with|0=>x1|1=>x2|2=>x3|_=>b:=⟨_,rfl⟩
 have e0:v 0=x1:=by rw[hv];rfl
 have e1:v 1=x2:=by rw[hv];rfl
 have e2:v 2=x3:=by rw[hv];rfl
 have e3:v 3=b:=by rw[hv];rfl
 have rv:∀ u:Nat→Int,two (two (two (two (fun P z=>ev u P=z)))) (gg opM (var 3) (var 0) (var 1) (var 2)) (gg opI (u 3) (u 0) (u 1) (u 2)):=fun u=>bN (zDQ u) (mU u).2.2.2 (mU u).1 (mU u).2.1 (mU u).2.2.1
 have hn:al (fun P=>nrm P<2^42) (gg opM (var 3) (var 0) (var 1) (var 2)) :=
  pz (fun x y h1 h2=>by rw[h1];exact h2) (bN zBv (b:=var 3) (x1:=var 0) (x2:=var 1) (x3:=var 2) rfl rfl rfl rfl) (bU (q:=fun n=>n<2^42) (fun _ h=>jq h) chk_n)
 have hd:∀ i m,al (fun n=>n≤m) (gg opD (DV i 3) (DV i 0) (DV i 1) (DV i 2))→al (fun P=>dg i P m) (gg opM (var 3) (var 0) (var 1) (var 2)):=fun i m h =>
  pz (fun x y h1 h2 t ht=>zI (h1 t ht) h2) (bN (zDR i) (mX i 3) (mX i 0) (mX i 1) (mX i 2)) h
 have h0:=hd 0 10 (bU (fun _ h=>jq h) chk_0);have h1:=hd 1 13 (bU (fun _ h=>jq h) chk_1);have h2:=hd 2 10 (bU (fun _ h=>jq h) chk_2)
 have hk:al (fun P=>ev (gp (2^42) 10 13 10) P=0) (gg opM (var 3) (var 0) (var 1) (var 2)) :=
  pz (fun x y h1 h2=>by rw[h1];exact h2) (rv _) (bU zb_ok chk_k)
 have hz:al (fun P=>ev v P=0) (gg opM (var 3) (var 0) (var 1) (var 2)):=by
  refine mg (p:=fun P=>dg 0 P 10∧dg 1 P 13∧dg 2 P 10∧nrm P<2^42) (fun P h h'=>zCT (2^42) 10 13 10 h.1 h.2.1 h.2.2.1 h.2.2.2 h' v) ?_ hk;exact mg (fun _ a b=>⟨a,b⟩) h0 (mg (fun _ a b=>⟨a,b⟩) h1 (mg (fun _ a b=>⟨a,b⟩) h2 hn))
 have:=zDJ (fun x y (h1:ev v x=y) (h2:ev v x=0)=>h1.symm.trans h2) (rv v) hz;rwa [e0,e1,e2,e3]at this
end Kr
namespace Pm
def qb (p:Nat):Prop:=2≤p∧∀ d,d∣p→d=1∨d=p
theorem qb.two {p:Nat}(h:qb p):2≤p:=h.1
theorem qb.coprime {p a:Nat}(h:qb p)(ha:¬ p∣a):Nat.gcd p a=1:=by
 rcases h.2 _ (Nat.gcd_dvd_left p a)with h1|h1
 · exact h1
 · exact absurd (h1▸Nat.gcd_dvd_right p a) ha
theorem qb.dvd_mul {p a b:Nat}(h:qb p)(hd:p∣a*b):p∣a∨p∣b:=by
 rcases Nat.decEq (a%p) 0 with h0|h0
 · exact Or.inr (Nat.Coprime.dvd_of_dvd_mul_left (h.coprime (fun hh=>h0 (Nat.mod_eq_zero_of_dvd hh))) hd)
 · exact Or.inl (xv h0)
def ch:Nat→Nat→Nat
 | _,0=>1
 | 0,_+1=>0
 | n+1,k+1=>ch n k+ch n (k+1)
theorem ma (n:Nat):ch n 0=1:=by cases n<;>rfl
theorem ag:∀ {n k:Nat},n<k→ch n k=0
 | 0,k+1,_=>rfl
 | n + 1, k + 1, h => by
   show ch n k+ch n (k+1)=0;rw[ag (by omega),ag (by omega)]
theorem sL:∀ n,ch n n=1
 | 0=>rfl
 | n + 1 => by
   show ch n n+ch n (n+1)=1;rw[sL n,ag (by omega)]
theorem mc:∀ n k,(k+1)*ch (n+1) (k+1)=(n+1)*ch n k
 | 0,0=>rfl
 | 0, k + 1 => by
   show(k+1+1)*(ch 0 (k+1)+ch 0 (k+1+1))=_;rw[ag (by omega),ag (by omega)];simp
 | n + 1, 0 => by
   have:=mc n 0;show 1*(ch (n+1) 0+ch (n+1) 1)=_;rw[ma]at *;simp only[kN,jO]at *;simp only[jH,kN]at this;omega
 | n + 1, k + 1 => by
   have h1:=mc n k;have h2:=mc n (k+1);show(k+1+1)*(ch (n+1) (k+1)+ch (n+1) (k+1+1))=(n+1+1)*ch (n+1) (k+1);have e:ch (n+1) (k+1)=ch n k+ch n (k+1):=rfl;rw[zf,h2,Nat.succ_mul (k+1),h1,Nat.succ_mul (n+1),e,zf];omega
def sm (f:Nat→Nat):Nat→Nat
 | 0=>0
 | n+1=>sm f n+f n
theorem zAE (f g:Nat→Nat):∀ n,sm (fun i=>f i+g i) n=sm f n+sm g n
 | 0=>rfl
 | n+1=>by simp only[sm];rw[zAE f g n];omega
theorem zAC (f:Nat→Nat)(c:Nat):∀ n,sm (fun i=>f i*c) n=sm f n*c
 | 0=>by simp[sm]
 | n+1=>by simp only[sm];rw[zAC f c n,qY]
theorem dq (f:Nat→Nat):∀ n,sm f (n+1)=f 0+sm (fun i=>f (i+1)) n
 | 0=>by simp[sm]
 | n + 1 => by
   have:=dq f n;simp only[sm]at *;omega
theorem m7 {f g:Nat→Nat} : ∀ {n:Nat},(∀ i,i<n→f i=g i)→sm f n=sm g n
 | 0,_=>rfl
 | n+1,h=>by simp only[sm];rw[m7 (fun i hi=>h i (by omega)),h n (by omega)]
theorem zAD {f:Nat→Nat}{p:Nat} : ∀ {n:Nat},(∀ i,i<n→p∣f i)→p∣sm f n
 | 0,_=>⟨0,rfl⟩
 | n+1,h=>by simp only[sm];exact Nat.dvd_add (zAD (fun i hi=>h i (by omega))) (h n (by omega))
theorem zDA (a:Nat):∀ n,(a+1)^n=sm (fun k=>ch n k*a^k) (n+1)
 | 0=>by simp[sm,ch]
 | n + 1 => by
   rw[zp,zDA a n,dq (fun k=>ch (n+1) k*a^k) (n+1)];have e:sm (fun i=>ch (n+1) (i+1)*a ^(i+1)) (n+1)=sm (fun i=>ch n i*a^i*a+ch n (i+1)*a ^(i+1)) (n+1):=by
     refine m7 (fun i _=>?_);show(ch n i+ch n (i+1))*a ^(i+1)=_;rw[qY,zp a i,za]
   rw[e,zAE,zAC,zf,jO];have h2:=dq (fun k=>ch n k*a^k) (n+1);simp only[sm]at h2 ⊢;rw[ag (show n<n+1 by omega)]at *;rw[ma]at *;simp only[Nat.zero_mul,q9,Nat.pow_zero]at *;omega
theorem zD8 {p k:Nat}(hp:qb p)(h0:0<k)(hk:k<p):p∣ch p k:=by
 obtain⟨q,rfl⟩:∃ q,p=q+1:=⟨p-1,by have:=hp.two;omega⟩
 obtain⟨j,rfl⟩:∃ j,k=j+1:=⟨k-1,by omega⟩
 have h:=mc q j;rcases hp.dvd_mul (a:=j+1) (b:=ch (q+1) (j+1)) ⟨_,h⟩with h1|h1
 · exact absurd (Nat.le_of_dvd (by omega) h1) (by omega)
 · exact h1
theorem frob {p:Nat}(hp:qb p)(a:Nat):(a+1)^p%p=(a^p+1)%p:=by
 obtain⟨q,rfl⟩:∃ q,p=q+1:=⟨p-1,by have:=hp.two;omega⟩
 rw[zDA a (q+1),dq];show(ch (q+1) 0*a^0+(sm (fun i=>ch (q+1) (i+1)*a ^(i+1)) q+ch (q+1) (q+1)*a ^(q+1)))%(q+1)=_;obtain⟨m,hm⟩:=zAD (f:=fun i=>ch (q+1) (i+1)*a ^(i+1)) (p:=q+1) (n:=q) (fun i hi=>Nat.dvd_trans (zD8 hp (by omega) (by omega)) (Nat.dvd_mul_right _ _));rw[hm,ma,sL,Nat.pow_zero,kN,kN];have:1+((q+1)*m+a ^(q+1))=a ^(q+1)+1+(q+1)*m:=by omega
 rw[this,qm]
theorem mS {p:Nat}(hp:qb p):∀ a,a^p%p=a%p
 | 0=>by rw[Nat.zero_pow (by have:=hp.two;omega)]
 | a+1=>by rw[frob hp a,vv,mS hp a,←vv]
theorem pL {p a b:Nat}(hle:b≤a)(h:a%p=b%p):p∣a-b:=by
 have h1:=jY a p;have h2:=jY b p;refine⟨a/p-b/p,?_⟩;rw[Nat.mul_sub];omega
theorem pV {p a b:Nat}(hle:b≤a)(h:p∣a-b):a%p=b%p:=by
 obtain⟨k,hk⟩:=h;have:a=b+p*k:=by omega
 rw[this,qm]
theorem zA7 {p a:Nat}(hp:qb p)(ha:¬ p∣a):a ^(p-1)%p=1:=by
 have h2:=hp.two
 have hpos:1≤a ^(p-1):=qS (by
  rcases zT a with h|h
  · exact absurd ⟨0,by omega⟩ ha
  · exact h)
 have h:=mS hp a;have e:a^p=a*a ^(p-1):=by
  conv=>lhs;rw[show p=p-1+1 by omega]
  rw[zp,zj]
 have hd:p∣a*(a ^(p-1)-1):=by
  rw[Nat.mul_sub,jO,←e];refine pL ?_ h;rw[e];exact Nat.le_mul_of_pos_right _ hpos
 rcases hp.dvd_mul hd with h1|h1
 · exact absurd h1 ha
 · have:=pV hpos h1;rw[this,zy (by omega)]
theorem rk {p a:Nat}(hp:qb p)(ha:¬ p∣a):a*(a ^(p-2)%p)%p=1:=by
 have h2:=hp.two;rw[ks,vu,←ks,zj,←zp,show(p-2).succ=p-1 by omega];exact zA7 hp ha
theorem mT:∀ n,2≤n→∃ r,qb r∧r∣n:=by
 intro n;induction n using Nat.strongRecOn with
 | ind n ih =>
   intro hn;rcases Classical.em (qb n)with h|h
   · exact⟨n,h,Nat.dvd_refl n⟩
   · have:∃ d,d∣n∧d≠1∧d≠n:=Classical.byContradiction fun hc=>h ⟨hn,fun d hd=>Classical.byContradiction fun h2=>hc ⟨d,hd,fun e=>h2 (Or.inl e),fun e=>h2 (Or.inr e)⟩⟩;obtain⟨d,hd,h1,h2⟩:=this;have hle:=Nat.le_of_dvd (by omega) hd;have h0:d≠0:=by rintro rfl;obtain⟨k,hk⟩:=hd;omega
     obtain⟨r,hr,hrd⟩:=ih d (by omega) (by omega);exact⟨r,hr,Nat.dvd_trans hrd hd⟩
theorem cj {n:Nat}(hn:2≤n)(h:∀ r,qb r→r∣n→r*r≤n→False):qb n:=by
 refine⟨hn,fun d hd=>Classical.byContradiction fun hc=>?_⟩;have h1:d≠1:=fun e=>hc (Or.inl e);have h2:d≠n:=fun e=>hc (Or.inr e);obtain⟨e,he⟩:=hd;have hd0:d≠0:=by rintro rfl;omega
 have he0:e≠0:=by rintro rfl;omega
 have he1:e≠1:=by rintro rfl;omega
 have key:∀ a b:Nat,n=a*b→a≤b→2≤a→False:=by
  intro a b hab hle h2a;obtain⟨r,hr,hra⟩:=mT a h2a;have:=Nat.le_of_dvd (by omega) hra;exact h r hr (hab▸Nat.dvd_trans hra (Nat.dvd_mul_right _ _)) (by rw[hab];exact xZ this (by omega))
 rcases Nat.le_total d e with hle|hle
 · exact key d e he hle (by omega)
 · exact key e d (by rw[he,zj]) hle (by omega)
def pw (m a:Nat):Nat→Nat→Nat
 | 0,_=>1%m
 | k+1,e=>if e%2=1 then pw m a k (e/2)*pw m a k (e/2)%m*a%m else pw m a k (e/2)*pw m a k (e/2)%m
theorem zAX {m a:Nat} : ∀ k e,e<2^k→pw m a k e=a^e%m
 | 0, e, h => by
   have:e=0:=by omega
   subst this;rfl
 | k + 1, e, h => by
   have hd:e/2<2^k:=by rw[zp]at h;omega
   have h1:=jY e 2;simp only[pw];rw[zAX k (e/2) hd];have sq:a ^(e/2)%m*(a ^(e/2)%m)%m=a ^(2*(e/2))%m:=by
     rw[←ks,←qP];congr 2;omega
   split
   · rename_i ho;rw[sq,yN,←zp];congr 2;omega
   · rw[sq];congr 2;omega
theorem zB3 {r b:Nat} : ∀(n q s:Nat),q+s≤n→b^q%r=1%r→b^s%r=1%r→b^Nat.gcd q s%r=1%r:=by
 intro n;induction n with
 | zero =>
   intro q s h _ hs;have:q=0:=by omega
   have:s=0:=by omega
   subst q s;rfl
 | succ n ih =>
   intro q s hn hq hs;rcases zT q with rfl|h0
   · rw[Nat.gcd_zero_left];exact hs
   rcases zT s with rfl|h1
   · rw[Nat.gcd_zero_right];exact hq
   have sub:∀ x y,x≤y→b^x%r=1%r→b^y%r=1%r→b ^(y-x)%r=1%r:=by
     intro x y hxy hx hy;have:b^y=b^x*b ^(y-x):=by rw[←qP];congr 1;omega
     rw[this,ks,hx,←ks,kN]at hy;exact hy
   rcases Nat.le_total q s with hle|hle
   · have:=ih q (s-q) (by omega) hq (sub q s hle hq hs);rwa [Nat.gcd_sub_self_right hle]at this
   · have:=ih (q-s) s (by omega) (sub s q hle hs hq) hs;rwa [Nat.gcd_sub_self_left hle]at this
theorem part {n q a r:Nat}(hn:2≤n)(hq:qb q)(hr:qb r)(hrn:r∣n)(hqn:q∣n-1)(h1:a ^(n-1)%n=1)(h2:Nat.gcd (a ^((n-1)/q)%n+(n-1)) n=1):q∣r-1:=by
 have hr2:=hr.two;refine Classical.byContradiction fun hno=>?_;have hg:=hq.coprime hno;obtain⟨m,hm⟩:=hqn;have hm':(n-1)/q=m:=by rw[hm];exact Nat.mul_div_cancel_left _ (by have:=hq.two;omega)
 rw[hm']at h2;obtain⟨c,hc⟩:=hrn;have h1r:a ^(n-1)%r=1%r:=by
  have h:a ^(n-1)%n%r=1%r:=by rw[h1]
  rwa [show a ^(n-1)%n%r=a ^(n-1)%r by rw[hc,Nat.mod_mul_right_mod]]at h
 have hbq:(a^m)^q%r=1%r:=by rw[←kr,zj,←hm];exact h1r
 have hra:¬ r∣a^m:=by
  intro hd;have:r∣(a^m)^q:=by
   obtain⟨t,rfl⟩:∃ t,q=t+1:=⟨q-1,by have:=hq.two;omega⟩
   exact Nat.dvd_trans hd (Nat.dvd_mul_left _ _)
  rw[Nat.mod_eq_zero_of_dvd this,zy (by omega)]at hbq;omega
 have hf:=zA7 hr hra;have hb:=zB3 _ q (r-1) (zG _) hbq (by rw[hf];exact(zy (by omega)).symm);rw[hg,Nat.pow_one]at hb;have hd:r∣a^m%n+(n-1):=by
  refine xv ?_;rw[vv,show a^m%n%r=1%r by rw[hc,Nat.mod_mul_right_mod];exact hb,←vv,show 1+(n-1)=n by omega,hc];exact Nat.mul_mod_right r c
 have:=Nat.dvd_gcd hd ⟨c,hc⟩;rw[h2]at this;have:=Nat.le_of_dvd (by omega) this;omega
theorem pock1 {n q a:Nat}(hn:2≤n)(hq:qb q)(hqn:q∣n-1)(h1:a ^(n-1)%n=1)(h2:Nat.gcd (a ^((n-1)/q)%n+(n-1)) n=1)(hs:n<(q+1)*(q+1)):qb n:=by
 refine cj hn fun r hr hrn hle=>?_;have hd:=part hn hq hr hrn hqn h1 h2;have:=hr.two;have:=Nat.le_of_dvd (by omega) hd;have:=xZ (show q+1≤r by omega) (show q+1≤r by omega);omega
theorem pock2 {n q s a:Nat}(hn:2≤n)(hq:qb q)(hs:qb s)(hne:q≠s)(hqn:q∣n-1)(hsn:s∣n-1)(h1:a ^(n-1)%n=1)(h2:Nat.gcd (a ^((n-1)/q)%n+(n-1)) n=1)(h3:Nat.gcd (a ^((n-1)/s)%n+(n-1)) n=1)
 (hb:n<(q*s+1)*(q*s+1)):qb n:=by
 refine cj hn fun r hr hrn hle=>?_
 have hd:=part hn hq hr hrn hqn h1 h2
 have hd':=part hn hs hr hrn hsn h1 h3
 have:=hr.two
 have hg:Nat.gcd q s=1:=hq.coprime fun h=>by
  rcases hs.2 q h with h|h
  · have:=hq.two;omega
  · exact hne h
 have:=Nat.le_of_dvd (by omega) (Nat.Coprime.mul_dvd_of_dvd_of_dvd hg hd hd')
 have:=xZ (show q*s+1≤r by omega) (show q*s+1≤r by omega)
 omega
def rF (n:Nat):Nat→Nat→Bool
 | 0,_=>true
 | k+1,d=>n%d != 0&&rF n k (d+1)
theorem mu {n:Nat} : ∀ {k d:Nat},rF n k d=true→∀ e,d≤e→e<d+k→¬ e∣n
 | 0,_,_,_,_,_=>by omega
 | k + 1, d, h, e, h1, h2 => by
   simp only[rF,ji,bne_iff_ne]at h;rcases qF d e with hlt|hge
   · exact mu h.2 e hlt (by omega)
   · have:e=d:=by omega
     subst this;exact fun hd=>h.1 (Nat.mod_eq_zero_of_dvd hd)
theorem jd {n k:Nat}(hn:2≤n)(h:rF n k 2=true)(hk:n<(k+2)*(k+2)):qb n :=
 cj hn fun r hr hrn hle=>mu h r hr.two (by
  rcases qF r (2+k)with h|h
  · exact h
  · have:=xZ (show k+2≤r by omega) (show k+2≤r by omega)
    omega) hrn
end Pm
namespace Gl
open Kr
section
variable {p:Nat} [NeZero p]
structure Cv (iv:Fin p→Fin p) (b:Fin p):Prop where
 dom:∀ x y:Fin p,x*y=0→x=0∨y=0
 inv:∀ x:Fin p,x≠0→x*iv x=1
 one:(1:Fin p)≠0
 two:(2:Fin p)≠0
 root:∀ x:Fin p,x*x*x-3*x+b≠0
abbrev Pt (p:Nat):=Option (Fin p×Fin p)
def Oc (b x y:Fin p):Prop:=y*y=x*x*x-3*x+b
def On (b:Fin p):Pt p→Prop
 | none=>True
 | some P=>Oc b P.1 P.2
def thr (x1 y1 x2 l:Fin p):Fin p×Fin p:=(l*l-x1-x2,l*(x1-(l*l-x1-x2))-y1)
def ad (iv:Fin p→Fin p):Pt p→Pt p→Pt p
 | none,Q=>Q
 | some P,none=>some P
 | some P,some Q=>if P.1=Q.1 then(if P.2=Q.2 then some (thr P.1 P.2 Q.1 ((3*(P.1*P.1)-3)*iv (2*P.2)))else none)else some (thr P.1 P.2 Q.1 ((Q.2-P.2)*iv (Q.1-P.1)))
def ng:Pt p→Pt p
 | none=>none
 | some P=>some (P.1,0-P.2)
structure Ln (b x1 y1 x2 y2 l:Fin p):Prop where
 on:Oc b x1 y1
 hd:y2=y1+l*(x2-x1)
 r:2*y1*l+l*l*(x2-x1)=x1*x1+x1*x2+x2*x2-3
theorem via {a c k u v:Fin p}(h:u=v)(e:a-c=k*(u-v)):a=c:=by subst h;grind
theorem Ln.close {b x1 y1 x2 y2 l:Fin p}(h:Ln b x1 y1 x2 y2 l):Oc b (thr x1 y1 x2 l).1 (thr x1 y1 x2 l).2:=by
 obtain⟨h1,-,h3⟩:=h;unfold Oc thr at *;have hb:b=y1*y1-x1*x1*x1+3*x1:=by grind
 clear h1;subst hb;exact via h3 (k:=l*l-2*x1-x2) (by clear h3;grind)
def f1 (b x1 y1 x2 y2:Fin p):Fin p:=(x1*y2+x2*y1)*(y1*y2-3*(b-(x1+x2)))-(y1+y2)*(3*(b*(x1+x2)-x1*x2-3))
def f2 (b x1 y1 x2 y2:Fin p):Fin p:=3*(x1*x2-1)*(3*(b*(x1+x2)-x1*x2-3))+(y1*y2+3*(b-(x1+x2)))*(y1*y2-3*(b-(x1+x2)))
def f3 (b x1 y1 x2 y2:Fin p):Fin p:=(y1+y2)*(y1*y2+3*(b-(x1+x2)))+(x1*y2+x2*y1)*(3*(x1*x2-1))
theorem Ln.fx {b x1 y1 x2 y2 l:Fin p}(h:Ln b x1 y1 x2 y2 l):f1 b x1 y1 x2 y2=f3 b x1 y1 x2 y2*(thr x1 y1 x2 l).1:=by
 obtain⟨h1,h2,h3⟩:=h;unfold Oc at h1;unfold thr f1 f3;have hb:b=y1*y1-x1*x1*x1+3*x1:=by grind
 clear h1;subst h2 hb;exact via h3 (k:=l*l*x1*y1-l*l*x2*y1+3*l*x1*x1*x1-3*l*x1*x1*x2-3*l*x1+3*l*x2-4*l*y1*y1-3*x1*x1*y1-3*x1*x2*y1+6*y1) (by clear h3;grind)
theorem Ln.fy {b x1 y1 x2 y2 l:Fin p}(h:Ln b x1 y1 x2 y2 l):f2 b x1 y1 x2 y2=f3 b x1 y1 x2 y2*(thr x1 y1 x2 l).2:=by
 obtain⟨h1,h2,h3⟩:=h;unfold Oc at h1;unfold thr f2 f3;have hb:b=y1*y1-x1*x1*x1+3*x1:=by grind
 clear h1;subst h2 hb;exact via h3 (k:=0-l*l*l*x1*y1+l*l*l*x2*y1-3*l*l*x1*x1*x1+3*l*l*x1*x1*x2+3*l*l*x1-3*l*l*x2+4*l*l*y1*y1+3*l*x1*x1*y1+3*l*x1*x2*y1-6*l*y1+9*x1*x1*x1*x1-18*x1*x1-12*x1*y1*y1+9) (by clear h3;grind)
theorem Ln.fn {b x1 y1 x2 y2 l:Fin p}(h:Ln b x1 y1 x2 y2 l):f3 b x1 y1 x2 y2=(0-(y1+y2))*((x2-x1)*(x2-x1)*(2*x1+x2)-(y1+y2)*(y1+y2))-(x2-x1)*(x2-x1)*(x2-x1)*y1:=by
 obtain⟨h1,h2,h3⟩:=h;unfold Oc at h1;unfold f3;have hb:b=y1*y1-x1*x1*x1+3*x1:=by grind
 clear h1;subst h2 hb;exact via h3 (k:=0-(x1-x2)*(l*x1-l*x2-3*y1)) (by clear h3;grind)
variable {iv:Fin p→Fin p} {b:Fin p}
theorem Cv.y0 (h:Cv iv b){x y:Fin p}(ho:Oc b x y):y≠0:=by
 rintro rfl;unfold Oc at ho;have:=h.root x;grind
theorem Cv.y2 (h:Cv iv b){x y:Fin p}(ho:Oc b x y):2*y≠0:=fun e=>(h.dom _ _ e).elim h.two (h.y0 ho)
theorem Cv.cancel (h:Cv iv b){d a c:Fin p}(hd:d≠0)(e:d*a=d*c):a=c:=by
 have:=h.dom d (a-c) (by grind);grind
theorem Cv.chord (h:Cv iv b){x1 y1 x2 y2:Fin p}(h1:Oc b x1 y1)(h2:Oc b x2 y2)(hx:x1≠x2):Ln b x1 y1 x2 y2 ((y2-y1)*iv (x2-x1)):=by
 have hd:x2-x1≠0:=by grind
 have hi:=h.inv _ hd;have hl:((y2-y1)*iv (x2-x1))*(x2-x1)=y2-y1:=by grind
 generalize(y2-y1)*iv (x2-x1)=l at *;refine⟨h1,by grind,h.cancel hd ?_⟩;unfold Oc at h1 h2;have e1:(x2-x1)*(2*y1*l+l*l*(x2-x1))=2*y1*(l*(x2-x1))+(l*(x2-x1))*(l*(x2-x1)):=by clear hl hi h1 h2;grind
 rw[e1,hl];clear hl hi e1;grind
theorem Cv.tang (h:Cv iv b){x y:Fin p}(h1:Oc b x y):Ln b x y x y ((3*(x*x)-3)*iv (2*y)):=by
 have hi:=h.inv _ (h.y2 h1);refine⟨h1,by grind,?_⟩;have e:2*y*((3*(x*x)-3)*iv (2*y))+((3*(x*x)-3)*iv (2*y))*((3*(x*x)-3)*iv (2*y))*(x-x)=(2*y*iv (2*y))*(3*(x*x)-3):=by clear hi h1;grind
 rw[e,hi];grind
theorem Oc.neg {x y:Fin p}(h:Oc b x y):Oc b x (0-y):=by unfold Oc at *;grind
theorem Cv.chord0 (h:Cv iv b){x1 y1 x2 y2:Fin p}(h1:Oc b x1 y1)(h2:Oc b x2 y2)(hx:x1≠x2):f3 b x1 y1 x2 y2≠0:=by
 intro e;rw[(h.chord h1 h2 hx).fn]at e;have hL:=h.chord h1 h2.neg hx;have hd:x2-x1≠0:=by grind
 have hy:=h.y0 hL.close;have hw:=hL.hd;generalize(0-y2-y1)*iv (x2-x1)=l at *;unfold thr at hy;simp only at hy;have hs:y1+y2=0-l*(x2-x1):=by grind
 rw[hs]at e;have e2:(x2-x1)*((x2-x1)*((x2-x1)*(l*(x1-(l*l-x1-x2))-y1)))=0:=by
  rw[←e];clear e hy hd hw hs hL h1 h2;grind
 exact(h.dom _ _ e2).elim hd fun e2=>(h.dom _ _ e2).elim hd fun e2=>(h.dom _ _ e2).elim hd hy
theorem Cv.tang0 (h:Cv iv b){x y:Fin p}(h1:Oc b x y):f3 b x y x y≠0:=by
 intro e;have e2:2*y*((2*y)*(2*y))=0:=by
  rw[←e];unfold f3;unfold Oc at h1;have hb:b=y*y-x*x*x+3*x:=by grind
  rw[hb];clear h1 hb e;grind
 exact(h.dom _ _ e2).elim (h.y2 h1) fun e2=>(h.dom _ _ e2).elim (h.y2 h1) (h.y2 h1)
theorem Cv.opp (h:Cv iv b){x y:Fin p}(h1:Oc b x y):f1 b x y x (0-y)=0∧f3 b x y x (0-y)=0∧f2 b x y x (0-y)≠0:=by
 refine⟨by unfold f1;grind,by unfold f3;grind,fun e=>?_⟩;have hL:=h.tang h1;have hy:=h.y0 hL.close;have hr:=hL.r;generalize(3*(x*x)-3)*iv (2*y)=l at *;have h2:=h.y2 h1;unfold thr at hy;simp only at hy;unfold Oc at h1;have hb:b=y*y-x*x*x+3*x:=by grind
 have hr':2*y*l=3*(x*x)-3:=by grind
 have e2:2*y*(2*y*(2*y*(l*(x-(l*l-x-x))-y)))=0:=by
  have e3:2*y*(2*y*(2*y*(l*(x-(l*l-x-x))-y)))=(2*y*l)*(3*x*(2*y)*(2*y)-(2*y*l)*(2*y*l))-2*y*(2*y)*(2*y)*y:=by clear e hL hy hr h2 h1 hb hr';grind
  rw[e3,hr',←e];unfold f2;rw[hb];clear e hL hy hr h2 h1 hb hr' e3;grind
 exact(h.dom _ _ e2).elim h2 fun e2=>(h.dom _ _ e2).elim h2 fun e2=>(h.dom _ _ e2).elim h2 hy
theorem Cv.on_ad (h:Cv iv b){P Q:Pt p}(hP:On b P)(hQ:On b Q):On b (ad iv P Q):=by
 match P,Q with
 | none,Q=>exact hQ
 | some P,none=>exact hP
 | some (x1, y1), some (x2, y2) =>
   show On b (if x1=x2 then _ else _);by_cases hx:x1=x2
   · subst hx;rw[qg rfl];show On b (if y1=y2 then _ else _);by_cases hy:y1=y2
     · rw[qg hy];exact(h.tang hP).close
     · rw[ql hy];trivial
   · rw[ql hx];exact(h.chord hP hQ hx).close
theorem On.neg {P:Pt p}(h:On b P):On b (ng P):=by
 match P with
 | none=>exact h
 | some (x,y)=>exact Oc.neg h
theorem Cv.same (h:Cv iv b){x y z:Fin p}(h1:Oc b x y)(h2:Oc b x z):y=z∨z=0-y:=by
 unfold Oc at h1 h2;have:=h.dom (y-z) (y+z) (by grind);grind
def pr:Pt p→Pr (Fin p)
 | none=>⟨0,1,0⟩
 | some P=>⟨P.1,P.2,1⟩
def sc (u:Fin p) (P:Pr (Fin p)):Pr (Fin p):=⟨u*P.x,u*P.y,u*P.z⟩
theorem NeZero.lt:0<p:=Nat.pos_of_ne_zero (NeZero.ne p)
def cst (n:Int):Fin p:=⟨(n%(p:Int)).toNat,by have h:=Int.emod_lt_of_pos n (Int.ofNat_lt.2 (NeZero.lt (p:=p)));have:=Int.emod_nonneg n (show(p:Int)≠0 by have:=NeZero.lt (p:=p);omega);omega⟩
def opK:Kr.Op (Fin p):=⟨fun a b=>a+b,fun a b=>a-b,fun a b=>a*b,cst⟩
theorem cE (n:Nat):cst (p:=p) (n:Int)=Fin.ofNat p n:=by
 apply Fin.ext;show((n:Int)%(p:Int)).toNat=n%p;rw[←Int.natCast_emod];rfl
theorem zCc:cst (p:=p) 3=3:=cE 3
theorem zCd:cst (p:=p) 1=1:=cE 1
theorem tR:cst (p:=p) 0=0:=cE 0
omit [NeZero p]in
theorem Pr.ext' {P Q:Pr (Fin p)}(h1:P.x=Q.x)(h2:P.y=Q.y)(h3:P.z=Q.z):P=Q:=by
 obtain⟨a,b,c⟩:=P;obtain⟨d,e,f⟩:=Q;cases h1;cases h2;cases h3;rfl
theorem tN (x1 y1 x2 y2:Fin p):bw opK b (pr (some (x1,y1))) (pr (some (x2,y2)))=⟨f1 b x1 y1 x2 y2,f2 b x1 y1 x2 y2,f3 b x1 y1 x2 y2⟩:=by
 apply Pr.ext'
 · show(x1*y2+x2*y1)*(y1*y2-cst 3*(b*(1*1)-(x1*1+x2*1)))-(y1*1+y2*1)*(cst 3*(b*(x1*1+x2*1)-x1*x2-cst 3*(1*1)))=_;rw[zCc];unfold f1;grind
 · show cst 3*(x1*x2-1*1)*(cst 3*(b*(x1*1+x2*1)-x1*x2-cst 3*(1*1)))+(y1*y2+cst 3*(b*(1*1)-(x1*1+x2*1)))*(y1*y2-cst 3*(b*(1*1)-(x1*1+x2*1)))=_;rw[zCc];unfold f2;grind
 · show(y1*1+y2*1)*(y1*y2+cst 3*(b*(1*1)-(x1*1+x2*1)))+(x1*y2+x2*y1)*(cst 3*(x1*x2-1*1))=_;rw[zCc];unfold f3;grind
theorem rq (u v:Fin p)(P Q:Pr (Fin p)):bw opK b (sc u P) (sc v Q)=sc (u*u*(v*v)) (bw opK b P Q):=by
 obtain⟨x1,y1,z1⟩:=P;obtain⟨x2,y2,z2⟩:=Q;apply Pr.ext'
 · show(u*x1*(v*y2)+v*x2*(u*y1))*(u*y1*(v*y2)-cst 3*(b*(u*z1*(v*z2))-(u*x1*(v*z2)+v*x2*(u*z1))))-(u*y1*(v*z2)+v*y2*(u*z1))*(cst 3*(b*(u*x1*(v*z2)+v*x2*(u*z1))-u*x1*(v*x2)-cst 3*(u*z1*(v*z2))))=u*u*(v*v)*((x1*y2+x2*y1)*(y1*y2-cst 3*(b*(z1*z2)-(x1*z2+x2*z1)))-(y1*z2+y2*z1)*(cst 3*(b*(x1*z2+x2*z1)-x1*x2-cst 3*(z1*z2))));generalize(cst 3:Fin p)=t;grind
 · show cst 3*(u*x1*(v*x2)-u*z1*(v*z2))*(cst 3*(b*(u*x1*(v*z2)+v*x2*(u*z1))-u*x1*(v*x2)-cst 3*(u*z1*(v*z2))))+(u*y1*(v*y2)+cst 3*(b*(u*z1*(v*z2))-(u*x1*(v*z2)+v*x2*(u*z1))))*(u*y1*(v*y2)-cst 3*(b*(u*z1*(v*z2))-(u*x1*(v*z2)+v*x2*(u*z1))))=u*u*(v*v)*(cst 3*(x1*x2-z1*z2)*(cst 3*(b*(x1*z2+x2*z1)-x1*x2-cst 3*(z1*z2)))+(y1*y2+cst 3*(b*(z1*z2)-(x1*z2+x2*z1)))*(y1*y2-cst 3*(b*(z1*z2)-(x1*z2+x2*z1))));generalize(cst 3:Fin p)=t;grind
 · show(u*y1*(v*z2)+v*y2*(u*z1))*(u*y1*(v*y2)+cst 3*(b*(u*z1*(v*z2))-(u*x1*(v*z2)+v*x2*(u*z1))))+(u*x1*(v*y2)+v*x2*(u*y1))*(cst 3*(u*x1*(v*x2)-u*z1*(v*z2)))=u*u*(v*v)*((y1*z2+y2*z1)*(y1*y2+cst 3*(b*(z1*z2)-(x1*z2+x2*z1)))+(x1*y2+x2*y1)*(cst 3*(x1*x2-z1*z2)));generalize(cst 3:Fin p)=t;grind
theorem Cv.lemA (h:Cv iv b){P Q:Pt p}(hP:On b P)(hQ:On b Q):∃ u:Fin p,u≠0∧bw opK b (pr P) (pr Q)=sc u (pr (ad iv P Q)):=by
 match P,Q with
 | none, none =>
   refine⟨1,h.one,Pr.ext' ?_ ?_ ?_⟩
   · show((0:Fin p)*1+0*1)*(1*1-cst 3*(b*(0*0)-(0*0+0*0)))-(1*0+1*0)*(cst 3*(b*(0*0+0*0)-0*0-cst 3*(0*0)))=1*0;generalize(cst 3:Fin p)=t;grind
   · show cst 3*((0:Fin p)*0-0*0)*(cst 3*(b*(0*0+0*0)-0*0-cst 3*(0*0)))+(1*1+cst 3*(b*(0*0)-(0*0+0*0)))*(1*1-cst 3*(b*(0*0)-(0*0+0*0)))=1*1;generalize(cst 3:Fin p)=t;grind
   · show((1:Fin p)*0+1*0)*(1*1+cst 3*(b*(0*0)-(0*0+0*0)))+(0*1+0*1)*(cst 3*(0*0-0*0))=1*0;generalize(cst 3:Fin p)=t;grind
 | none, some (x, y) =>
   refine⟨y,h.y0 hQ,Pr.ext' ?_ ?_ ?_⟩
   · show((0:Fin p)*y+x*1)*(1*y-cst 3*(b*(0*1)-(0*1+x*0)))-(1*1+y*0)*(cst 3*(b*(0*1+x*0)-0*x-cst 3*(0*1)))=y*x;generalize(cst 3:Fin p)=t;grind
   · show cst 3*((0:Fin p)*x-0*1)*(cst 3*(b*(0*1+x*0)-0*x-cst 3*(0*1)))+(1*y+cst 3*(b*(0*1)-(0*1+x*0)))*(1*y-cst 3*(b*(0*1)-(0*1+x*0)))=y*y;generalize(cst 3:Fin p)=t;grind
   · show((1:Fin p)*1+y*0)*(1*y+cst 3*(b*(0*1)-(0*1+x*0)))+(0*y+x*1)*(cst 3*(0*x-0*1))=y*1;generalize(cst 3:Fin p)=t;grind
 | some (x, y), none =>
   refine⟨y,h.y0 hP,Pr.ext' ?_ ?_ ?_⟩
   · show((x:Fin p)*1+0*y)*(y*1-cst 3*(b*(1*0)-(x*0+0*1)))-(y*0+1*1)*(cst 3*(b*(x*0+0*1)-x*0-cst 3*(1*0)))=y*x;generalize(cst 3:Fin p)=t;grind
   · show cst 3*((x:Fin p)*0-1*0)*(cst 3*(b*(x*0+0*1)-x*0-cst 3*(1*0)))+(y*1+cst 3*(b*(1*0)-(x*0+0*1)))*(y*1-cst 3*(b*(1*0)-(x*0+0*1)))=y*y;generalize(cst 3:Fin p)=t;grind
   · show((y:Fin p)*0+1*1)*(y*1+cst 3*(b*(1*0)-(x*0+0*1)))+(x*1+0*y)*(cst 3*(x*0-1*0))=y*1;generalize(cst 3:Fin p)=t;grind
 | some (x1, y1), some (x2, y2) =>
   rw[tN];show ∃ u:Fin p,u≠0∧_=sc u (pr (if x1=x2 then(if y1=y2 then _ else _)else _));by_cases hx:x1=x2
   · subst hx;rw[qg rfl];by_cases hy:y1=y2
     · subst hy;rw[qg rfl];have hL:=h.tang hP;exact⟨_,h.tang0 hP,Pr.ext' hL.fx hL.fy (Fin.mul_one _).symm⟩
     · rw[ql hy];obtain rfl:=(h.same hP hQ).resolve_left hy;obtain⟨e1,e2,e3⟩:=h.opp hP;exact⟨_,e3,Pr.ext' (e1.trans (Fin.mul_zero _).symm) (Fin.mul_one _).symm (e2.trans (Fin.mul_zero _).symm)⟩
   · rw[ql hx];have hL:=h.chord hP hQ hx;exact⟨_,h.chord0 hP hQ hx,Pr.ext' hL.fx hL.fy (Fin.mul_one _).symm⟩
def R0 (a:Int) (k:Fin p):Prop:=cst a=k
theorem fY (a:Int):((cst (p:=p) a).val:Int)=a%(p:Int):=by
 have:=Int.emod_nonneg a (show(p:Int)≠0 by have:=NeZero.lt (p:=p);omega);show(((a%(p:Int)).toNat:Nat):Int)=_;omega
theorem sI {a:Int}{k:Fin p}(h:a%(p:Int)=(k.val:Int)):cst a=k:=Fin.ext (by have:=fY (p:=p) a;omega)
theorem sJ (a c:Int):cst (p:=p) (a+c)=cst a+cst c:=sI (by rw[Fin.val_add,Int.natCast_emod,vX,fY,fY,←Int.add_emod])
theorem zCb (a c:Int):cst (p:=p) (a*c)=cst a*cst c:=sI (by rw[Fin.val_mul,Int.natCast_emod,vW,fY,fY,←Int.mul_emod])
theorem zCa (a c:Int):cst (p:=p) (a-c)=cst a-cst c:=by
 have:=sJ (p:=p) (a-c) c;rw[Int.sub_add_cancel]at this;grind
theorem oq:Rel opI (opK (p:=p)) R0 :=
 ⟨fun {a b c d} h1 h2=>by cases h1;cases h2;exact sJ _ _,fun {a b c d} h1 h2=>by cases h1;cases h2;exact zCa _ _,fun {a b c d} h1 h2=>by cases h1;cases h2;exact zCb _ _,fun n=>rfl⟩
def Rx {α:Type} (R:α→Fin p→Prop) (y:Fin p) (a:α×α) (k:Fin p):Prop:=∃ u v,R a.1 u∧R a.2 v∧k=u+v*y
theorem zAP {α:Type}{O:Kr.Op α}{R:α→Fin p→Prop}{c:α}{y:Fin p}(h:Rel O opK R)(hc:R c (y*y)):Rel (ext O c) opK (Rx R y) :=
 ⟨fun ⟨u, v, h1, h2, e⟩ ⟨u', v', h1', h2', e'⟩ => ⟨u + u', v + v', h.add h1 h1', h.add h2 h2', by rw [e, e']; show u + v * y + (u' + v' * y) = _; grind⟩,
  fun⟨u,v,h1,h2,e⟩ ⟨u',v',h1',h2',e'⟩=>⟨u-u',v-v',h.sub h1 h1',h.sub h2 h2',by rw[e,e'];show u+v*y-(u'+v'*y)=_;grind⟩,
  fun⟨u,v,h1,h2,e⟩ ⟨u',v',h1',h2',e'⟩=>⟨u*u'+v*v'*(y*y),u*v'+v*u',h.add (h.mul h1 h1') (h.mul (h.mul h2 h2') hc),h.add (h.mul h1 h2') (h.mul h2 h1'),by rw[e,e'];show(u+v*y)*(u'+v'*y)=_;grind⟩,
  fun n=>⟨cst n,cst 0,h.int n,h.int 0,by rw[tR];show cst n=_;grind⟩⟩
theorem ue {α:Type}{O:Kr.Op α}{R:α→Fin p→Prop}{y:Fin p}(h:Rel O opK R){a:α}{k:Fin p}(ha:R a k):Rx R y (lift O a) k:=⟨k,cst 0,ha,h.int 0,by rw[tR];grind⟩
theorem Rx.zero {α:Type}{R:α→Fin p→Prop}{y:Fin p}{q:α→Prop}(hq:∀ a k,R a k→q a→k=0){a:α×α}{k:Fin p}(h:Rx R y a k)(ha:vU q a):k=0:=by
 obtain⟨u,v,h1,h2,rfl⟩:=h;rw[hq _ _ h1 ha.1,hq _ _ h2 ha.2];grind
theorem R0.lift (x:Fin p):R0 (x.val:Int) x:=by show cst _=_;rw[cE];exact Fin.ofNat_val_eq_self x
theorem zBT {x1 y1 x2 y2 x3 y3:Fin p}(h1:Oc b x1 y1)(h2:Oc b x2 y2)(h3:Oc b x3 y3):assoc opK b (pr (some (x1,y1))) (pr (some (x2,y2))) (pr (some (x3,y3)))=(0,0):=by
 have cb:∀ {x y:Fin p},Oc b x y→R0 (pg opI (b.val:Int) (x.val:Int)) (y*y):=fun {x y} ho=>by
  have:=fX oq (R0.lift b) (R0.lift x);have e:y*y=pg opK b x:=by
   unfold Oc at ho;rw[ho];show _=x*x*x-cst 3*x+b;rw[zCc]
  rw[e];exact this
 have r1:Rel (O1 opI (b.val:Int) (x1.val:Int)) opK (Rx R0 y1):=zAP oq (cb h1);have r2:Rel (O2 opI (b.val:Int) (x1.val:Int) (x2.val:Int)) opK (Rx (Rx R0 y1) y2):=zAP r1 (ue oq (cb h2));have r3:Rel (O3 opI (b.val:Int) (x1.val:Int) (x2.val:Int) (x3.val:Int)) opK (Rx (Rx (Rx R0 y1) y2) y3):=zAP r2 (ue r1 (ue oq (cb h3)));have l3:∀ {a:Int} {d:Fin p},R0 a d→Rx (Rx (Rx R0 y1) y2) y3 (bL opI (b.val:Int) (x1.val:Int) (x2.val:Int) a) d:=fun ha=>ue r2 (ue r1 (ue oq ha));have one:Rx (Rx (Rx R0 y1) y2) y3 ((O3 opI (b.val:Int) (x1.val:Int) (x2.val:Int) (x3.val:Int)).int 1) 1:=by have:=r3.int 1;rwa [show(opK (p:=p)).int 1=1 from zCd]at this
 have q1:bZ (Rx (Rx (Rx R0 y1) y2) y3) (p1 opI (b.val:Int) (x1.val:Int) (x2.val:Int) (x3.val:Int)) (pr (some (x1,y1))) :=
  ⟨l3 (R0.lift x1),ue r2 (ue r1 ⟨cst 0,cst 1,oq.int 0,oq.int 1,by rw[tR,zCd];show y1=_;grind⟩),one⟩
 have q2:bZ (Rx (Rx (Rx R0 y1) y2) y3) (p2 opI (b.val:Int) (x1.val:Int) (x2.val:Int) (x3.val:Int)) (pr (some (x2,y2))) :=
  ⟨l3 (R0.lift x2),ue r2 ⟨cst 0,cst 1,r1.int 0,r1.int 1,by rw[tR,zCd];show y2=_;grind⟩,one⟩
 have q3:bZ (Rx (Rx (Rx R0 y1) y2) y3) (p3 opI (b.val:Int) (x1.val:Int) (x2.val:Int) (x3.val:Int)) (pr (some (x3,y3))) :=
  ⟨l3 (R0.lift x3),⟨cst 0,cst 1,r2.int 0,r2.int 1,by rw[tR,zCd];show y3=_;grind⟩,one⟩
 have hz:=tL (b.val:Int) (x1.val:Int) (x2.val:Int) (x3.val:Int);have hr:=ao r3 (l3 (R0.lift b)) q1 q2 q3;have z0:∀(a:Int) (k:Fin p),R0 a k→a=0→k=0:=fun a k h e=>by subst e;exact h.symm.trans tR
 have z1:=fun a k=>Rx.zero (y:=y1) z0 (a:=a) (k:=k);have z2:=fun a k=>Rx.zero (y:=y2) z1 (a:=a) (k:=k);have z3:=fun a k=>Rx.zero (y:=y3) z2 (a:=a) (k:=k);exact Prod.ext (z3 _ _ hr.1 hz.1) (z3 _ _ hr.2 hz.2)
theorem zDU {P Q:Pt p}{u v:Fin p}(hd:∀ x y:Fin p,x*y=0→x=0∨y=0)(hu:u≠0)(hv:v≠0)(h:cz opK (sc u (pr P)) (sc v (pr Q))=(0,0)):P=Q:=by
 have hx:=congrArg Prod.fst h;have hy:=congrArg Prod.snd h;have huv:u*v≠0:=fun e=>(hd _ _ e).elim hu hv;match P,Q with
 | none,none=>rfl
 | none, some (x, y) =>
   have e:u*1*(v*1)-u*0*(v*y)=0:=hy;exact absurd (show u*v=0 by grind) huv
 | some (x, y), none =>
   have e:u*y*(v*0)-u*1*(v*1)=0:=hy;exact absurd (show u*v=0 by grind) huv
 | some (x, y), some (x', y') =>
   have ex:u*x*(v*1)-u*1*(v*x')=0:=hx;have ey:u*y*(v*1)-u*1*(v*y')=0:=hy;have e1:=(hd (u*v) (x-x') (by grind)).resolve_left huv;have e2:=(hd (u*v) (y-y') (by grind)).resolve_left huv;have e3:x=x':=by grind
   have e4:y=y':=by grind
   rw[e3,e4]
theorem zCw (u v:Fin p)(P:Pr (Fin p)):sc u (sc v P)=sc (u*v) P:=by
 apply Pr.ext'
 · show u*(v*P.x)=u*v*P.x;grind
 · show u*(v*P.y)=u*v*P.y;grind
 · show u*(v*P.z)=u*v*P.z;grind
theorem zAK (P:Pr (Fin p)):sc 1 P=P:=by
 apply Pr.ext'
 · show 1*P.x=P.x;grind
 · show 1*P.y=P.y;grind
 · show 1*P.z=P.z;grind
theorem Cv.assoc (h:Cv iv b){P Q S:Pt p}(hP:On b P)(hQ:On b Q)(hS:On b S):ad iv (ad iv P Q) S=ad iv P (ad iv Q S):=by
 match P,Q,S with
 | none,Q,S=>rfl
 | some P,none,S=>rfl
 | some P, some Q, none =>
   show ad iv (ad iv (some P) (some Q)) none=ad iv (some P) (some Q);cases ad iv (some P) (some Q)<;>rfl
 | some (x1, y1), some (x2, y2), some (x3, y3) =>
   have hz:=zBT hP hQ hS;obtain⟨u1,g1,e1⟩:=h.lemA hP hQ;obtain⟨u2,g2,e2⟩:=h.lemA (h.on_ad hP hQ) hS;obtain⟨u3,g3,e3⟩:=h.lemA hQ hS;obtain⟨u4,g4,e4⟩:=h.lemA hP (h.on_ad hQ hS);unfold Kr.assoc at hz;rw[e1,e3]at hz;have k1:=rq (b:=b) u1 1 (pr (ad iv (some (x1,y1)) (some (x2,y2)))) (pr (some (x3,y3)));rw[zAK,e2,zCw]at k1;have k2:=rq (b:=b) 1 u3 (pr (some (x1,y1))) (pr (ad iv (some (x2,y2)) (some (x3,y3))));rw[zAK,e4,zCw]at k2;rw[k1,k2]at hz;have nz:∀ {x y:Fin p},x≠0→y≠0→x*y≠0:=fun hx hy e=>(h.dom _ _ e).elim hx hy;exact zDU h.dom (nz (nz (nz g1 g1) (nz h.one h.one)) g2) (nz (nz (nz h.one h.one) (nz g3 g3)) g4) hz
def nm (iv:Fin p→Fin p) (P:Pt p):Nat→Pt p
 | 0=>none
 | n+1=>ad iv (nm iv P n) P
theorem Cv.on_nm (h:Cv iv b){P:Pt p}(hP:On b P):∀ n,On b (nm iv P n)
 | 0=>trivial
 | n+1=>h.on_ad (h.on_nm hP n) hP
theorem sP (P:Pt p):ad iv P none=P:=by cases P<;>rfl
theorem Cv.nm_add (h:Cv iv b){P:Pt p}(hP:On b P)(m:Nat):∀ n,nm iv P (m+n)=ad iv (nm iv P m) (nm iv P n)
 | 0=>(sP _).symm
 | n + 1 => by
   show ad iv (nm iv P (m+n)) P=ad iv _ (ad iv (nm iv P n) P);rw[h.nm_add hP m n,h.assoc (h.on_nm hP m) (h.on_nm hP n) hP]
theorem Cv.nm_mul (h:Cv iv b){P:Pt p}(hP:On b P)(m:Nat):∀ n,nm iv P (m*n)=nm iv (nm iv P m) n
 | 0=>rfl
 | n + 1 => by
   show nm iv P (m*n+m)=ad iv (nm iv (nm iv P m) n) (nm iv P m);rw[h.nm_add hP,h.nm_mul hP m n]
theorem Cv.nm_two (h:Cv iv b){P:Pt p}(hP:On b P)(n:Nat):nm iv P (2*n)=ad iv (nm iv P n) (nm iv P n):=by rw[show 2*n=n+n by omega,h.nm_add hP]
end
end Gl
theorem wv:type_of% @Gl.NeZero.lt:=@Gl.NeZero.lt
namespace Pm
theorem kC {n q a k:Nat}(hn:2≤n)(hq:qb q)(hqn:(n-1)%q=0)(hk0:Nat.ble n (2^k)=true)(h1:pw n a k (n-1)=1)(h2:Nat.gcd (pw n a k ((n-1)/q)+(n-1)) n=1)(hs:n<(q+1)*(q+1)):qb n:=by
 have hle:(n-1)/q≤n-1:=vV _ _;have hk:=jq hk0;have hk:=jq hk0;rw[zAX k _ (by omega)]at h1 h2;exact pock1 hn hq (xv hqn) h1 h2 hs
theorem yU {n q s a k:Nat}(hn:2≤n)(hq:qb q)(hs:qb s)(hne:q≠s)(hqn:(n-1)%q=0)(hsn:(n-1)%s=0)(hk0:Nat.ble n (2^k)=true)(h1:pw n a k (n-1)=1)(h2:Nat.gcd (pw n a k ((n-1)/q)+(n-1)) n=1)(h3:Nat.gcd (pw n a k ((n-1)/s)+(n-1)) n=1)
 (hb:n<(q*s+1)*(q*s+1)):qb n:=by
 have hle:(n-1)/q≤n-1:=vV _ _
 have hle2:(n-1)/s≤n-1:=vV _ _
 have hk:=jq hk0
 have hk:=jq hk0
 rw[zAX k _ (by omega)]at h1 h2 h3
 exact pock2 hn hq hs hne (xv hqn) (xv hsn) h1 h2 h3 hb
theorem zB4:qb 704251:=jd (k:=839) (by decide) (by kernel_rfl) (by decide)
theorem zDX:qb 78283:=jd (k:=279) (by decide) (by kernel_rfl) (by decide)
theorem nJ:qb 46076956964474543:=yU (q:=704251) (s:=78283) (a:=2) (k:=56) (by decide) zB4 zDX (by decide) (by kernel_rfl) (by kernel_rfl) (by kernel_rfl) (by kernel_rfl) (by kernel_rfl) (by kernel_rfl) (by decide)
theorem p3677:qb 3677:=jd (k:=60) (by decide) (by kernel_rfl) (by decide)
theorem p197:qb 197:=jd (k:=14) (by decide) (by kernel_rfl) (by decide)
theorem mJ:qb 66417393611:=yU (q:=3677) (s:=197) (a:=2) (k:=36) (by decide) p3677 p197 (by decide) (by kernel_rfl) (by kernel_rfl) (by kernel_rfl) (by kernel_rfl) (by kernel_rfl) (by kernel_rfl) (by decide)
theorem nR:qb 11290956913871:=kC (q:=66417393611) (a:=2) (k:=44) (by decide) mJ (by kernel_rfl) (by kernel_rfl) (by kernel_rfl) (by kernel_rfl) (by decide)
theorem nH:qb 774023187263532362759620327192479577272145303:=yU (q:=46076956964474543) (s:=11290956913871) (a:=2) (k:=150) (by decide) nJ nR (by decide) (by kernel_rfl) (by kernel_rfl) (by kernel_rfl) (by kernel_rfl) (by kernel_rfl) (by kernel_rfl) (by decide)
theorem nG:qb 835945042244614951780389953367877943453916927241:=kC (q:=774023187263532362759620327192479577272145303) (a:=2) (k:=160) (by decide) nH (by kernel_rfl) (by kernel_rfl) (by kernel_rfl) (by kernel_rfl) (by decide)
theorem p256:qb 115792089210356248762697446949407573530086143415290314195533631308867097853951:=kC (q:=835945042244614951780389953367877943453916927241) (a:=2) (k:=256) (by decide) nG (by kernel_rfl) (by kernel_rfl) (by kernel_rfl) (by kernel_rfl) (by decide)
theorem zB5:qb 363557:=jd (k:=602) (by decide) (by kernel_rfl) (by decide)
theorem pD:qb 532247449:=kC (q:=363557) (a:=2) (k:=29) (by decide) zB5 (by kernel_rfl) (by kernel_rfl) (by kernel_rfl) (by kernel_rfl) (by decide)
theorem nK:qb 44925942675193:=kC (q:=532247449) (a:=2) (k:=46) (by decide) pD (by kernel_rfl) (by kernel_rfl) (by kernel_rfl) (by kernel_rfl) (by decide)
theorem nM:qb 35581458644053887931343:=kC (q:=44925942675193) (a:=2) (k:=75) (by decide) nK (by kernel_rfl) (by kernel_rfl) (by kernel_rfl) (by kernel_rfl) (by decide)
theorem nN:qb 23964610537191310276190549303:=kC (q:=35581458644053887931343) (a:=2) (k:=95) (by decide) nM (by kernel_rfl) (by kernel_rfl) (by kernel_rfl) (by kernel_rfl) (by decide)
theorem nF:qb 862725979338887169942859774909:=kC (q:=23964610537191310276190549303) (a:=2) (k:=100) (by decide) nN (by kernel_rfl) (by kernel_rfl) (by kernel_rfl) (by kernel_rfl) (by decide)
theorem nO:qb 20705423504133292078628634597817:=kC (q:=862725979338887169942859774909) (a:=2) (k:=105) (by decide) nF (by kernel_rfl) (by kernel_rfl) (by kernel_rfl) (by kernel_rfl) (by decide)
theorem nL:qb 413244619895455989650825325680172591660047:=kC (q:=20705423504133292078628634597817) (a:=2) (k:=139) (by decide) nO (by kernel_rfl) (by kernel_rfl) (by kernel_rfl) (by kernel_rfl) (by decide)
theorem nQ:qb 12397338596863679689524759770405177749801411:=kC (q:=413244619895455989650825325680172591660047) (a:=2) (k:=144) (by decide) nL (by kernel_rfl) (by kernel_rfl) (by kernel_rfl) (by kernel_rfl) (by decide)
theorem zDY:qb 21407:=jd (k:=146) (by decide) (by kernel_rfl) (by decide)
theorem pE:qb 246608641:=kC (q:=21407) (a:=2) (k:=28) (by decide) zDY (by kernel_rfl) (by kernel_rfl) (by kernel_rfl) (by kernel_rfl) (by decide)
theorem p881:qb 881:=jd (k:=29) (by decide) (by kernel_rfl) (by decide)
theorem p211:qb 211:=jd (k:=14) (by decide) (by kernel_rfl) (by decide)
theorem pF:qb 105957871:=yU (q:=881) (s:=211) (a:=2) (k:=27) (by decide) p881 p211 (by decide) (by kernel_rfl) (by kernel_rfl) (by kernel_rfl) (by kernel_rfl) (by kernel_rfl) (by kernel_rfl) (by decide)
theorem nI:qb 529709925838459440593:=yU (q:=246608641) (s:=105957871) (a:=2) (k:=69) (by decide) pE pF (by decide) (by kernel_rfl) (by kernel_rfl) (by kernel_rfl) (by kernel_rfl) (by kernel_rfl) (by kernel_rfl) (by decide)
theorem nP:qb 19173790298027098165721053155794528970226934547887232785722672956982046098136719667167519737147526097:=yU (q:=12397338596863679689524759770405177749801411) (s:=529709925838459440593) (a:=2) (k:=334) (by decide) nQ nI (by decide) (by kernel_rfl) (by kernel_rfl) (by kernel_rfl) (by kernel_rfl) (by kernel_rfl) (by kernel_rfl) (by decide)
theorem p384:qb 39402006196394479212279040100143613805079739270465446667948293404245721771496870329047266088258938001861606973112319:=kC (q:=19173790298027098165721053155794528970226934547887232785722672956982046098136719667167519737147526097) (a:=2) (k:=384) (by decide) nP (by kernel_rfl) (by kernel_rfl) (by kernel_rfl) (by kernel_rfl) (by decide)
end Pm
namespace Gl
section
variable {p:Nat} [NeZero p]
def ph (n:Nat):Fin p:=Fin.ofNat p n
theorem wz (n:Nat):(ph (p:=p) n).val=n%p:=rfl
theorem yV (a b:Nat):ph (p:=p) (a+b)=ph a+ph b:=Fin.ext (by rw[Fin.val_add,wz,wz,wz,←vv])
theorem xX (a b:Nat):ph (p:=p) (a*b)=ph a*ph b:=Fin.ext (by rw[Fin.val_mul,wz,wz,wz,←ks])
theorem vI (a:Nat):ph (p:=p) (a%p)=ph a:=Fin.ext (by rw[wz,wz,vu])
theorem uZ:ph (p:=p) p=0:=Fin.ext (by rw[wz,Nat.mod_self];rfl)
theorem dA {a b:Nat}(h:b≤a):ph (p:=p) (a-b)=ph a-ph b:=by
 have:=yV (p:=p) (a-b) b;rw[Nat.sub_add_cancel h]at this;grind
theorem ph0:ph (p:=p) 0=0:=rfl
theorem ph1:ph (p:=p) 1=1:=rfl
theorem yo {a:Nat} : ph (p:=p) a=0↔a%p=0:=⟨fun h=>by have:=congrArg Fin.val h;rw[wz]at this;rw[this];exact kL p,fun h=>Fin.ext (by rw[wz,h];exact(kL p).symm)⟩
theorem gV (x:Fin p):ph x.val=x:=Fin.ofNat_val_eq_self x
def ivp (x:Fin p):Fin p:=ph (x.val ^(p-2))
abbrev T3:=Nat×Nat×Nat
def cm (M q:Nat) (a c:T3):T3:=((a.1*c.1+(a.2.1*c.2.2+a.2.2*c.2.1)*(M-q))%M,(a.1*c.2.1+a.2.1*c.1+3*(a.2.1*c.2.2+a.2.2*c.2.1)+a.2.2*c.2.2*(M-q))%M,(a.1*c.2.2+a.2.1*c.2.1+a.2.2*c.1+3*(a.2.2*c.2.2))%M)
def cpw (M q:Nat):Nat→Nat→T3
 | 0,_=>(1,0,0)
 | k+1,e=>if e%2=1 then cm M q (cm M q (cpw M q k (e/2)) (cpw M q k (e/2))) (0,1,0)else cm M q (cpw M q k (e/2)) (cpw M q k (e/2))
def df (M:Nat) (r:T3):T3:=(r.1,r.2.1+(M-1),r.2.2)
def fH (M q k:Nat) (U:T3):Bool:=Nat.ble q M&&Nat.ble (M+1) (2^k)&&(cm M q U (df M (cpw M q k M))==(1,0,0))
def ev (x:Fin p) (a:T3):Fin p:=ph a.1+ph a.2.1*x+ph a.2.2*(x*x)
theorem sA {q:Nat}(hq:q≤p){x:Fin p}(hx:x*x*x-3*x+ph q=0)(a c:T3):ev x (cm p q a c)=ev x a*ev x c:=by
 unfold ev cm;simp only[vI,yV,xX,dA hq,uZ];rw[show(ph (p:=p) 3)=3 from rfl];generalize(ph a.1:Fin p)=a0,(ph a.2.1:Fin p)=a1,(ph a.2.2:Fin p)=a2,(ph c.1:Fin p)=c0,(ph c.2.1:Fin p)=c1,(ph c.2.2:Fin p)=c2,(ph q:Fin p)=b at *;exact via hx (k:=0-(a1*c2+a2*c1)-a2*c2*x) (by clear hx;grind)
def pf (x:Fin p):Nat→Fin p
 | 0=>1
 | n+1=>pf x n*x
theorem zAc (x:Fin p)(m:Nat):∀ n,pf x (m+n)=pf x m*pf x n
 | 0=>(Fin.mul_one _).symm
 | n+1=>by show pf x (m+n)*x=pf x m*(pf x n*x);rw[zAc x m n];grind
theorem zAb (x:Fin p):∀ n,(pf x n).val=x.val^n%p
 | 0=>rfl
 | n+1=>by show(pf x n*x).val=_;rw[Fin.val_mul,zAb x n,zp,yN]
theorem zA9 {q:Nat}(hq:q≤p){x:Fin p}(hx:x*x*x-3*x+ph q=0):∀ k e,e<2^k→ev x (cpw p q k e)=pf x e
 | 0, e, h => by
   have:e=0:=by omega
   subst this;show ph 1+ph 0*x+ph 0*(x*x)=1;rw[ph0,ph1];grind
 | k + 1, e, h => by
   have hd:e/2<2^k:=by rw[zp]at h;omega
   have h1:=jY e 2;simp only[cpw];have e2:ev x (cpw p q k (e/2))*ev x (cpw p q k (e/2))=pf x (e/2+e/2):=by rw[zA9 hq hx k _ hd,zAc]
   split
   · rename_i ho;rw[sA hq hx,sA hq hx,e2,show e=(e/2+e/2)+1 by omega];show _=pf x (e/2+e/2)*x;rw[show(e/2+e/2+1)/2=e/2 by omega];have:ev x (0,1,0)=x:=by
       show ph 0+ph 1*x+ph 0*(x*x)=x;rw[ph0,ph1];grind
     rw[this]
   · rw[sA hq hx,e2];congr 1;omega
theorem zCE (hp:Pm.qb p){q k:Nat}{U:T3}(h:fH p q k U=true)(x:Fin p):x*x*x-3*x+ph q≠0:=by
 intro hx;unfold fH at h;rw[ji,ji]at h;obtain⟨⟨h1,h2⟩,h3⟩:=h;have hq:=jq h1;have hk:p<2^k:=jq h2;have e:=sA hq hx U (df p (cpw p q k p));rw[eq_of_beq h3]at e;have el:ev x (df p (cpw p q k p))=ev x (cpw p q k p)-x:=by
  unfold ev df;simp only[yV,dA (show 1≤p from wv),uZ,ph1];grind
 have ef:pf x p=x:=Fin.ext (by rw[zAb,Pm.mS hp,zy x.isLt]);rw[el,zA9 hq hx k p hk,ef]at e;have e1:ev x (1,0,0)=1:=by
  show ph 1+ph 0*x+ph 0*(x*x)=1;rw[ph0,ph1];grind
 rw[e1]at e;have h10:(1:Fin p)=0:=by grind
 have:=congrArg Fin.val h10;have h2p:=hp.two;rw[show((1:Fin p)).val=1%p from rfl,show((0:Fin p)).val=0%p from rfl,kL,zy (by omega)]at this;omega
theorem zC8 (hp:Pm.qb p)(h3:2<p){q k:Nat}{U:T3}(h:fH p q k U=true):Cv ivp (ph (p:=p) q):=by
 have nz:∀ {x:Fin p},x≠0→¬ p∣x.val:=fun {x} hx hd=>hx (Fin.ext (by have:=Nat.eq_zero_of_dvd_of_lt hd x.isLt;rw[this];exact(kL p).symm));refine⟨fun x y e=>?_,fun x hx=>?_,fun e=>?_,fun e=>?_,zCE hp h⟩
 · have:=congrArg Fin.val e;rw[Fin.val_mul,show((0:Fin p)).val=0%p from rfl,kL]at this;refine Decidable.byContradiction fun hn=>?_;have hn:=not_or.1 hn;exact(hp.dvd_mul (xv this)).elim (nz hn.1) (nz hn.2)
 · refine Fin.ext ?_;rw[Fin.val_mul];show x.val*(x.val ^(p-2)%p)%p=1%p;rw[Pm.rk hp (nz hx),zy (by omega)]
 · have:=congrArg Fin.val e;rw[show((1:Fin p)).val=1%p from rfl,show((0:Fin p)).val=0%p from rfl,kL,zy (by omega)]at this;omega
 · have:=congrArg Fin.val e;rw[show((2:Fin p)).val=2%p from rfl,show((0:Fin p)).val=0%p from rfl,kL,zy h3]at this;omega
end
theorem zBt:fH 115792089210356248762697446949407573530086143415290314195533631308867097853951 41058363725152142129326129780047268409114441015993725554835256314039467401291 256 (76626890310466861426869089647039036757962535851890885406097439786770458211455,74462945259064871768191128030512052509059297803194871526163573358218695456204,34768139465301476436978405170953382516735956999154666452188405812258086013549)=true:=by kernel_rfl
theorem zBs:fH 39402006196394479212279040100143613805079739270465446667948293404245721771496870329047266088258938001861606973112319 27580193559959705877849011840389048093056905856361568521428707301988689241309860865136260764883745107765439761230575 384 (23037766613497683937702734290281044719364893268180251583910224888989381657771069200037813904257325918671976092329602,8235438212423615602427778915669574859600037698862346933589434399495169446996583974901273360826717582835190849638831,12157362177932134139146813183752135342286725243554133716818896354380897714709611791313184492360272402950851405460538)=true:=by kernel_rfl
end Gl
namespace Gl
section
variable {p:Nat} [NeZero p] {iv:Fin p→Fin p} {b:Fin p}
def Rp (X Y Z:Fin p) (P:Pt p):Prop:=(Z=0∧P=none)∨(Z≠0∧∃ x y,P=some (x,y)∧X=x*(Z*Z)∧Y=y*(Z*Z*Z))
theorem Cv.nz (h:Cv iv b){x y:Fin p}(hx:x≠0)(hy:y≠0):x*y≠0:=fun e=>(h.dom _ _ e).elim hx hy
theorem Rp.some_ {X Y Z x y:Fin p}(hz:Z≠0)(h1:X=x*(Z*Z))(h2:Y=y*(Z*Z*Z)):Rp X Y Z (some (x,y)):=Or.inr ⟨hz,x,y,rfl,h1,h2⟩
theorem zCr (x y:Fin p):ad iv (some (x,y)) (some (x,y))=some (thr x y x ((3*(x*x)-3)*iv (2*y))):=by
 show(if x=x then(if y=y then _ else _)else _)=_;rw[qg rfl,qg rfl]
theorem zBX {x y z:Fin p}(hy:y≠z):ad iv (some (x,y)) (some (x,z))=none:=by
 show(if x=x then(if y=z then _ else _)else _)=_;rw[qg rfl,ql hy]
theorem zBY {x1 y1 x2 y2:Fin p}(hx:x1≠x2):ad iv (some (x1,y1)) (some (x2,y2))=some (thr x1 y1 x2 ((y2-y1)*iv (x2-x1))):=by
 show(if x1=x2 then _ else _)=_;rw[ql hx]
theorem zBL {x y l Z A:Fin p}(hl:2*y*l=3*(x*x)-3)(hA:A=3*((x*(Z*Z)-Z*Z)*(x*(Z*Z)+Z*Z))) :
 A*A-8*(x*(Z*Z)*((y*(Z*Z*Z))*(y*(Z*Z*Z))))=(thr x y x l).1*((2*(y*(Z*Z*Z))*Z)*(2*(y*(Z*Z*Z))*Z)) ∧
 A*(4*(x*(Z*Z)*((y*(Z*Z*Z))*(y*(Z*Z*Z))))-(thr x y x l).1*((2*(y*(Z*Z*Z))*Z)*(2*(y*(Z*Z*Z))*Z)))-8*(((y*(Z*Z*Z))*(y*(Z*Z*Z)))*((y*(Z*Z*Z))*(y*(Z*Z*Z))))=(thr x y x l).2*((2*(y*(Z*Z*Z))*Z)*(2*(y*(Z*Z*Z))*Z)*(2*(y*(Z*Z*Z))*Z)):=by
 have e:A=(2*y*l)*(Z*Z*(Z*Z)):=by rw[hl,hA];clear hl hA;grind
 clear hl hA
 subst e
 unfold thr
 exact⟨by grind,by grind⟩
theorem Cv.dbl (h:Cv iv b){X Y Z X' Y' Z' A:Fin p}{P:Pt p}(hr:Rp X Y Z P)(hP:On b P)(hA:A=3*((X-Z*Z)*(X+Z*Z)))
 (hX:X'=A*A-8*(X*(Y*Y))) (hY:Y'=A*(4*(X*(Y*Y))-X')-8*(Y*Y*(Y*Y))) (hZ:Z'=2*Y*Z):Rp X' Y' Z' (ad iv P P):=by
 rcases hr with⟨rfl,rfl⟩|⟨hz,x,y,rfl,rfl,rfl⟩
 · exact Or.inl ⟨by rw[hZ];exact Fin.mul_zero _,rfl⟩
 · rw[zCr];have hr:=(h.tang hP).r;have hy:=h.y0 hP;generalize(3*(x*x)-3)*iv (2*y)=l at *;obtain⟨e1,e2⟩:=zBL (x:=x) (y:=y) (l:=l) (Z:=Z) (A:=A) (by grind) hA;rw[←hX]at e1;rw[←e1,←hY]at e2;rw[←hZ]at e1 e2;exact Rp.some_ (by rw[hZ];exact h.nz (h.nz h.two (h.nz hy (h.nz (h.nz hz hz) hz))) hz) e1 e2
theorem zBV {x1 y1 x2 l W H R:Fin p}(hH:H=(x2-x1)*(W*W))(hR:R=l*(x2-x1)*(W*W*W)) :
 R*R-H*H*H-(x1*(W*W)*(H*H)+x1*(W*W)*(H*H))=(thr x1 y1 x2 l).1*(H*W*(H*W)) ∧
 R*(x1*(W*W)*(H*H)-(thr x1 y1 x2 l).1*(H*W*(H*W)))-y1*(W*W*W)*(H*H*H)=(thr x1 y1 x2 l).2*(H*W*(H*W)*(H*W)):=by
 subst hH hR
 unfold thr
 exact⟨by grind,by grind⟩
theorem Cv.add (h:Cv iv b){X1 Y1 Z1 X2 Y2 Z2 H R U S X' Y' Z':Fin p}{x1 y1 x2 y2:Fin p}(hz1:Z1≠0)(hz2:Z2≠0)
 (hX1:X1=x1*(Z1*Z1)) (hY1:Y1=y1*(Z1*Z1*Z1)) (hX2:X2=x2*(Z2*Z2)) (hY2:Y2=y2*(Z2*Z2*Z2)) (hP:Oc b x1 y1) (hQ:Oc b x2 y2)
 (hU:U=X1*(Z2*Z2)) (hS:S=Y1*(Z2*Z2*Z2)) (hH:H=X2*(Z1*Z1)-U) (hR:R=Y2*(Z1*Z1*Z1)-S) :
 (H=0↔x1=x2)∧(R=0↔y1=y2)∧(H≠0→X'=R*R-H*H*H-(U*(H*H)+U*(H*H))→Y'=R*(U*(H*H)-X')-S*(H*H*H)→Z'=H*(Z1*Z2)→Rp X' Y' Z' (ad iv (some (x1,y1)) (some (x2,y2)))):=by
 have hw:Z1*Z2≠0:=h.nz hz1 hz2
 have eU:U=x1*(Z1*Z2*(Z1*Z2)):=by rw[hU,hX1];clear hU hS hH hR hX1 hX2 hY1 hY2 hP hQ;grind
 have eS:S=y1*(Z1*Z2*(Z1*Z2)*(Z1*Z2)):=by rw[hS,hY1];clear hU hS hH hR hX1 hX2 hY1 hY2 hP hQ eU;grind
 have eH:H=(x2-x1)*(Z1*Z2*(Z1*Z2)):=by rw[hH,eU,hX2];clear hU hS hH hR hX1 hX2 hY1 hY2 hP hQ eU eS;grind
 have eR:R=(y2-y1)*(Z1*Z2*(Z1*Z2)*(Z1*Z2)):=by rw[hR,eS,hY2];clear hU hS hH hR hX1 hX2 hY1 hY2 hP hQ eU eS eH;grind
 clear hU hS hH hR hX1 hX2 hY1 hY2 hz1 hz2
 generalize Z1*Z2=W at *
 have hH0:H=0↔x1=x2:=by
  constructor
  · intro e;rw[eH]at e;have:=(h.dom _ _ e).resolve_right (h.nz hw hw);grind
  · rintro rfl;rw[eH];grind
 refine⟨hH0,?_,fun hH hX hY hZ=>?_⟩
 · constructor
   · intro e;rw[eR]at e;have:=(h.dom _ _ e).resolve_right (h.nz (h.nz hw hw) hw);grind
   · rintro rfl;rw[eR];grind
 · have hx:x1≠x2:=fun e=>hH (hH0.2 e);rw[zBY hx];have hd:=(h.chord hP hQ hx).hd;generalize(y2-y1)*iv (x2-x1)=l at *;have eR':R=l*(x2-x1)*(W*W*W):=by rw[eR,hd];grind
   obtain⟨e1,e2⟩:=zBV (x1:=x1) (y1:=y1) (x2:=x2) (l:=l) (W:=W) eH eR';rw[←eU]at e1 e2;rw[←eS]at e2;rw[←hX]at e1;rw[←e1,←hY]at e2;rw[←hZ]at e1 e2;exact Rp.some_ (by rw[hZ];exact h.nz hH hw) e1 e2
theorem Rp.back {X Y Z x y v:Fin p}(h:Rp X Y Z (some (x,y)))(hv:Z*v=1):X*(v*v)=x∧Y*(v*v*v)=y:=by
 rcases h with⟨-,h⟩|⟨hz,x',y',e,rfl,rfl⟩
 · exact absurd h (by simp)
 · obtain⟨rfl,rfl⟩:x=x'∧y=y':=by simpa using e
   have e1:x*(Z*Z)*(v*v)=x*((Z*v)*(Z*v)):=by clear hv e;grind
   have e2:y*(Z*Z*Z)*(v*v*v)=y*((Z*v)*(Z*v)*(Z*v)):=by clear hv e;grind
   rw[e1,e2,hv];exact⟨by grind,by grind⟩
theorem Rp.none_iff {X Y Z:Fin p}{P:Pt p}(h:Rp X Y Z P):Z=0↔P=none:=by
 rcases h with⟨h1,h2⟩|⟨h1,x,y,rfl,-⟩
 · exact⟨fun _=>h2,fun _=>h1⟩
 · exact⟨fun e=>absurd e h1,fun e=>by simp at e⟩
theorem Rp.up (h1:(1:Fin p)≠0)(x y:Fin p):Rp x y 1 (some (x,y)):=Rp.some_ h1 (by grind) (by grind)
end
end Gl
end Go.Proofs.YtaemogcomplhiaaGreatDoor
namespace Go.Proofs.YtaemogcomplhiaaGreatDoor
open Go.RowKit
theorem kR {M:Nat}(h:0<M)(a b:Nat):mm M a b<M:=qL _ h
theorem am_lt {M:Nat}(h:0<M)(a b:Nat):am M a b<M:=qL _ h
theorem x8 {M:Nat}(h:0<M)(a b:Nat):sm M a b<M:=qL _ h
theorem Crv.Fine.len' {C:Crv}(h:C.Fine){x:Nat}(hx:x<C.M):(digs 4294967296 x).length≤96:=xo (jV hx) h.len
section
variable {C:Crv} {v:Value} {A A':Option Addr} {c c' x y:Nat}
theorem jg (w:World)(hF:C.Fine)(hc:RC w C v)(h:RU w A c (digs 4294967296 x))(h':RU w A' c' (digs 4294967296 y))(hx:x<C.M)(hy:y<C.M) :
 Calls Tryz.prog 44 #[v,.slice A (digs 4294967296 x).length c,.slice A' (digs 4294967296 y).length c'] w fun e w'=>∃ A1 c1,e=.returned (.slice A1 (digs 4294967296 (mm C.M x y)).length c1)∧RU w' A1 c1 (digs 4294967296 (mm C.M x y))∧Ext w w' :=
 xS A A' c c' x y w hc h h' (by have:=hF.len' hx;omega) (by have:=hF.len' hy;omega) (by have:=hF.three;omega)
theorem wN (w:World)(hF:C.Fine)(hc:RC w C v)(h:RU w A c (digs 4294967296 x))(h':RU w A' c' (digs 4294967296 y))(hx:x<C.M)(hy:y<C.M) :
 Calls Tryz.prog 51 #[v,.slice A (digs 4294967296 x).length c,.slice A' (digs 4294967296 y).length c'] w fun e w'=>∃ A1 c1,e=.returned (.slice A1 (digs 4294967296 (sm C.M x y)).length c1)∧RU w' A1 c1 (digs 4294967296 (sm C.M x y))∧Ext w w':=by
 rw[show sm C.M x y=(x+C.M-y)%C.M by rw[sm,zy hy]]
 exact aS A A' c c' x y w hc h h' (by have:=hF.len' hx;omega) (by have:=hF.len;omega) (by omega) (by have:=hF.three;omega)
theorem add_r (w:World)(hF:C.Fine)(h:RU w A c (digs 4294967296 x))(h':RU w A' c' (digs 4294967296 y))(hx:x<C.M)(hy:y<C.M) :
 Calls Tryz.prog 50 #[.slice A (digs 4294967296 x).length c,.slice A' (digs 4294967296 y).length c'] w fun e w'=>∃ A1 c1,e=.returned (.slice A1 (digs 4294967296 (x+y)).length c1)∧RU w' A1 c1 (digs 4294967296 (x+y))∧Ext w w' :=
 (uY _ _ A A' c c' x y w h h' (fun _ h=>h) (fun _ h=>h) (by have:=hF.len' hx;omega) (by have:=hF.len' hy;omega)).mono fun _ _ ⟨A1,c1,h1,h2,h3⟩=>⟨A1,c1,h1,h2.ru,h3⟩
theorem mod_r (w:World)(hF:C.Fine)(h:RU w A c (digs 4294967296 x))(h':RU w A' c' (digs 4294967296 C.M))(hx:x<2*C.M) :
 Calls Tryz.prog 49 #[.slice A (digs 4294967296 x).length c,.slice A' (digs 4294967296 C.M).length c'] w fun e w'=>∃ A1 c1,e=.returned (.slice A1 (digs 4294967296 (x%C.M)).length c1)∧RU w' A1 c1 (digs 4294967296 (x%C.M))∧Ext w w' :=
 xU A A' c c' x C.M w h h' (by
  have h1:x<4294967296^97:=by
   have h2:=hF.len
   have h3:C.M<4294967296^96:=by
    have:=jt (kF (B:=4294967296) (by omega) C.M)
    rw[zd (by omega)]at this
    exact zI this (zv (by omega) h2)
   rw[zp]
   omega
  have:=qR (by omega) h1
  omega) (by have:=hF.three;omega)
theorem zAi (x:Nat)(w:World)(hx:x<18446744073709551616) :
 Calls Tryz.prog 48 #[.int .u64 (x:Int)] w fun e w'=>∃ A' c',e=.returned (.slice A' (digs 4294967296 x).length c')∧RU w' A' c' (digs 4294967296 x)∧Ext w w' :=
 (gT x w hx).mono fun _ _ ⟨A1,c1,h1,h2,h3⟩=>⟨A1,c1,h1,h2.ru,h3⟩
end
section
variable {Q:Exit→Act→World→Prop} {ol:List Oper} {m:Nat} {L AL:List Nat} {R:Nat→(Nat→Value)→World→Prop} {a:Act} {w:World} {F:List Oper→Prop} {k n:Nat} {o:Oper} {l:List Oper}
theorem rc (k' n' i j j':Nat){F':FuncId}{pf:Value}{x y z z':Nat}(h1:∀ f X,Ext w X→R j (Par.qj (fun i=>L.getD i 0) j f) X→∃ A c,f j=.slice A (digs 4294967296 x).length c∧RU X A c (digs 4294967296 x))(h2:∀ f X,Ext w X→R j' (Par.qj (fun i=>L.getD i 0) j' f) X→∃ A c,f j'=.slice A (digs 4294967296 y).length c∧RU X A c (digs 4294967296 y))
 (hc:∀ X,Ext w X→∀ A c A' c',RU X A c (digs 4294967296 x)→RU X A' c' (digs 4294967296 y)→Calls Tryz.prog F' #[pf,.slice A (digs 4294967296 x).length c,.slice A' (digs 4294967296 y).length c'] X fun e w'=>∃ A1 c1,e=.returned (.slice A1 (digs 4294967296 z').length c1)∧RU w' A1 c1 (digs 4294967296 z')∧Ext X w') (hz:z'=z) (hs:Par.qT (Par.jP Tryz.prog ol Q Ext m L AL R a w) F k' n' l)
 (hr:∀ f X,R i (Par.qj (fun i=>L.getD i 0) i f) X→f i=pf:=by exact fun _ _ h=>h)
 (hR:∀ f X,(∃ A c,f k=.slice A (digs 4294967296 z).length c∧RU X A c (digs 4294967296 z))→R k (Par.qj (fun i=>L.getD i 0) k f) X:=by exact fun _ _ h=>h) (hk:k+1=k':=by rfl) (hn:n'+1=n:=by rfl) (ha:AL.contains k=false:=by kernel_rfl) (hi:(L.getD k 0).testBit i=true:=by kernel_rfl) (hj:(L.getD k 0).testBit j=true:=by kernel_rfl) (hj':(L.getD k 0).testBit j'=true:=by kernel_rfl)
 (hw:∀ f,Region.wanted o (yielded ol.toArray (Par.put ol.toArray (Par.nd (fun i=>L.getD i 0) k) f (List.range m) a).tmps)=true:=by intro _;kernel_rfl)
 (hrun:∀ f X,(execOp (Par.put ol.toArray (Par.nd (fun i=>L.getD i 0) k) f (List.range m) a).eval o).run Tryz.prog X=.ok (.enter F' #[f i,f j,f j']) X:=by intro _ _;kernel_rfl):Par.qT (Par.jP Tryz.prog ol Q Ext m L AL R a w) F k n (o::l) :=
 Par.cx (args:=fun f=>#[f i,f j,f j']) hs hk hn ha (fun f _ _=>hw f) hrun fun f X hX h=>by
  obtain⟨A,c,e1,g1⟩:=h1 f X hX (h.out j hj);obtain⟨A',c',e2,g2⟩:=h2 f X hX (h.out j' hj');rw[hr f X (h.out i hi),e1,e2];refine(hc X hX A c A' c' g1 g2).mono ?_;rintro e w' ⟨A1,c1,rfl,hv,hE⟩;subst hz;exact⟨_,rfl,hE,fun Y hY=>hR _ _ ⟨A1,c1,by simp[Par.upd],zL hv hY⟩⟩
end
def JN (w:World) (C:Crv) (v:Value) (p:Nat×Nat×Nat):Prop:=∃(A1 A2 A3:Option Addr) (c1 c2 c3:Nat),v=.agg #[.slice A1 (digs 4294967296 p.1).length c1,.slice A2 (digs 4294967296 p.2.1).length c2,.slice A3 (digs 4294967296 p.2.2).length c3] ∧
 RU w A1 c1 (digs 4294967296 p.1)∧RU w A2 c2 (digs 4294967296 p.2.1)∧RU w A3 c3 (digs 4294967296 p.2.2)∧p.1<C.M∧p.2.1<C.M∧p.2.2<C.M
theorem JN.ext {w X:World}{C:Crv}{v:Value}{p:Nat×Nat×Nat}(h:JN w C v p)(hE:Ext w X):JN X C v p:=by
 obtain⟨A1,A2,A3,c1,c2,c3,e,h1,h2,h3,h4⟩:=h;exact⟨A1,A2,A3,c1,c2,c3,e,zL h1 hE,zL h2 hE,zL h3 hE,h4⟩
theorem uD:(Tryz.prog.info? 78).map (·.size)=some 3:=by kernel_rfl
theorem gu {fn:Func}{R:Ending→World→Prop}{a:Act}{W:World}{p:Tmp}{g:Nat}{ty:TypeId}{fr:Nat×Nat}{x0 x1 x2:Value}(hr:fn.results=#[.cell p 78])(hp:a.tmps.getD p undef=.pointer (some ⟨g,0,none⟩))(hd:a.defers=[])
 (hg:W.heap[g]?=some (.cells #[x0,x1,x2] ty fr)) (hR:R (.returned (.agg #[x0,x1,x2])) W):bodyPost Tryz.prog fn R .ret a W :=
 wI (wY hr a.tmps W g _ _ _ _ hp hg Tryz.underlying78 rfl uD) hd hR
theorem fu (A1 A2 A3:Option Addr)(n1 n2 n3 c1 c2 c3:Nat):(#[Value.slice A1 n1 c1,.slice A2 n2 c2,.slice A3 n3 c3]:Array Value).all (·.oneCell')=true:=by simp[Value.oneCell']
theorem yR {x:Nat} : (digs 4294967296 x).length=0↔x=0:=by
 constructor
 · intro h;have:=zd (B:=4294967296) (by omega) x;rw[qQ h]at this;simpa[val]using this.symm
 · rintro rfl;rw[qV];rfl
theorem xP {x:Nat}(h:x=0):decide ((digs 4294967296 x).length=0)=true:=qZ (yR.2 h)
theorem wR {x:Nat}(h:¬ x=0):decide ((digs 4294967296 x).length=0)=false:=jF (fun e=>h (yR.1 e))
theorem xQ {x:Nat}(h:x=0):decide (((digs 4294967296 x).length:Int)=0)=true:=qZ (by have:=yR.2 h;omega)
theorem wS {x:Nat}(h:¬ x=0):decide (((digs 4294967296 x).length:Int)=0)=false:=jF (fun e=>h (yR.1 (by omega)))
theorem xR {x:Nat}(h:x=0):((((digs 4294967296 x).length:Nat):Int)==0)=true:=by rw[yR.2 h];rfl
theorem wT {x:Nat}(h:¬ x=0):((((digs 4294967296 x).length:Nat):Int)==0)=false:=by rw[beq_eq_false_iff_ne];exact fun e=>h (yR.1 (by omega))
theorem aw (w:World)(o1 o2 o3:Obj):(((w.alloc o1).alloc o2).alloc o3).heap[w.heap.size]?=some o1∧(((w.alloc o1).alloc o2).alloc o3).heap[w.heap.size+1]?=some o2∧(((w.alloc o1).alloc o2).alloc o3).heap[w.heap.size+2]?=some o3∧(((w.alloc o1).alloc o2).alloc o3).heap.size=w.heap.size+3 :=
 ⟨(zO _ _).at_ (wL w o1 o2).1,(zO _ _).at_ (wL w o1 o2).2.1,by have:=zS ((w.alloc o1).alloc o2) o3;rwa [(wL w o1 o2).2.2]at this,by simp⟩
def twP (M x y z:Nat):Nat×Nat×Nat:=if z=0 then(0,0,0)else if y=0 then(0,0,0)else let u1:=mm M z z;let u2:=am M x u1;let u3:=sm M x u1;let u4:=mm M u3 u2;let u5:=mm M 3 u4;let u6:=mm M y y;let u7:=mm M x u6;let u8:=mm M 4 u7;let u9:=mm M u5 u5;let u10:=sm M u9 u8;let u11:=sm M u10 u8;let u12:=sm M u8 u11;let u13:=mm M u5 u12;let u14:=mm M u6 u6;let u15:=mm M 8 u14;let u16:=sm M u13 u15;let u17:=mm M y z;let u18:=mm M 2 u17;(u11,u16,u18)
theorem rE {C:Crv}{ccs:Array Value}{v:Value}{p:Nat×Nat×Nat}(hF:C.Fine)(h8:8<C.M)(w:World)(hc:RC w C (.agg ccs))(hj:JN w C v p) :
 Calls Tryz.prog 40 #[.agg ccs,v] w fun e w'=>∃ o,e=.returned o∧JN w' C o (twP C.M p.1 p.2.1 p.2.2)∧Ext w w':=by
 obtain⟨A1,A2,A3,k1,k2,k3,rfl,hj1,hj2,hj3,hx,hy,hz⟩:=hj
 obtain⟨x,y,z⟩:=p
 simp only at hj1 hj2 hj3 hx hy hz ⊢
 obtain⟨Ap,An,Ab,Ax,Ay,cp,cn,cb,cx,cy,hccs,hP,hN,hB,hX1,hY1⟩:=hc
 injection hccs with hccs
 have hRC0:RC w C (.agg ccs):=⟨Ap,An,Ab,Ax,Ay,cp,cn,cb,cx,cy,by rw[hccs],hP,hN,hB,hX1,hY1⟩
 obtain⟨W0,hW0⟩:=eW (((w.alloc (.cells ccs 30)).alloc (.cells #[.slice A1 (digs 4294967296 x).length k1,.slice A2 (digs 4294967296 y).length k2,.slice A3 (digs 4294967296 z).length k3] 78)).alloc (.cells #[.slice none 0 0,.slice none 0 0,.slice none 0 0] 78))
 obtain⟨q,hq⟩:=eV w.heap.size
 have hE0:Ext w W0:=by rw[hW0];exact((zO _ _).trans (zO _ _)).trans (zO _ _)
 obtain⟨hcb,hjb,hrb,hz0⟩:=aw w (.cells ccs 30) (.cells #[.slice A1 (digs 4294967296 x).length k1,.slice A2 (digs 4294967296 y).length k2,.slice A3 (digs 4294967296 z).length k3] 78) (.cells #[.slice none 0 0,.slice none 0 0,.slice none 0 0] 78)
 rw[←hW0,hq]at hcb hjb hrb hz0
 have j0:=zQ hjb 0
 have j1:=zQ hjb 1
 have j2:=zQ hjb 2
 have cP:=zQ hcb 0
 rw[hccs]at cP
 simp only[zR,zi,qo]at j0 j1 j2 cP
 have hRC:=zF (hRC0.ext hE0)
 have Hccs:=zF (show ccs.size=6 by rw[hccs];rfl)
 have HRP:=zF (zL hP hE0)
 have HX1:=zF (zL hj1 hE0)
 have HX2:=zF (zL hj2 hE0)
 have HX3:=zF (zL hj3 hE0)
 have HF:=zF hF
 have H8:=zF h8
 have hM0:0<C.M:=by omega
 have HE0:=zF hE0
 have Hz0:=zF hz0
 replace hx:=zF hx
 replace hy:=zF hy
 replace hz:=zF hz
 clear hRC0 hccs hP hN hB hX1 hY1 hj1 hj2 hj3 hF h8 hE0 hz0 hjb
 by_cases hz0:z=0
 · rw[show twP C.M x y z=(0,0,0) by rw[twP,qg hz0]];replace hz0:=zF hz0;go_enter Tryz.func40,Tryz.ntmps40;go_upto_region 1 with fail;rw[←hW0];have Hq:=zF hq;have HW0:=zF hW0;have hE:=zX W0;clear hq hW0
   refine zN 10 [0,1,3,7,15,31,63,127,255,511] [] (fun j f X=>match j with
    | 0=>f 0=.pointer (some ⟨q+1,2,none⟩)
    | 1=>f 1=.slice A3 (digs 4294967296 z).length k3
    | 2=>f 2=.int .i64 ((digs 4294967296 z).length:Int)
    | 3=>f 3=.bool true
    | 4=>f 4=.bool true
    | 5=>f 5=undef
    | 6=>f 6=undef
    | 7=>f 7=undef
    | 8=>f 8=undef
    | 9=>f 9=.bool true
    | _=>True) (by kernel_rfl) [(12,0),(13,1),(14,2),(15,3),(16,4),(17,5),(18,6),(19,7),(20,8),(21,9)] (by kernel_rfl) ?_
   refine zJ 1 9 ?_;refine qK 2 8 0 (hE.cell j2) ?_;refine zt 3 7 [(12,0),(13,1)] (fun f X hX hR K hK=>?_) ?_
   · have e1:f 1=_:=hR.out 1 rfl;simp only[yZ,e1];refine⟨?_⟩;go_simp;exact qd hK (s:=by simp only[yZ,e1])
   refine zt 4 6 [(12,0),(13,1),(14,2)] (fun f X hX hR K hK=>?_) ?_
   · have e2:f 2=_:=hR.out 2 rfl;have hz1:decide (((digs 4294967296 z).length:Int)=0)=true:=xQ hz0.out;have hz2:decide ((digs 4294967296 z).length=0)=true:=xP hz0.out;have hz4:((((digs 4294967296 z).length:Nat):Int)==0)=true:=xR hz0.out;simp only[yZ,e2];refine⟨?_⟩;go_simp;exact qd hK (s:=by simp only[yZ,e2])
   refine qN 5 5 3 ?_;refine wu 6 4 4 ?_;refine wu 7 3 4 ?_;refine wu 8 2 4 ?_;refine wu 9 1 4 ?_;refine jm 10 0 4 8 ?_;refine yF ⟨fun f X hX hR hal hap=>?_⟩;have e9:f 9=_:=hR 9 (by decide);simp only[yZ,e9];clear hR hal hap e9;refine zH ?_;replace hE:=hE.trans hX;clear hX  ;rename World=>X1_k;have hb1:=hE.at_ hrb;obtain⟨z0,z1,z2,f0,f1,f2⟩:=jG hb1;go_wp2;exact gu rfl rfl rfl (xW hb1 _ _ _) ⟨_,rfl,⟨none,none,none,0,0,0,by rw[qV];rfl,RN.nil0 _,RN.nil0 _,RN.nil0 _,hM0,hM0,hM0⟩,xq (HE0.out.trans hE) (by have:=Hq.out;omega) _ _ _⟩
 by_cases hy0:y=0
 · rw[show twP C.M x y z=(0,0,0) by rw[twP,ql hz0,qg hy0]];replace hz0:=zF hz0;replace hy0:=zF hy0;go_enter Tryz.func40,Tryz.ntmps40;go_upto_region 1 with fail;rw[←hW0];have Hq:=zF hq;have HW0:=zF hW0;have hE:=zX W0;clear hq hW0
   refine zN 10 [0,1,3,7,15,31,63,127,255,511] [] (fun j f X=>match j with
    | 0=>f 0=.pointer (some ⟨q+1,2,none⟩)
    | 1=>f 1=.slice A3 (digs 4294967296 z).length k3
    | 2=>f 2=.int .i64 ((digs 4294967296 z).length:Int)
    | 3=>f 3=.bool false
    | 4=>f 4=.bool false
    | 5=>f 5=.pointer (some ⟨q+1,1,none⟩)
    | 6=>f 6=.slice A2 (digs 4294967296 y).length k2
    | 7=>f 7=.int .i64 ((digs 4294967296 y).length:Int)
    | 8=>f 8=.bool true
    | 9=>f 9=.bool true
    | _=>True) (by kernel_rfl) [(12,0),(13,1),(14,2),(15,3),(16,4),(17,5),(18,6),(19,7),(20,8),(21,9)] (by kernel_rfl) ?_
   refine zJ 1 9 ?_;refine qK 2 8 0 (hE.cell j2) ?_;refine zt 3 7 [(12,0),(13,1)] (fun f X hX hR K hK=>?_) ?_
   · have e1:f 1=_:=hR.out 1 rfl;simp only[yZ,e1];refine⟨?_⟩;go_simp;exact qd hK (s:=by simp only[yZ,e1])
   refine zt 4 6 [(12,0),(13,1),(14,2)] (fun f X hX hR K hK=>?_) ?_
   · have e2:f 2=_:=hR.out 2 rfl;have hz1:decide (((digs 4294967296 z).length:Int)=0)=false:=wS hz0.out;have hz2:decide ((digs 4294967296 z).length=0)=false:=wR hz0.out;have hz4:((((digs 4294967296 z).length:Nat):Int)==0)=false:=wT hz0.out;simp only[yZ,e2];refine⟨?_⟩;go_simp;exact qd hK (s:=by simp only[yZ,e2])
   refine qN 5 5 3 ?_;refine qN 6 4 4 ?_;refine zt 7 3 [(12,0),(13,1),(14,2),(15,3),(16,4),(17,5)] (fun f X hX hR K hK=>?_) ?_
   · have e4:f 4=_:=hR.out 4 rfl;have e5:f 5=_:=hR.out 5 rfl;have x0:=(hE.trans hX).cell j1;simp only[yZ,e4,e5];refine⟨zU (by kernel_rfl) ?_⟩;go_simp;exact qd hK (s:=by simp only[yZ,e4,e5])
   refine zt 8 2 [(12,0),(13,1),(14,2),(15,3),(16,4),(17,5),(18,6)] (fun f X hX hR K hK=>?_) ?_
   · have e4:f 4=_:=hR.out 4 rfl;have e6:f 6=_:=hR.out 6 rfl;simp only[yZ,e4,e6];refine⟨zU (by kernel_rfl) ?_⟩;go_simp;exact qd hK (s:=by simp only[yZ,e4,e6])
   refine zt 9 1 [(12,0),(13,1),(14,2),(15,3),(16,4),(17,5),(18,6),(19,7)] (fun f X hX hR K hK=>?_) ?_
   · have e4:f 4=_:=hR.out 4 rfl;have e7:f 7=_:=hR.out 7 rfl;have hz1:decide (((digs 4294967296 y).length:Int)=0)=true:=xQ hy0.out;have hz2:decide ((digs 4294967296 y).length=0)=true:=xP hy0.out;have hz4:((((digs 4294967296 y).length:Nat):Int)==0)=true:=xR hy0.out;simp only[yZ,e4,e7];refine⟨zU (by kernel_rfl) ?_⟩;go_simp;exact qd hK (s:=by simp only[yZ,e4,e7])
   refine jm 10 0 4 8 ?_;refine yF ⟨fun f X hX hR hal hap=>?_⟩;have e9:f 9=_:=hR 9 (by decide);simp only[yZ,e9];clear hR hal hap e9;refine zH ?_;replace hE:=hE.trans hX;clear hX  ;rename World=>X1_k;have hb1:=hE.at_ hrb;obtain⟨z0,z1,z2,f0,f1,f2⟩:=jG hb1;go_wp2;exact gu rfl rfl rfl (xW hb1 _ _ _) ⟨_,rfl,⟨none,none,none,0,0,0,by rw[qV];rfl,RN.nil0 _,RN.nil0 _,RN.nil0 _,hM0,hM0,hM0⟩,xq (HE0.out.trans hE) (by have:=Hq.out;omega) _ _ _⟩
 obtain⟨u1,dN⟩:=eV (mm C.M z z)
 have L_u1:=zF (show u1<C.M by rw[←dN];exact kR hM0 _ _)
 have E_u1:=zF dN
 clear dN
 obtain⟨u2,dM⟩:=eV (am C.M x u1)
 have L_u2:=zF (show u2<C.M by rw[←dM];exact am_lt hM0 _ _)
 have E_u2:=zF dM
 clear dM
 obtain⟨u3,e_u3⟩:=eV (sm C.M x u1)
 have L_u3:=zF (show u3<C.M by rw[←e_u3];exact x8 hM0 _ _)
 have E_u3:=zF e_u3
 clear e_u3
 obtain⟨u4,e_u4⟩:=eV (mm C.M u3 u2)
 have L_u4:=zF (show u4<C.M by rw[←e_u4];exact kR hM0 _ _)
 have E_u4:=zF e_u4
 clear e_u4
 obtain⟨u5,e_u5⟩:=eV (mm C.M 3 u4)
 have L_u5:=zF (show u5<C.M by rw[←e_u5];exact kR hM0 _ _)
 have E_u5:=zF e_u5
 clear e_u5
 obtain⟨u6,e_u6⟩:=eV (mm C.M y y)
 have L_u6:=zF (show u6<C.M by rw[←e_u6];exact kR hM0 _ _)
 have E_u6:=zF e_u6
 clear e_u6
 obtain⟨u7,e_u7⟩:=eV (mm C.M x u6)
 have L_u7:=zF (show u7<C.M by rw[←e_u7];exact kR hM0 _ _)
 have E_u7:=zF e_u7
 clear e_u7
 obtain⟨u8,e_u8⟩:=eV (mm C.M 4 u7)
 have L_u8:=zF (show u8<C.M by rw[←e_u8];exact kR hM0 _ _)
 have E_u8:=zF e_u8
 clear e_u8
 obtain⟨u9,e_u9⟩:=eV (mm C.M u5 u5)
 have L_u9:=zF (show u9<C.M by rw[←e_u9];exact kR hM0 _ _)
 have E_u9:=zF e_u9
 clear e_u9
 obtain⟨u10,e_u10⟩:=eV (sm C.M u9 u8)
 have L_u10:=zF (show u10<C.M by rw[←e_u10];exact x8 hM0 _ _)
 have E_u10:=zF e_u10
 clear e_u10
 obtain⟨u11,e_u11⟩:=eV (sm C.M u10 u8)
 have L_u11:=zF (show u11<C.M by rw[←e_u11];exact x8 hM0 _ _)
 have E_u11:=zF e_u11
 clear e_u11
 obtain⟨u12,e_u12⟩:=eV (sm C.M u8 u11)
 have L_u12:=zF (show u12<C.M by rw[←e_u12];exact x8 hM0 _ _)
 have E_u12:=zF e_u12
 clear e_u12
 obtain⟨u13,e_u13⟩:=eV (mm C.M u5 u12)
 have L_u13:=zF (show u13<C.M by rw[←e_u13];exact kR hM0 _ _)
 have E_u13:=zF e_u13
 clear e_u13
 obtain⟨u14,e_u14⟩:=eV (mm C.M u6 u6)
 have L_u14:=zF (show u14<C.M by rw[←e_u14];exact kR hM0 _ _)
 have E_u14:=zF e_u14
 clear e_u14
 obtain⟨u15,e_u15⟩:=eV (mm C.M 8 u14)
 have L_u15:=zF (show u15<C.M by rw[←e_u15];exact kR hM0 _ _)
 have E_u15:=zF e_u15
 clear e_u15
 obtain⟨u16,e_u16⟩:=eV (sm C.M u13 u15)
 have L_u16:=zF (show u16<C.M by rw[←e_u16];exact x8 hM0 _ _)
 have E_u16:=zF e_u16
 clear e_u16
 obtain⟨u17,e_u17⟩:=eV (mm C.M y z)
 have L_u17:=zF (show u17<C.M by rw[←e_u17];exact kR hM0 _ _)
 have E_u17:=zF e_u17
 clear e_u17
 obtain⟨u18,e_u18⟩:=eV (mm C.M 2 u17)
 have L_u18:=zF (show u18<C.M by rw[←e_u18];exact kR hM0 _ _)
 have E_u18:=zF e_u18
 clear e_u18
 have hres:twP C.M x y z=(u11,u16,u18):=by rw[twP,ql hz0,ql hy0];simp only[E_u1.out,E_u2.out,E_u3.out,E_u4.out,E_u5.out,E_u6.out,E_u7.out,E_u8.out,E_u9.out,E_u10.out,E_u11.out,E_u12.out,E_u13.out,E_u14.out,E_u15.out,E_u16.out,E_u17.out,E_u18.out]
 rw[hres]
 clear hres
 replace hz0:=zF hz0
 replace hy0:=zF hy0
 go_enter Tryz.func40,Tryz.ntmps40
 go_upto_region 1 with fail
 rw[←hW0]
 have Hq:=zF hq
 have HW0:=zF hW0
 have hE:=zX W0
 clear hq hW0
 refine zN 10 [0,1,3,7,15,31,63,127,255,511] [] (fun j f X=>match j with
  | 0=>f 0=.pointer (some ⟨q+1,2,none⟩)
  | 1=>f 1=.slice A3 (digs 4294967296 z).length k3
  | 2=>f 2=.int .i64 ((digs 4294967296 z).length:Int)
  | 3=>f 3=.bool false
  | 4=>f 4=.bool false
  | 5=>f 5=.pointer (some ⟨q+1,1,none⟩)
  | 6=>f 6=.slice A2 (digs 4294967296 y).length k2
  | 7=>f 7=.int .i64 ((digs 4294967296 y).length:Int)
  | 8=>f 8=.bool false
  | 9=>f 9=.bool false
  | _=>True) (by kernel_rfl) [(12,0),(13,1),(14,2),(15,3),(16,4),(17,5),(18,6),(19,7),(20,8),(21,9)] (by kernel_rfl) ?_
 refine zJ 1 9 ?_
 refine qK 2 8 0 (hE.cell j2) ?_
 refine zt 3 7 [(12,0),(13,1)] (fun f X hX hR K hK=>?_) ?_
 · have e1:f 1=_:=hR.out 1 rfl;simp only[yZ,e1];refine⟨?_⟩;go_simp;exact qd hK (s:=by simp only[yZ,e1])
 refine zt 4 6 [(12,0),(13,1),(14,2)] (fun f X hX hR K hK=>?_) ?_
 · have e2:f 2=_:=hR.out 2 rfl;have hz1:decide (((digs 4294967296 z).length:Int)=0)=false:=wS hz0.out;have hz2:decide ((digs 4294967296 z).length=0)=false:=wR hz0.out;have hz4:((((digs 4294967296 z).length:Nat):Int)==0)=false:=wT hz0.out;simp only[yZ,e2];refine⟨?_⟩;go_simp;exact qd hK (s:=by simp only[yZ,e2])
 refine qN 5 5 3 ?_
 refine qN 6 4 4 ?_
 refine zt 7 3 [(12,0),(13,1),(14,2),(15,3),(16,4),(17,5)] (fun f X hX hR K hK=>?_) ?_
 · have e4:f 4=_:=hR.out 4 rfl;have e5:f 5=_:=hR.out 5 rfl;have x0:=(hE.trans hX).cell j1;simp only[yZ,e4,e5];refine⟨zU (by kernel_rfl) ?_⟩;go_simp;exact qd hK (s:=by simp only[yZ,e4,e5])
 refine zt 8 2 [(12,0),(13,1),(14,2),(15,3),(16,4),(17,5),(18,6)] (fun f X hX hR K hK=>?_) ?_
 · have e4:f 4=_:=hR.out 4 rfl;have e6:f 6=_:=hR.out 6 rfl;simp only[yZ,e4,e6];refine⟨zU (by kernel_rfl) ?_⟩;go_simp;exact qd hK (s:=by simp only[yZ,e4,e6])
 refine zt 9 1 [(12,0),(13,1),(14,2),(15,3),(16,4),(17,5),(18,6),(19,7)] (fun f X hX hR K hK=>?_) ?_
 · have e4:f 4=_:=hR.out 4 rfl;have e7:f 7=_:=hR.out 7 rfl;have hz1:decide (((digs 4294967296 y).length:Int)=0)=false:=wS hy0.out;have hz2:decide ((digs 4294967296 y).length=0)=false:=wR hy0.out;have hz4:((((digs 4294967296 y).length:Nat):Int)==0)=false:=wT hy0.out;simp only[yZ,e4,e7];refine⟨zU (by kernel_rfl) ?_⟩;go_simp;exact qd hK (s:=by simp only[yZ,e4,e7])
 refine jm 10 0 4 8 ?_
 refine yF ⟨fun f X hX hR hal hap=>?_⟩
 have e9:f 9=_:=hR 9 (by decide)
 simp only[yZ,e9]
 clear hR hal hap e9
 refine zH ?_
 replace hE:=hE.trans hX
 clear hX  
 rename World=>X1_k
 go_upto_region 3 with fail
 refine zN 7 [0,0,2,0,8,31,63] [] (fun j f X=>match j with
  | 0=>f 0=.agg ccs
  | 1=>f 1=.pointer (some ⟨q+1,2,none⟩)
  | 2=>f 2=.slice A3 (digs 4294967296 z).length k3
  | 3=>f 3=.pointer (some ⟨q+1,2,none⟩)
  | 4=>f 4=.slice A3 (digs 4294967296 z).length k3
  | 5=>∃ A1 c1,f 5=.slice A1 (digs 4294967296 u1).length c1∧RU X A1 c1 (digs 4294967296 u1)
  | 6=>∃ A1 c1,f 6=.slice A1 (digs 4294967296 u1).length c1∧RU X A1 c1 (digs 4294967296 u1)
  | _=>True) (by kernel_rfl) [(23,0),(24,1),(25,2),(26,3),(27,4),(28,5),(5,6)] (by kernel_rfl) ?_
 refine lV0 1 6 (hE.at_ hcb) (by rw[Hccs.out];exact qp) ?_
 refine zJ 2 5 ?_
 refine qK 3 4 1 (hE.cell j2) ?_
 refine zJ 4 3 ?_
 refine qK 5 2 3 (hE.cell j2) ?_
 refine rc 6 1 0 2 4 (fun _ _ hX h=>⟨_,_,h,(zL HX3.out (hE.trans hX))⟩) (fun _ _ hX h=>⟨_,_,h,(zL HX3.out (hE.trans hX))⟩) (fun X hX _ _ _ _ h h'=>jg X HF.out (hRC.out.ext (hE.trans hX)) h h' hz.out hz.out) E_u1.out ?_
 refine zt 7 0 [(23,0),(24,1),(25,2),(26,3),(27,4),(28,5)] (fun f X hX hR K hK=>?_) ?_
 · obtain⟨A3_5,c3_5,(e5:f 5=_),o3_5⟩:=hR.out 5 rfl;simp only[yZ,e5];refine⟨?_⟩;go_simp;exact hK.out _ _ _ (by simp only[yZ,e5]) (zX _) trivial (fun Y hY=>⟨A3_5,c3_5,rfl,zL o3_5 hY⟩)
 refine yF ⟨fun f X hX hR hal hap=>?_⟩
 obtain⟨A3_5,c3_5,(e5:f 5=_),o3_5⟩:=hR 5 (by decide)
 obtain⟨A3_6,c3_6,(e6:f 6=_),o3_6⟩:=hR 6 (by decide)
 simp only[yZ,e5,e6]
 clear hR hal hap e5 e6
 refine zH ?_
 replace hE:=hE.trans hX
 have N5:=zF o3_6
 clear hX o3_5 o3_6 
 rename World=>X3_k
 go_upto_region 4 with fail
 refine zh (by kernel_rfl) 8 [0,1,0,7,0,16,63,127] [] (fun j f X=>match j with
  | 0=>f 0=.pointer (some ⟨q+1,0,none⟩)
  | 1=>f 1=.slice A1 (digs 4294967296 x).length k1
  | 2=>f 2=.slice A3_6 (digs 4294967296 u1).length c3_6
  | 3=>∃ A1 c1,f 3=.slice A1 (digs 4294967296 (x+u1)).length c1∧RU X A1 c1 (digs 4294967296 (x+u1))
  | 4=>f 4=.pointer (some ⟨q,0,none⟩)
  | 5=>f 5=.slice Ap (digs 4294967296 C.M).length cp
  | 6=>∃ A1 c1,f 6=.slice A1 (digs 4294967296 u2).length c1∧RU X A1 c1 (digs 4294967296 u2)
  | 7=>∃ A1 c1,f 7=.slice A1 (digs 4294967296 u2).length c1∧RU X A1 c1 (digs 4294967296 u2)
  | _=>True) (by kernel_rfl) [(29,0),(30,1),(31,2),(32,3),(33,4),(34,5),(35,6),(6,7)] (by kernel_rfl) ?_
 refine zJ 1 7 ?_
 refine qK 2 6 0 (hE.cell j0) ?_
 refine zJ 3 5 ?_
 refine qI 4 4 (fun f=>#[f 1,f 2]) (F':=50) (fun f X hX hR=>?_) ?_
 · have e1:f 1=_:=hR.out 1 rfl;have e2:f 2=_:=hR.out 2 rfl;simp only[e1,e2];refine(add_r X HF.out (zL HX1.out (hE.trans hX)) (zL N5.out hX) hx.out L_u1.out).mono ?_;rintro e w2 ⟨A1,c1,rfl,hO,hB⟩;exact⟨_,rfl,hB,fun Y hY=>⟨A1,c1,rfl,zL hO hY⟩⟩
 refine zJ 5 3 ?_
 refine qK 6 2 4 (hE.cell cP) ?_
 refine qI 7 1 (fun f=>#[f 3,f 5]) (F':=49) (fun f X hX hR=>?_) ?_
 · obtain⟨A4_3,c4_3,(e3:f 3=_),o4_3⟩:=hR.out 3 rfl;have e5:f 5=_:=hR.out 5 rfl;simp only[e3,e5];refine(mod_r X HF.out o4_3 (zL HRP.out (hE.trans hX)) (show x+u1<2*C.M by have:=hx.out;have:=L_u1.out;omega)).mono ?_;rw[show(x+u1)%C.M=u2 from E_u2.out];rintro e w2 ⟨A1,c1,rfl,hO,hB⟩;exact⟨_,rfl,hB,fun Y hY=>⟨A1,c1,rfl,zL hO hY⟩⟩
 refine zt 8 0 [(29,0),(30,1),(31,2),(32,3),(33,4),(34,5),(35,6)] (fun f X hX hR K hK=>?_) ?_
 · obtain⟨A4_6,c4_6,(e6:f 6=_),o4_6⟩:=hR.out 6 rfl;simp only[yZ,e6];refine⟨?_⟩;go_simp;exact hK.out _ _ _ (by simp only[yZ,e6]) (zX _) trivial (fun Y hY=>⟨A4_6,c4_6,rfl,zL o4_6 hY⟩)
 refine yF ⟨fun f X hX hR hal hap=>?_⟩
 obtain⟨A4_3,c4_3,(e3:f 3=_),o4_3⟩:=hR 3 (by decide)
 obtain⟨A4_6,c4_6,(e6:f 6=_),o4_6⟩:=hR 6 (by decide)
 obtain⟨A4_7,c4_7,(e7:f 7=_),o4_7⟩:=hR 7 (by decide)
 simp only[yZ,e3,e6,e7]
 clear hR hal hap e3 e6 e7
 refine zH ?_
 replace hE:=hE.trans hX
 replace N5:=zF (zL N5.out hX)
 have N6:=zF o4_7
 clear hX o4_3 o4_6 o4_7
 rename World=>X4_k
 go_upto_region 5 with fail
 refine zh (by kernel_rfl) 12 [0,0,0,0,0,16,0,122,0,510,1023,2047] [] (fun j f X=>match j with
  | 0=>f 0=.agg ccs
  | 1=>∃ A1 c1,f 1=.slice A1 (digs 4294967296 3).length c1∧RU X A1 c1 (digs 4294967296 3)
  | 2=>f 2=.agg ccs
  | 3=>f 3=.agg ccs
  | 4=>f 4=.pointer (some ⟨q+1,0,none⟩)
  | 5=>f 5=.slice A1 (digs 4294967296 x).length k1
  | 6=>f 6=.slice A3_6 (digs 4294967296 u1).length c3_6
  | 7=>∃ A1 c1,f 7=.slice A1 (digs 4294967296 u3).length c1∧RU X A1 c1 (digs 4294967296 u3)
  | 8=>f 8=.slice A4_7 (digs 4294967296 u2).length c4_7
  | 9=>∃ A1 c1,f 9=.slice A1 (digs 4294967296 u4).length c1∧RU X A1 c1 (digs 4294967296 u4)
  | 10=>∃ A1 c1,f 10=.slice A1 (digs 4294967296 u5).length c1∧RU X A1 c1 (digs 4294967296 u5)
  | 11=>∃ A1 c1,f 11=.slice A1 (digs 4294967296 u5).length c1∧RU X A1 c1 (digs 4294967296 u5)
  | _=>True) (by kernel_rfl) [(36,0),(37,1),(38,2),(39,3),(40,4),(41,5),(42,6),(43,7),(44,8),(45,9),(46,10),(7,11)] (by kernel_rfl) ?_
 refine lV0 1 11 (hE.at_ hcb) (by rw[Hccs.out];exact qp) ?_
 refine qI 2 10 (fun _=>#[Value.int IntKind.u64 3]) (F':=48) (fun f X hX hR=>?_) ?_
 · refine(zAi 3 X (by omega)).mono ?_;rintro e w2 ⟨A1,c1,rfl,hO,hB⟩;exact⟨_,rfl,hB,fun Y hY=>⟨A1,c1,rfl,zL hO hY⟩⟩
 refine lV0 3 9 (hE.at_ hcb) (by rw[Hccs.out];exact qp) ?_
 refine lV0 4 8 (hE.at_ hcb) (by rw[Hccs.out];exact qp) ?_
 refine zJ 5 7 ?_
 refine qK 6 6 4 (hE.cell j0) ?_
 refine zJ 7 5 ?_
 refine rc 8 4 3 5 6 (fun _ _ hX h=>⟨_,_,h,(zL HX1.out (hE.trans hX))⟩) (fun _ _ hX h=>⟨_,_,h,(zL N5.out hX)⟩) (fun X hX _ _ _ _ h h'=>wN X HF.out (hRC.out.ext (hE.trans hX)) h h' hx.out L_u1.out) E_u3.out ?_
 refine zJ 9 3 ?_
 refine rc 10 2 2 7 8 (fun _ _ _ h=>h) (fun _ _ hX h=>⟨_,_,h,(zL N6.out hX)⟩) (fun X hX _ _ _ _ h h'=>jg X HF.out (hRC.out.ext (hE.trans hX)) h h' L_u3.out L_u2.out) E_u4.out ?_
 refine rc 11 1 0 1 9 (fun _ _ _ h=>h) (fun _ _ _ h=>h) (fun X hX _ _ _ _ h h'=>jg X HF.out (hRC.out.ext (hE.trans hX)) h h' (show 3<C.M by have:=H8.out;omega) L_u4.out) E_u5.out ?_
 refine zt 12 0 [(36,0),(37,1),(38,2),(39,3),(40,4),(41,5),(42,6),(43,7),(44,8),(45,9),(46,10)] (fun f X hX hR K hK=>?_) ?_
 · obtain⟨A5_10,c5_10,(e10:f 10=_),o5_10⟩:=hR.out 10 rfl;simp only[yZ,e10];refine⟨?_⟩;go_simp;exact hK.out _ _ _ (by simp only[yZ,e10]) (zX _) trivial (fun Y hY=>⟨A5_10,c5_10,rfl,zL o5_10 hY⟩)
 refine yF ⟨fun f X hX hR hal hap=>?_⟩
 obtain⟨A5_1,c5_1,(e1:f 1=_),o5_1⟩:=hR 1 (by decide)
 obtain⟨A5_7,c5_7,(e7:f 7=_),o5_7⟩:=hR 7 (by decide)
 obtain⟨A5_9,c5_9,(e9:f 9=_),o5_9⟩:=hR 9 (by decide)
 obtain⟨A5_10,c5_10,(e10:f 10=_),o5_10⟩:=hR 10 (by decide)
 obtain⟨A5_11,c5_11,(e11:f 11=_),o5_11⟩:=hR 11 (by decide)
 simp only[yZ,e1,e7,e9,e10,e11]
 clear hR hal hap e1 e7 e9 e10 e11
 refine zH ?_
 replace hE:=hE.trans hX
 replace N5:=zF (zL N5.out hX)
 replace N6:=zF (zL N6.out hX)
 have N7:=zF o5_11
 clear hX o5_1 o5_7 o5_9 o5_10 o5_11
 rename World=>X5_k
 go_upto_region 6 with fail
 refine zN 7 [0,0,2,0,8,31,63] [] (fun j f X=>match j with
  | 0=>f 0=.agg ccs
  | 1=>f 1=.pointer (some ⟨q+1,1,none⟩)
  | 2=>f 2=.slice A2 (digs 4294967296 y).length k2
  | 3=>f 3=.pointer (some ⟨q+1,1,none⟩)
  | 4=>f 4=.slice A2 (digs 4294967296 y).length k2
  | 5=>∃ A1 c1,f 5=.slice A1 (digs 4294967296 u6).length c1∧RU X A1 c1 (digs 4294967296 u6)
  | 6=>∃ A1 c1,f 6=.slice A1 (digs 4294967296 u6).length c1∧RU X A1 c1 (digs 4294967296 u6)
  | _=>True) (by kernel_rfl) [(47,0),(48,1),(49,2),(50,3),(51,4),(52,5),(8,6)] (by kernel_rfl) ?_
 refine lV0 1 6 (hE.at_ hcb) (by rw[Hccs.out];exact qp) ?_
 refine zJ 2 5 ?_
 refine qK 3 4 1 (hE.cell j1) ?_
 refine zJ 4 3 ?_
 refine qK 5 2 3 (hE.cell j1) ?_
 refine rc 6 1 0 2 4 (fun _ _ hX h=>⟨_,_,h,(zL HX2.out (hE.trans hX))⟩) (fun _ _ hX h=>⟨_,_,h,(zL HX2.out (hE.trans hX))⟩) (fun X hX _ _ _ _ h h'=>jg X HF.out (hRC.out.ext (hE.trans hX)) h h' hy.out hy.out) E_u6.out ?_
 refine zt 7 0 [(47,0),(48,1),(49,2),(50,3),(51,4),(52,5)] (fun f X hX hR K hK=>?_) ?_
 · obtain⟨A6_5,c6_5,(e5:f 5=_),o6_5⟩:=hR.out 5 rfl;simp only[yZ,e5];refine⟨?_⟩;go_simp;exact hK.out _ _ _ (by simp only[yZ,e5]) (zX _) trivial (fun Y hY=>⟨A6_5,c6_5,rfl,zL o6_5 hY⟩)
 refine yF ⟨fun f X hX hR hal hap=>?_⟩
 obtain⟨A6_5,c6_5,(e5:f 5=_),o6_5⟩:=hR 5 (by decide)
 obtain⟨A6_6,c6_6,(e6:f 6=_),o6_6⟩:=hR 6 (by decide)
 simp only[yZ,e5,e6]
 clear hR hal hap e5 e6
 refine zH ?_
 replace hE:=hE.trans hX
 replace N5:=zF (zL N5.out hX)
 replace N6:=zF (zL N6.out hX)
 replace N7:=zF (zL N7.out hX)
 have N8:=zF o6_6
 clear hX o6_5 o6_6
 rename World=>X6_k
 go_upto_region 7 with fail
 refine zh (by kernel_rfl) 9 [0,0,0,0,8,0,62,127,255] [] (fun j f X=>match j with
  | 0=>f 0=.agg ccs
  | 1=>∃ A1 c1,f 1=.slice A1 (digs 4294967296 4).length c1∧RU X A1 c1 (digs 4294967296 4)
  | 2=>f 2=.agg ccs
  | 3=>f 3=.pointer (some ⟨q+1,0,none⟩)
  | 4=>f 4=.slice A1 (digs 4294967296 x).length k1
  | 5=>f 5=.slice A6_6 (digs 4294967296 u6).length c6_6
  | 6=>∃ A1 c1,f 6=.slice A1 (digs 4294967296 u7).length c1∧RU X A1 c1 (digs 4294967296 u7)
  | 7=>∃ A1 c1,f 7=.slice A1 (digs 4294967296 u8).length c1∧RU X A1 c1 (digs 4294967296 u8)
  | 8=>∃ A1 c1,f 8=.slice A1 (digs 4294967296 u8).length c1∧RU X A1 c1 (digs 4294967296 u8)
  | _=>True) (by kernel_rfl) [(53,0),(54,1),(55,2),(56,3),(57,4),(58,5),(59,6),(60,7),(9,8)] (by kernel_rfl) ?_
 refine lV0 1 8 (hE.at_ hcb) (by rw[Hccs.out];exact qp) ?_
 refine qI 2 7 (fun _=>#[Value.int IntKind.u64 4]) (F':=48) (fun f X hX hR=>?_) ?_
 · refine(zAi 4 X (by omega)).mono ?_;rintro e w2 ⟨A1,c1,rfl,hO,hB⟩;exact⟨_,rfl,hB,fun Y hY=>⟨A1,c1,rfl,zL hO hY⟩⟩
 refine lV0 3 6 (hE.at_ hcb) (by rw[Hccs.out];exact qp) ?_
 refine zJ 4 5 ?_
 refine qK 5 4 3 (hE.cell j0) ?_
 refine zJ 6 3 ?_
 refine rc 7 2 2 4 5 (fun _ _ hX h=>⟨_,_,h,(zL HX1.out (hE.trans hX))⟩) (fun _ _ hX h=>⟨_,_,h,(zL N8.out hX)⟩) (fun X hX _ _ _ _ h h'=>jg X HF.out (hRC.out.ext (hE.trans hX)) h h' hx.out L_u6.out) E_u7.out ?_
 refine rc 8 1 0 1 6 (fun _ _ _ h=>h) (fun _ _ _ h=>h) (fun X hX _ _ _ _ h h'=>jg X HF.out (hRC.out.ext (hE.trans hX)) h h' (show 4<C.M by have:=H8.out;omega) L_u7.out) E_u8.out ?_
 refine zt 9 0 [(53,0),(54,1),(55,2),(56,3),(57,4),(58,5),(59,6),(60,7)] (fun f X hX hR K hK=>?_) ?_
 · obtain⟨A7_7,c7_7,(e7:f 7=_),o7_7⟩:=hR.out 7 rfl;simp only[yZ,e7];refine⟨?_⟩;go_simp;exact hK.out _ _ _ (by simp only[yZ,e7]) (zX _) trivial (fun Y hY=>⟨A7_7,c7_7,rfl,zL o7_7 hY⟩)
 refine yF ⟨fun f X hX hR hal hap=>?_⟩
 obtain⟨A7_1,c7_1,(e1:f 1=_),o7_1⟩:=hR 1 (by decide)
 obtain⟨A7_6,c7_6,(e6:f 6=_),o7_6⟩:=hR 6 (by decide)
 obtain⟨A7_7,c7_7,(e7:f 7=_),o7_7⟩:=hR 7 (by decide)
 obtain⟨A7_8,c7_8,(e8:f 8=_),o7_8⟩:=hR 8 (by decide)
 simp only[yZ,e1,e6,e7,e8]
 clear hR hal hap e1 e6 e7 e8
 refine zH ?_
 replace hE:=hE.trans hX
 replace N5:=zF (zL N5.out hX)
 replace N6:=zF (zL N6.out hX)
 replace N7:=zF (zL N7.out hX)
 replace N8:=zF (zL N8.out hX)
 have N9:=zF o7_8
 clear hX o7_1 o7_6 o7_7 o7_8
 rename World=>X7_k
 go_upto_region 8 with fail
 refine zh (by kernel_rfl) 11 [0,0,0,0,0,28,0,126,0,511,1023] [] (fun j f X=>match j with
  | 0=>f 0=.agg ccs
  | 1=>f 1=.agg ccs
  | 2=>f 2=.agg ccs
  | 3=>f 3=.slice A5_11 (digs 4294967296 u5).length c5_11
  | 4=>f 4=.slice A5_11 (digs 4294967296 u5).length c5_11
  | 5=>∃ A1 c1,f 5=.slice A1 (digs 4294967296 u9).length c1∧RU X A1 c1 (digs 4294967296 u9)
  | 6=>f 6=.slice A7_8 (digs 4294967296 u8).length c7_8
  | 7=>∃ A1 c1,f 7=.slice A1 (digs 4294967296 u10).length c1∧RU X A1 c1 (digs 4294967296 u10)
  | 8=>f 8=.slice A7_8 (digs 4294967296 u8).length c7_8
  | 9=>∃ A1 c1,f 9=.slice A1 (digs 4294967296 u11).length c1∧RU X A1 c1 (digs 4294967296 u11)
  | 10=>∃ A1 c1,f 10=.slice A1 (digs 4294967296 u11).length c1∧RU X A1 c1 (digs 4294967296 u11)
  | _=>True) (by kernel_rfl) [(61,0),(62,1),(63,2),(64,3),(65,4),(66,5),(67,6),(68,7),(69,8),(70,9),(10,10)] (by kernel_rfl) ?_
 refine lV0 1 10 (hE.at_ hcb) (by rw[Hccs.out];exact qp) ?_
 refine lV0 2 9 (hE.at_ hcb) (by rw[Hccs.out];exact qp) ?_
 refine lV0 3 8 (hE.at_ hcb) (by rw[Hccs.out];exact qp) ?_
 refine zJ 4 7 ?_
 refine zJ 5 6 ?_
 refine rc 6 5 2 3 4 (fun _ _ hX h=>⟨_,_,h,(zL N7.out hX)⟩) (fun _ _ hX h=>⟨_,_,h,(zL N7.out hX)⟩) (fun X hX _ _ _ _ h h'=>jg X HF.out (hRC.out.ext (hE.trans hX)) h h' L_u5.out L_u5.out) E_u9.out ?_
 refine zJ 7 4 ?_
 refine rc 8 3 1 5 6 (fun _ _ _ h=>h) (fun _ _ hX h=>⟨_,_,h,(zL N9.out hX)⟩) (fun X hX _ _ _ _ h h'=>wN X HF.out (hRC.out.ext (hE.trans hX)) h h' L_u9.out L_u8.out) E_u10.out ?_
 refine zJ 9 2 ?_
 refine rc 10 1 0 7 8 (fun _ _ _ h=>h) (fun _ _ hX h=>⟨_,_,h,(zL N9.out hX)⟩) (fun X hX _ _ _ _ h h'=>wN X HF.out (hRC.out.ext (hE.trans hX)) h h' L_u10.out L_u8.out) E_u11.out ?_
 refine zt 11 0 [(61,0),(62,1),(63,2),(64,3),(65,4),(66,5),(67,6),(68,7),(69,8),(70,9)] (fun f X hX hR K hK=>?_) ?_
 · obtain⟨A8_9,c8_9,(e9:f 9=_),o8_9⟩:=hR.out 9 rfl;simp only[yZ,e9];refine⟨?_⟩;go_simp;exact hK.out _ _ _ (by simp only[yZ,e9]) (zX _) trivial (fun Y hY=>⟨A8_9,c8_9,rfl,zL o8_9 hY⟩)
 refine yF ⟨fun f X hX hR hal hap=>?_⟩
 obtain⟨A8_5,c8_5,(e5:f 5=_),o8_5⟩:=hR 5 (by decide)
 obtain⟨A8_7,c8_7,(e7:f 7=_),o8_7⟩:=hR 7 (by decide)
 obtain⟨A8_9,c8_9,(e9:f 9=_),o8_9⟩:=hR 9 (by decide)
 obtain⟨A8_10,c8_10,(e10:f 10=_),o8_10⟩:=hR 10 (by decide)
 simp only[yZ,e5,e7,e9,e10]
 clear hR hal hap e5 e7 e9 e10
 refine zH ?_
 replace hE:=hE.trans hX
 replace N5:=zF (zL N5.out hX)
 replace N6:=zF (zL N6.out hX)
 replace N7:=zF (zL N7.out hX)
 replace N8:=zF (zL N8.out hX)
 replace N9:=zF (zL N9.out hX)
 have N10:=zF o8_10
 clear hX o8_5 o8_7 o8_9 o8_10
 rename World=>X8_k
 go_upto_region 9 with fail
 refine zh (by kernel_rfl) 17 [0,0,0,0,0,0,56,126,0,254,0,0,0,7934,16382,32767,65535] [] (fun j f X=>match j with
  | 0=>f 0=.agg ccs
  | 1=>f 1=.agg ccs
  | 2=>f 2=.slice A5_11 (digs 4294967296 u5).length c5_11
  | 3=>f 3=.agg ccs
  | 4=>f 4=.slice A7_8 (digs 4294967296 u8).length c7_8
  | 5=>f 5=.slice A8_10 (digs 4294967296 u11).length c8_10
  | 6=>∃ A1 c1,f 6=.slice A1 (digs 4294967296 u12).length c1∧RU X A1 c1 (digs 4294967296 u12)
  | 7=>∃ A1 c1,f 7=.slice A1 (digs 4294967296 u13).length c1∧RU X A1 c1 (digs 4294967296 u13)
  | 8=>f 8=.agg ccs
  | 9=>∃ A1 c1,f 9=.slice A1 (digs 4294967296 8).length c1∧RU X A1 c1 (digs 4294967296 8)
  | 10=>f 10=.agg ccs
  | 11=>f 11=.slice A6_6 (digs 4294967296 u6).length c6_6
  | 12=>f 12=.slice A6_6 (digs 4294967296 u6).length c6_6
  | 13=>∃ A1 c1,f 13=.slice A1 (digs 4294967296 u14).length c1∧RU X A1 c1 (digs 4294967296 u14)
  | 14=>∃ A1 c1,f 14=.slice A1 (digs 4294967296 u15).length c1∧RU X A1 c1 (digs 4294967296 u15)
  | 15=>∃ A1 c1,f 15=.slice A1 (digs 4294967296 u16).length c1∧RU X A1 c1 (digs 4294967296 u16)
  | 16=>∃ A1 c1,f 16=.slice A1 (digs 4294967296 u16).length c1∧RU X A1 c1 (digs 4294967296 u16)
  | _=>True) (by kernel_rfl) [(71,0),(72,1),(73,2),(74,3),(75,4),(76,5),(77,6),(78,7),(79,8),(80,9),(81,10),(82,11),(83,12),(84,13),(85,14),(86,15),(11,16)] (by kernel_rfl) ?_
 refine lV0 1 16 (hE.at_ hcb) (by rw[Hccs.out];exact qp) ?_
 refine lV0 2 15 (hE.at_ hcb) (by rw[Hccs.out];exact qp) ?_
 refine zJ 3 14 ?_
 refine lV0 4 13 (hE.at_ hcb) (by rw[Hccs.out];exact qp) ?_
 refine zJ 5 12 ?_
 refine zJ 6 11 ?_
 refine rc 7 10 3 4 5 (fun _ _ hX h=>⟨_,_,h,(zL N9.out hX)⟩) (fun _ _ hX h=>⟨_,_,h,(zL N10.out hX)⟩) (fun X hX _ _ _ _ h h'=>wN X HF.out (hRC.out.ext (hE.trans hX)) h h' L_u8.out L_u11.out) E_u12.out ?_
 refine rc 8 9 1 2 6 (fun _ _ hX h=>⟨_,_,h,(zL N7.out hX)⟩) (fun _ _ _ h=>h) (fun X hX _ _ _ _ h h'=>jg X HF.out (hRC.out.ext (hE.trans hX)) h h' L_u5.out L_u12.out) E_u13.out ?_
 refine lV0 9 8 (hE.at_ hcb) (by rw[Hccs.out];exact qp) ?_
 refine qI 10 7 (fun _=>#[Value.int IntKind.u64 8]) (F':=48) (fun f X hX hR=>?_) ?_
 · refine(zAi 8 X (by omega)).mono ?_;rintro e w2 ⟨A1,c1,rfl,hO,hB⟩;exact⟨_,rfl,hB,fun Y hY=>⟨A1,c1,rfl,zL hO hY⟩⟩
 refine lV0 11 6 (hE.at_ hcb) (by rw[Hccs.out];exact qp) ?_
 refine zJ 12 5 ?_
 refine zJ 13 4 ?_
 refine rc 14 3 10 11 12 (fun _ _ hX h=>⟨_,_,h,(zL N8.out hX)⟩) (fun _ _ hX h=>⟨_,_,h,(zL N8.out hX)⟩) (fun X hX _ _ _ _ h h'=>jg X HF.out (hRC.out.ext (hE.trans hX)) h h' L_u6.out L_u6.out) E_u14.out ?_
 refine rc 15 2 8 9 13 (fun _ _ _ h=>h) (fun _ _ _ h=>h) (fun X hX _ _ _ _ h h'=>jg X HF.out (hRC.out.ext (hE.trans hX)) h h' (show 8<C.M by have:=H8.out;omega) L_u14.out) E_u15.out ?_
 refine rc 16 1 0 7 14 (fun _ _ _ h=>h) (fun _ _ _ h=>h) (fun X hX _ _ _ _ h h'=>wN X HF.out (hRC.out.ext (hE.trans hX)) h h' L_u13.out L_u15.out) E_u16.out ?_
 refine zt 17 0 [(71,0),(72,1),(73,2),(74,3),(75,4),(76,5),(77,6),(78,7),(79,8),(80,9),(81,10),(82,11),(83,12),(84,13),(85,14),(86,15)] (fun f X hX hR K hK=>?_) ?_
 · obtain⟨A9_15,c9_15,(e15:f 15=_),o9_15⟩:=hR.out 15 rfl;simp only[yZ,e15];refine⟨?_⟩;go_simp;exact hK.out _ _ _ (by simp only[yZ,e15]) (zX _) trivial (fun Y hY=>⟨A9_15,c9_15,rfl,zL o9_15 hY⟩)
 refine yF ⟨fun f X hX hR hal hap=>?_⟩
 obtain⟨A9_6,c9_6,(e6:f 6=_),o9_6⟩:=hR 6 (by decide)
 obtain⟨A9_7,c9_7,(e7:f 7=_),o9_7⟩:=hR 7 (by decide)
 obtain⟨A9_9,c9_9,(e9:f 9=_),o9_9⟩:=hR 9 (by decide)
 obtain⟨A9_13,c9_13,(e13:f 13=_),o9_13⟩:=hR 13 (by decide)
 obtain⟨A9_14,c9_14,(e14:f 14=_),o9_14⟩:=hR 14 (by decide)
 obtain⟨A9_15,c9_15,(e15:f 15=_),o9_15⟩:=hR 15 (by decide)
 obtain⟨A9_16,c9_16,(e16:f 16=_),o9_16⟩:=hR 16 (by decide)
 simp only[yZ,e6,e7,e9,e13,e14,e15,e16]
 clear hR hal hap e6 e7 e9 e13 e14 e15 e16
 refine zH ?_
 replace hE:=hE.trans hX
 replace N5:=zF (zL N5.out hX)
 replace N6:=zF (zL N6.out hX)
 replace N7:=zF (zL N7.out hX)
 replace N8:=zF (zL N8.out hX)
 replace N9:=zF (zL N9.out hX)
 replace N10:=zF (zL N10.out hX)
 have N11:=zF o9_16
 clear hX o9_6 o9_7 o9_9 o9_13 o9_14 o9_15 o9_16
 rename World=>X9_k
 have hb1:=hE.at_ hrb
 go_upto_region 10 with fail
 refine zh (by kernel_rfl) 12 [0,0,0,0,0,0,32,0,128,504,1020,2047,4095] [] (fun j f X=>match j with
  | 0=>f 0=.slice A8_10 (digs 4294967296 u11).length c8_10
  | 1=>f 1=.slice A9_16 (digs 4294967296 u16).length c9_16
  | 2=>f 2=.agg ccs
  | 3=>∃ A1 c1,f 3=.slice A1 (digs 4294967296 2).length c1∧RU X A1 c1 (digs 4294967296 2)
  | 4=>f 4=.agg ccs
  | 5=>f 5=.pointer (some ⟨q+1,1,none⟩)
  | 6=>f 6=.slice A2 (digs 4294967296 y).length k2
  | 7=>f 7=.pointer (some ⟨q+1,2,none⟩)
  | 8=>f 8=.slice A3 (digs 4294967296 z).length k3
  | 9=>∃ A1 c1,f 9=.slice A1 (digs 4294967296 u17).length c1∧RU X A1 c1 (digs 4294967296 u17)
  | 10=>∃ A1 c1,f 10=.slice A1 (digs 4294967296 u18).length c1∧RU X A1 c1 (digs 4294967296 u18)
  | 11=>∃ A c,f 11=.agg #[.slice A8_10 (digs 4294967296 u11).length c8_10,.slice A9_16 (digs 4294967296 u16).length c9_16,.slice A (digs 4294967296 u18).length c]∧RU X A c (digs 4294967296 u18)
  | _=>True) (by kernel_rfl) [(87,0),(88,1),(89,2),(90,3),(91,4),(92,5),(93,6),(94,7),(95,8),(96,9),(97,10),(98,11)] (by kernel_rfl) ?_
 refine zJ 1 11 ?_
 refine zJ 2 10 ?_
 refine lV0 3 9 (hE.at_ hcb) (by rw[Hccs.out];exact qp) ?_
 refine qI 4 8 (fun _=>#[Value.int IntKind.u64 2]) (F':=48) (fun f X hX hR=>?_) ?_
 · refine(zAi 2 X (by omega)).mono ?_;rintro e w2 ⟨A1,c1,rfl,hO,hB⟩;exact⟨_,rfl,hB,fun Y hY=>⟨A1,c1,rfl,zL hO hY⟩⟩
 refine lV0 5 7 (hE.at_ hcb) (by rw[Hccs.out];exact qp) ?_
 refine zJ 6 6 ?_
 refine qK 7 5 5 (hE.cell j1) ?_
 refine zJ 8 4 ?_
 refine qK 9 3 7 (hE.cell j2) ?_
 refine rc 10 2 4 6 8 (fun _ _ hX h=>⟨_,_,h,(zL HX2.out (hE.trans hX))⟩) (fun _ _ hX h=>⟨_,_,h,(zL HX3.out (hE.trans hX))⟩) (fun X hX _ _ _ _ h h'=>jg X HF.out (hRC.out.ext (hE.trans hX)) h h' hy.out hz.out) E_u17.out ?_
 refine rc 11 1 2 3 9 (fun _ _ _ h=>h) (fun _ _ _ h=>h) (fun X hX _ _ _ _ h h'=>jg X HF.out (hRC.out.ext (hE.trans hX)) h h' (show 2<C.M by have:=H8.out;omega) L_u17.out) E_u18.out ?_
 refine zt 12 0 [(87,0),(88,1),(89,2),(90,3),(91,4),(92,5),(93,6),(94,7),(95,8),(96,9),(97,10)] (fun f X hX hR K hK=>?_) ?_
 · have e0:f 0=_:=hR.out 0 rfl;have e1:f 1=_:=hR.out 1 rfl;obtain⟨A10_10,c10_10,(e10:f 10=_),o10_10⟩:=hR.out 10 rfl;simp only[yZ,e0,e1,e10];refine⟨?_⟩;go_simp;exact hK.out _ _ _ (by simp only[yZ,e0,e1,e10]) (zX _) trivial (fun Y hY=>⟨_,_,rfl,zL o10_10 hY⟩)
 refine yF ⟨fun f X hX hR hal hap=>?_⟩
 obtain⟨A10_3,c10_3,(e3:f 3=_),o10_3⟩:=hR 3 (by decide)
 obtain⟨A10_9,c10_9,(e9:f 9=_),o10_9⟩:=hR 9 (by decide)
 obtain⟨A10_10,c10_10,(e10:f 10=_),o10_10⟩:=hR 10 (by decide)
 obtain⟨Az,cz,(e11:f 11=_),oz⟩:=hR 11 (by decide)
 simp only[yZ,e3,e9,e10,e11]
 clear hR hal hap e3 e9 e10 e11
 refine zP (fun K hK=>⟨zU (by kernel_rfl) (jJ (cs':=#[.slice A8_10 (digs 4294967296 u11).length c8_10,.slice A9_16 (digs 4294967296 u16).length c9_16,.slice Az (digs 4294967296 u18).length cz]) (t:=78) 78 (.tmp 4) (.tmp 98) rfl rfl rfl rfl (hX.at_ hb1) uD rfl (fu _ _ _ _ _ _ _ _ _) (fun Y hY1 hY2 hY3=>hK.out _ _ ?_))⟩)
 refine zH ?_
 go_wp2
 exact gu rfl rfl rfl hY1 ⟨_,rfl,⟨_,_,_,_,_,_,rfl,(zL N10.out hX).offJ hY2 (hX.at_ hb1) (by kernel_rfl),(zL N11.out hX).offJ hY2 (hX.at_ hb1) (by kernel_rfl),oz.offJ hY2 (hX.at_ hb1) (by kernel_rfl),L_u11.out,L_u16.out,L_u18.out⟩,hY2.ext (HE0.out.trans (hE.trans hX)) (by have:=Hq.out;omega)⟩
theorem zD2 (w:World)(o1 o2 o3 o4:Obj):((((w.alloc o1).alloc o2).alloc o3).alloc o4).heap[w.heap.size]?=some o1∧((((w.alloc o1).alloc o2).alloc o3).alloc o4).heap[w.heap.size+1]?=some o2∧((((w.alloc o1).alloc o2).alloc o3).alloc o4).heap[w.heap.size+2]?=some o3∧((((w.alloc o1).alloc o2).alloc o3).alloc o4).heap[w.heap.size+3]?=some o4∧((((w.alloc o1).alloc o2).alloc o3).alloc o4).heap.size=w.heap.size+4:=by
 obtain⟨h1,h2,h3,h4⟩:=aw w o1 o2 o3;refine⟨(zO _ _).at_ h1,(zO _ _).at_ h2,(zO _ _).at_ h3,?_,by simp⟩;have:=zS (((w.alloc o1).alloc o2).alloc o3) o4;rwa [h4]at this
def yG (M x y z qx qy:Nat):Nat×Nat×Nat:=if z=0 then(qx,qy,1)else let u1:=mm M z z;let u2:=mm M qx u1;let u3:=mm M u1 z;let u4:=mm M qy u3;let u5:=sm M u2 x;let u6:=sm M u4 y;let u7:=mm M u5 u5;let u8:=mm M u7 u5;let u9:=mm M x u7;let u10:=mm M u6 u6;let u11:=sm M u10 u8;let u12:=sm M u11 u9;let u13:=sm M u12 u9;let u14:=sm M u9 u13;let u15:=mm M u6 u14;let u16:=mm M y u8;let u17:=sm M u15 u16;let u18:=mm M z u5;if u5=0 then(if u6=0 then twP M x y z else(0,0,0))else(u13,u17,u18)
theorem zCL {C:Crv}{ccs:Array Value}{v:Value}{p:Nat×Nat×Nat}{B1 B2:Option Addr}{m1 m2 qx qy:Nat}(hF:C.Fine)(h8:8<C.M)(w:World)(hc:RC w C (.agg ccs))(hj:JN w C v p)(hq1:RU w B1 m1 (digs 4294967296 qx))(hq2:RU w B2 m2 (digs 4294967296 qy))(hqx:qx<C.M)(hqy:qy<C.M) :
 Calls Tryz.prog 42 #[.agg ccs,v,.agg #[.bool false,.slice B1 (digs 4294967296 qx).length m1,.slice B2 (digs 4294967296 qy).length m2]] w fun e w'=>∃ o,e=.returned o∧JN w' C o (yG C.M p.1 p.2.1 p.2.2 qx qy)∧Ext w w':=by
 obtain⟨A1,A2,A3,k1,k2,k3,rfl,hj1,hj2,hj3,hx,hy,hz⟩:=hj
 obtain⟨x,y,z⟩:=p
 simp only at hj1 hj2 hj3 hx hy hz ⊢
 obtain⟨Ap,An,Ab,Ax,Ay,cp,cn,cb,cx,cy,hccs,hP,hN,hB,hX1,hY1⟩:=hc
 injection hccs with hccs
 have hRC0:RC w C (.agg ccs):=⟨Ap,An,Ab,Ax,Ay,cp,cn,cb,cx,cy,by rw[hccs],hP,hN,hB,hX1,hY1⟩
 obtain⟨W0,hW0⟩:=eW ((((w.alloc (.cells ccs 30)).alloc (.cells #[.slice A1 (digs 4294967296 x).length k1,.slice A2 (digs 4294967296 y).length k2,.slice A3 (digs 4294967296 z).length k3] 78)).alloc (.cells #[.bool false,.slice B1 (digs 4294967296 qx).length m1,.slice B2 (digs 4294967296 qy).length m2] 45)).alloc (.cells #[.slice none 0 0,.slice none 0 0,.slice none 0 0] 78))
 obtain⟨q,hq⟩:=eV w.heap.size
 have hE0:Ext w W0:=by rw[hW0];exact(((zO _ _).trans (zO _ _)).trans (zO _ _)).trans (zO _ _)
 obtain⟨hcb,hjb,hqb,hrb,hz0⟩:=zD2 w (.cells ccs 30) (.cells #[.slice A1 (digs 4294967296 x).length k1,.slice A2 (digs 4294967296 y).length k2,.slice A3 (digs 4294967296 z).length k3] 78) (.cells #[.bool false,.slice B1 (digs 4294967296 qx).length m1,.slice B2 (digs 4294967296 qy).length m2] 45) (.cells #[.slice none 0 0,.slice none 0 0,.slice none 0 0] 78)
 rw[←hW0,hq]at hcb hjb hqb hrb hz0
 have j0:=zQ hjb 0
 have j1:=zQ hjb 1
 have j2:=zQ hjb 2
 have t1:=zQ hqb 1
 have t2:=zQ hqb 2
 have cP:=zQ hcb 0
 rw[hccs]at cP
 simp only[zR,zi,qo]at j0 j1 j2 t1 t2 cP
 have hRC:=zF (hRC0.ext hE0)
 have Hccs:=zF (show ccs.size=6 by rw[hccs];rfl)
 have HRP:=zF (zL hP hE0)
 have HX1:=zF (zL hj1 hE0)
 have HX2:=zF (zL hj2 hE0)
 have HX3:=zF (zL hj3 hE0)
 have HX4:=zF (zL hq1 hE0)
 have HX5:=zF (zL hq2 hE0)
 have HF:=zF hF
 have H8:=zF h8
 have hM0:0<C.M:=by omega
 have HE0:=zF hE0
 have Hz0:=zF hz0
 replace hx:=zF hx
 replace hy:=zF hy
 replace hz:=zF hz
 replace hqx:=zF hqx
 replace hqy:=zF hqy
 clear hRC0 hccs hP hN hB hX1 hY1 hj1 hj2 hj3 hF h8 hE0 hz0 hq1 hq2 hqb
 by_cases hz0:z=0
 · rw[show yG C.M x y z qx qy=(qx,qy,1) by rw[yG,qg hz0]];replace hz0:=zF hz0;go_enter Tryz.func42,Tryz.ntmps42;go_upto_region 1 with fail;rw[←hW0];have Hq:=zF hq;have HW0:=zF hW0;have hE:=zX W0;clear hq hW0
   refine zN 4 [0,1,3,7] [] (fun j f X=>match j with
    | 0=>f 0=.pointer (some ⟨q+1,2,none⟩)
    | 1=>f 1=.slice A3 (digs 4294967296 z).length k3
    | 2=>f 2=.int .i64 ((digs 4294967296 z).length:Int)
    | 3=>f 3=.bool true
    | _=>True) (by kernel_rfl) [(17,0),(18,1),(19,2),(20,3)] (by kernel_rfl) ?_
   refine zJ 1 3 ?_;refine qK 2 2 0 (hE.cell j2) ?_;refine zt 3 1 [(17,0),(18,1)] (fun f X hX hR K hK=>?_) ?_
   · have e1:f 1=_:=hR.out 1 rfl;simp only[yZ,e1];refine⟨?_⟩;go_simp;exact qd hK (s:=by simp only[yZ,e1])
   refine zt 4 0 [(17,0),(18,1),(19,2)] (fun f X hX hR K hK=>?_) ?_
   · have e2:f 2=_:=hR.out 2 rfl;have hz1:decide (((digs 4294967296 z).length:Int)=0)=true:=xQ hz0.out;have hz2:decide ((digs 4294967296 z).length=0)=true:=xP hz0.out;have hz4:((((digs 4294967296 z).length:Nat):Int)==0)=true:=xR hz0.out;simp only[yZ,e2];refine⟨?_⟩;go_simp;exact qd hK (s:=by simp only[yZ,e2])
   refine yF ⟨fun f X hX hR hal hap=>?_⟩;have e3:f 3=_:=hR 3 (by decide);simp only[yZ,e3];clear hR hal hap e3;refine zH ?_;replace hE:=hE.trans hX;clear hX  ;rename World=>X1_k;have hb1:=hE.at_ hrb;go_upto_region 2 with fail
   refine zh (by kernel_rfl) 6 [0,1,0,4,0,31,63] [] (fun j f X=>match j with
    | 0=>f 0=.pointer (some ⟨q+2,1,none⟩)
    | 1=>f 1=.slice B1 (digs 4294967296 qx).length m1
    | 2=>f 2=.pointer (some ⟨q+2,2,none⟩)
    | 3=>f 3=.slice B2 (digs 4294967296 qy).length m2
    | 4=>∃ A1 c1,f 4=.slice A1 (digs 4294967296 1).length c1∧RU X A1 c1 (digs 4294967296 1)
    | 5=>∃ A c,f 5=.agg #[.slice B1 (digs 4294967296 qx).length m1,.slice B2 (digs 4294967296 qy).length m2,.slice A (digs 4294967296 1).length c]∧RU X A c (digs 4294967296 1)
    | _=>True) (by kernel_rfl) [(21,0),(22,1),(23,2),(24,3),(25,4),(26,5)] (by kernel_rfl) ?_
   refine zJ 1 5 ?_;refine qK 2 4 0 (hE.cell t1) ?_;refine zJ 3 3 ?_;refine qK 4 2 2 (hE.cell t2) ?_;refine qI 5 1 (fun _=>#[Value.int IntKind.u64 1]) (F':=48) (fun f X hX hR=>?_) ?_
   · refine(zAi 1 X (by omega)).mono ?_;rintro e w2 ⟨A1,c1,rfl,hO,hB⟩;exact⟨_,rfl,hB,fun Y hY=>⟨A1,c1,rfl,zL hO hY⟩⟩
   refine zt 6 0 [(21,0),(22,1),(23,2),(24,3),(25,4)] (fun f X hX hR K hK=>?_) ?_
   · have e1:f 1=_:=hR.out 1 rfl;have e3:f 3=_:=hR.out 3 rfl;obtain⟨A2_4,c2_4,(e4:f 4=_),o2_4⟩:=hR.out 4 rfl;simp only[yZ,e1,e3,e4];refine⟨?_⟩;go_simp;exact hK.out _ _ _ (by simp only[yZ,e1,e3,e4]) (zX _) trivial (fun Y hY=>⟨_,_,rfl,zL o2_4 hY⟩)
   refine yF ⟨fun f X hX hR hal hap=>?_⟩;obtain⟨A2_4,c2_4,(e4:f 4=_),o2_4⟩:=hR 4 (by decide);obtain⟨Az,cz,(e5:f 5=_),oz⟩:=hR 5 (by decide);simp only[yZ,e4,e5];clear hR hal hap e4 e5;refine zP (fun K hK=>⟨zU (by kernel_rfl) (jJ (cs':=#[.slice B1 (digs 4294967296 qx).length m1,.slice B2 (digs 4294967296 qy).length m2,.slice Az (digs 4294967296 1).length cz]) (t:=78) 78 (.tmp 6) (.tmp 26) rfl rfl rfl rfl (hX.at_ hb1) uD rfl (fu _ _ _ _ _ _ _ _ _) (fun Y hY1 hY2 hY3=>hK.out _ _ ?_))⟩);refine zH ?_;go_wp2;exact gu rfl rfl rfl hY1 ⟨_,rfl,⟨_,_,_,_,_,_,rfl,(zL HX4.out (hE.trans hX)).offJ hY2 (hX.at_ hb1) (by kernel_rfl),(zL HX5.out (hE.trans hX)).offJ hY2 (hX.at_ hb1) (by kernel_rfl),oz.offJ hY2 (hX.at_ hb1) (by kernel_rfl),hqx.out,hqy.out,(show 1<C.M by have:=H8.out;omega)⟩,hY2.ext (HE0.out.trans (hE.trans hX)) (by have:=Hq.out;omega)⟩
 obtain⟨u1,dN⟩:=eV (mm C.M z z)
 have L_u1:=zF (show u1<C.M by rw[←dN];exact kR hM0 _ _)
 have E_u1:=zF dN
 clear dN
 obtain⟨u2,dM⟩:=eV (mm C.M qx u1)
 have L_u2:=zF (show u2<C.M by rw[←dM];exact kR hM0 _ _)
 have E_u2:=zF dM
 clear dM
 obtain⟨u3,e_u3⟩:=eV (mm C.M u1 z)
 have L_u3:=zF (show u3<C.M by rw[←e_u3];exact kR hM0 _ _)
 have E_u3:=zF e_u3
 clear e_u3
 obtain⟨u4,e_u4⟩:=eV (mm C.M qy u3)
 have L_u4:=zF (show u4<C.M by rw[←e_u4];exact kR hM0 _ _)
 have E_u4:=zF e_u4
 clear e_u4
 obtain⟨u5,e_u5⟩:=eV (sm C.M u2 x)
 have L_u5:=zF (show u5<C.M by rw[←e_u5];exact x8 hM0 _ _)
 have E_u5:=zF e_u5
 clear e_u5
 obtain⟨u6,e_u6⟩:=eV (sm C.M u4 y)
 have L_u6:=zF (show u6<C.M by rw[←e_u6];exact x8 hM0 _ _)
 have E_u6:=zF e_u6
 clear e_u6
 obtain⟨u7,e_u7⟩:=eV (mm C.M u5 u5)
 have L_u7:=zF (show u7<C.M by rw[←e_u7];exact kR hM0 _ _)
 have E_u7:=zF e_u7
 clear e_u7
 obtain⟨u8,e_u8⟩:=eV (mm C.M u7 u5)
 have L_u8:=zF (show u8<C.M by rw[←e_u8];exact kR hM0 _ _)
 have E_u8:=zF e_u8
 clear e_u8
 obtain⟨u9,e_u9⟩:=eV (mm C.M x u7)
 have L_u9:=zF (show u9<C.M by rw[←e_u9];exact kR hM0 _ _)
 have E_u9:=zF e_u9
 clear e_u9
 obtain⟨u10,e_u10⟩:=eV (mm C.M u6 u6)
 have L_u10:=zF (show u10<C.M by rw[←e_u10];exact kR hM0 _ _)
 have E_u10:=zF e_u10
 clear e_u10
 obtain⟨u11,e_u11⟩:=eV (sm C.M u10 u8)
 have L_u11:=zF (show u11<C.M by rw[←e_u11];exact x8 hM0 _ _)
 have E_u11:=zF e_u11
 clear e_u11
 obtain⟨u12,e_u12⟩:=eV (sm C.M u11 u9)
 have L_u12:=zF (show u12<C.M by rw[←e_u12];exact x8 hM0 _ _)
 have E_u12:=zF e_u12
 clear e_u12
 obtain⟨u13,e_u13⟩:=eV (sm C.M u12 u9)
 have L_u13:=zF (show u13<C.M by rw[←e_u13];exact x8 hM0 _ _)
 have E_u13:=zF e_u13
 clear e_u13
 obtain⟨u14,e_u14⟩:=eV (sm C.M u9 u13)
 have L_u14:=zF (show u14<C.M by rw[←e_u14];exact x8 hM0 _ _)
 have E_u14:=zF e_u14
 clear e_u14
 obtain⟨u15,e_u15⟩:=eV (mm C.M u6 u14)
 have L_u15:=zF (show u15<C.M by rw[←e_u15];exact kR hM0 _ _)
 have E_u15:=zF e_u15
 clear e_u15
 obtain⟨u16,e_u16⟩:=eV (mm C.M y u8)
 have L_u16:=zF (show u16<C.M by rw[←e_u16];exact kR hM0 _ _)
 have E_u16:=zF e_u16
 clear e_u16
 obtain⟨u17,e_u17⟩:=eV (sm C.M u15 u16)
 have L_u17:=zF (show u17<C.M by rw[←e_u17];exact x8 hM0 _ _)
 have E_u17:=zF e_u17
 clear e_u17
 obtain⟨u18,e_u18⟩:=eV (mm C.M z u5)
 have L_u18:=zF (show u18<C.M by rw[←e_u18];exact kR hM0 _ _)
 have E_u18:=zF e_u18
 clear e_u18
 obtain⟨res,hres0⟩:=eV (yG C.M x y z qx qy)
 have hres:=zF (show res=if u5=0 then(if u6=0 then twP C.M x y z else(0,0,0))else(u13,u17,u18) by rw[←hres0,yG,ql hz0];simp only[E_u1.out,E_u2.out,E_u3.out,E_u4.out,E_u5.out,E_u6.out,E_u7.out,E_u8.out,E_u9.out,E_u10.out,E_u11.out,E_u12.out,E_u13.out,E_u14.out,E_u15.out,E_u16.out,E_u17.out,E_u18.out])
 rw[hres0]
 clear hres0
 replace hz0:=zF hz0
 go_enter Tryz.func42,Tryz.ntmps42
 go_upto_region 1 with fail
 rw[←hW0]
 have Hq:=zF hq
 have HW0:=zF hW0
 have hE:=zX W0
 clear hq hW0
 refine zN 4 [0,1,3,7] [] (fun j f X=>match j with
  | 0=>f 0=.pointer (some ⟨q+1,2,none⟩)
  | 1=>f 1=.slice A3 (digs 4294967296 z).length k3
  | 2=>f 2=.int .i64 ((digs 4294967296 z).length:Int)
  | 3=>f 3=.bool false
  | _=>True) (by kernel_rfl) [(17,0),(18,1),(19,2),(20,3)] (by kernel_rfl) ?_
 refine zJ 1 3 ?_
 refine qK 2 2 0 (hE.cell j2) ?_
 refine zt 3 1 [(17,0),(18,1)] (fun f X hX hR K hK=>?_) ?_
 · have e1:f 1=_:=hR.out 1 rfl;simp only[yZ,e1];refine⟨?_⟩;go_simp;exact qd hK (s:=by simp only[yZ,e1])
 refine zt 4 0 [(17,0),(18,1),(19,2)] (fun f X hX hR K hK=>?_) ?_
 · have e2:f 2=_:=hR.out 2 rfl;have hz1:decide (((digs 4294967296 z).length:Int)=0)=false:=wS hz0.out;have hz2:decide ((digs 4294967296 z).length=0)=false:=wR hz0.out;have hz4:((((digs 4294967296 z).length:Nat):Int)==0)=false:=wT hz0.out;simp only[yZ,e2];refine⟨?_⟩;go_simp;exact qd hK (s:=by simp only[yZ,e2])
 refine yF ⟨fun f X hX hR hal hap=>?_⟩
 have e3:f 3=_:=hR 3 (by decide)
 simp only[yZ,e3]
 clear hR hal hap e3
 refine zH ?_
 replace hE:=hE.trans hX
 clear hX  
 rename World=>X1_k
 go_upto_region 3 with fail
 refine zN 7 [0,0,2,0,8,31,63] [] (fun j f X=>match j with
  | 0=>f 0=.agg ccs
  | 1=>f 1=.pointer (some ⟨q+1,2,none⟩)
  | 2=>f 2=.slice A3 (digs 4294967296 z).length k3
  | 3=>f 3=.pointer (some ⟨q+1,2,none⟩)
  | 4=>f 4=.slice A3 (digs 4294967296 z).length k3
  | 5=>∃ A1 c1,f 5=.slice A1 (digs 4294967296 u1).length c1∧RU X A1 c1 (digs 4294967296 u1)
  | 6=>∃ A1 c1,f 6=.slice A1 (digs 4294967296 u1).length c1∧RU X A1 c1 (digs 4294967296 u1)
  | _=>True) (by kernel_rfl) [(27,0),(28,1),(29,2),(30,3),(31,4),(32,5),(7,6)] (by kernel_rfl) ?_
 refine lV0 1 6 (hE.at_ hcb) (by rw[Hccs.out];exact qp) ?_
 refine zJ 2 5 ?_
 refine qK 3 4 1 (hE.cell j2) ?_
 refine zJ 4 3 ?_
 refine qK 5 2 3 (hE.cell j2) ?_
 refine rc 6 1 0 2 4 (fun _ _ hX h=>⟨_,_,h,(zL HX3.out (hE.trans hX))⟩) (fun _ _ hX h=>⟨_,_,h,(zL HX3.out (hE.trans hX))⟩) (fun X hX _ _ _ _ h h'=>jg X HF.out (hRC.out.ext (hE.trans hX)) h h' hz.out hz.out) E_u1.out ?_
 refine zt 7 0 [(27,0),(28,1),(29,2),(30,3),(31,4),(32,5)] (fun f X hX hR K hK=>?_) ?_
 · obtain⟨A3_5,c3_5,(e5:f 5=_),o3_5⟩:=hR.out 5 rfl;simp only[yZ,e5];refine⟨?_⟩;go_simp;exact hK.out _ _ _ (by simp only[yZ,e5]) (zX _) trivial (fun Y hY=>⟨A3_5,c3_5,rfl,zL o3_5 hY⟩)
 refine yF ⟨fun f X hX hR hal hap=>?_⟩
 obtain⟨A3_5,c3_5,(e5:f 5=_),o3_5⟩:=hR 5 (by decide)
 obtain⟨A3_6,c3_6,(e6:f 6=_),o3_6⟩:=hR 6 (by decide)
 simp only[yZ,e5,e6]
 clear hR hal hap e5 e6
 refine zH ?_
 replace hE:=hE.trans hX
 have N7:=zF o3_6
 clear hX o3_5 o3_6 
 rename World=>X3_k
 go_upto_region 4 with fail
 refine zN 6 [0,0,2,0,15,31] [] (fun j f X=>match j with
  | 0=>f 0=.agg ccs
  | 1=>f 1=.pointer (some ⟨q+2,1,none⟩)
  | 2=>f 2=.slice B1 (digs 4294967296 qx).length m1
  | 3=>f 3=.slice A3_6 (digs 4294967296 u1).length c3_6
  | 4=>∃ A1 c1,f 4=.slice A1 (digs 4294967296 u2).length c1∧RU X A1 c1 (digs 4294967296 u2)
  | 5=>∃ A1 c1,f 5=.slice A1 (digs 4294967296 u2).length c1∧RU X A1 c1 (digs 4294967296 u2)
  | _=>True) (by kernel_rfl) [(33,0),(34,1),(35,2),(36,3),(37,4),(8,5)] (by kernel_rfl) ?_
 refine lV0 1 5 (hE.at_ hcb) (by rw[Hccs.out];exact qp) ?_
 refine zJ 2 4 ?_
 refine qK 3 3 1 (hE.cell t1) ?_
 refine zJ 4 2 ?_
 refine rc 5 1 0 2 3 (fun _ _ hX h=>⟨_,_,h,(zL HX4.out (hE.trans hX))⟩) (fun _ _ hX h=>⟨_,_,h,(zL N7.out hX)⟩) (fun X hX _ _ _ _ h h'=>jg X HF.out (hRC.out.ext (hE.trans hX)) h h' hqx.out L_u1.out) E_u2.out ?_
 refine zt 6 0 [(33,0),(34,1),(35,2),(36,3),(37,4)] (fun f X hX hR K hK=>?_) ?_
 · obtain⟨A4_4,c4_4,(e4:f 4=_),o4_4⟩:=hR.out 4 rfl;simp only[yZ,e4];refine⟨?_⟩;go_simp;exact hK.out _ _ _ (by simp only[yZ,e4]) (zX _) trivial (fun Y hY=>⟨A4_4,c4_4,rfl,zL o4_4 hY⟩)
 refine yF ⟨fun f X hX hR hal hap=>?_⟩
 obtain⟨A4_4,c4_4,(e4:f 4=_),o4_4⟩:=hR 4 (by decide)
 obtain⟨A4_5,c4_5,(e5:f 5=_),o4_5⟩:=hR 5 (by decide)
 simp only[yZ,e4,e5]
 clear hR hal hap e4 e5
 refine zH ?_
 replace hE:=hE.trans hX
 replace N7:=zF (zL N7.out hX)
 have N8:=zF o4_5
 clear hX o4_4 o4_5
 rename World=>X4_k
 go_upto_region 5 with fail
 refine zh (by kernel_rfl) 10 [0,0,2,0,0,0,32,120,255,511] [] (fun j f X=>match j with
  | 0=>f 0=.agg ccs
  | 1=>f 1=.pointer (some ⟨q+2,2,none⟩)
  | 2=>f 2=.slice B2 (digs 4294967296 qy).length m2
  | 3=>f 3=.agg ccs
  | 4=>f 4=.slice A3_6 (digs 4294967296 u1).length c3_6
  | 5=>f 5=.pointer (some ⟨q+1,2,none⟩)
  | 6=>f 6=.slice A3 (digs 4294967296 z).length k3
  | 7=>∃ A1 c1,f 7=.slice A1 (digs 4294967296 u3).length c1∧RU X A1 c1 (digs 4294967296 u3)
  | 8=>∃ A1 c1,f 8=.slice A1 (digs 4294967296 u4).length c1∧RU X A1 c1 (digs 4294967296 u4)
  | 9=>∃ A1 c1,f 9=.slice A1 (digs 4294967296 u4).length c1∧RU X A1 c1 (digs 4294967296 u4)
  | _=>True) (by kernel_rfl) [(38,0),(39,1),(40,2),(41,3),(42,4),(43,5),(44,6),(45,7),(46,8),(9,9)] (by kernel_rfl) ?_
 refine lV0 1 9 (hE.at_ hcb) (by rw[Hccs.out];exact qp) ?_
 refine zJ 2 8 ?_
 refine qK 3 7 1 (hE.cell t2) ?_
 refine lV0 4 6 (hE.at_ hcb) (by rw[Hccs.out];exact qp) ?_
 refine zJ 5 5 ?_
 refine zJ 6 4 ?_
 refine qK 7 3 5 (hE.cell j2) ?_
 refine rc 8 2 3 4 6 (fun _ _ hX h=>⟨_,_,h,(zL N7.out hX)⟩) (fun _ _ hX h=>⟨_,_,h,(zL HX3.out (hE.trans hX))⟩) (fun X hX _ _ _ _ h h'=>jg X HF.out (hRC.out.ext (hE.trans hX)) h h' L_u1.out hz.out) E_u3.out ?_
 refine rc 9 1 0 2 7 (fun _ _ hX h=>⟨_,_,h,(zL HX5.out (hE.trans hX))⟩) (fun _ _ _ h=>h) (fun X hX _ _ _ _ h h'=>jg X HF.out (hRC.out.ext (hE.trans hX)) h h' hqy.out L_u3.out) E_u4.out ?_
 refine zt 10 0 [(38,0),(39,1),(40,2),(41,3),(42,4),(43,5),(44,6),(45,7),(46,8)] (fun f X hX hR K hK=>?_) ?_
 · obtain⟨A5_8,c5_8,(e8:f 8=_),o5_8⟩:=hR.out 8 rfl;simp only[yZ,e8];refine⟨?_⟩;go_simp;exact hK.out _ _ _ (by simp only[yZ,e8]) (zX _) trivial (fun Y hY=>⟨A5_8,c5_8,rfl,zL o5_8 hY⟩)
 refine yF ⟨fun f X hX hR hal hap=>?_⟩
 obtain⟨A5_7,c5_7,(e7:f 7=_),o5_7⟩:=hR 7 (by decide)
 obtain⟨A5_8,c5_8,(e8:f 8=_),o5_8⟩:=hR 8 (by decide)
 obtain⟨A5_9,c5_9,(e9:f 9=_),o5_9⟩:=hR 9 (by decide)
 simp only[yZ,e7,e8,e9]
 clear hR hal hap e7 e8 e9
 refine zH ?_
 replace hE:=hE.trans hX
 replace N7:=zF (zL N7.out hX)
 replace N8:=zF (zL N8.out hX)
 have N9:=zF o5_9
 clear hX o5_7 o5_8 o5_9
 rename World=>X5_k
 go_upto_region 6 with fail
 refine zN 6 [0,0,0,4,15,31] [] (fun j f X=>match j with
  | 0=>f 0=.agg ccs
  | 1=>f 1=.slice A4_5 (digs 4294967296 u2).length c4_5
  | 2=>f 2=.pointer (some ⟨q+1,0,none⟩)
  | 3=>f 3=.slice A1 (digs 4294967296 x).length k1
  | 4=>∃ A1 c1,f 4=.slice A1 (digs 4294967296 u5).length c1∧RU X A1 c1 (digs 4294967296 u5)
  | 5=>∃ A1 c1,f 5=.slice A1 (digs 4294967296 u5).length c1∧RU X A1 c1 (digs 4294967296 u5)
  | _=>True) (by kernel_rfl) [(47,0),(48,1),(49,2),(50,3),(51,4),(10,5)] (by kernel_rfl) ?_
 refine lV0 1 5 (hE.at_ hcb) (by rw[Hccs.out];exact qp) ?_
 refine zJ 2 4 ?_
 refine zJ 3 3 ?_
 refine qK 4 2 2 (hE.cell j0) ?_
 refine rc 5 1 0 1 3 (fun _ _ hX h=>⟨_,_,h,(zL N8.out hX)⟩) (fun _ _ hX h=>⟨_,_,h,(zL HX1.out (hE.trans hX))⟩) (fun X hX _ _ _ _ h h'=>wN X HF.out (hRC.out.ext (hE.trans hX)) h h' L_u2.out hx.out) E_u5.out ?_
 refine zt 6 0 [(47,0),(48,1),(49,2),(50,3),(51,4)] (fun f X hX hR K hK=>?_) ?_
 · obtain⟨A6_4,c6_4,(e4:f 4=_),o6_4⟩:=hR.out 4 rfl;simp only[yZ,e4];refine⟨?_⟩;go_simp;exact hK.out _ _ _ (by simp only[yZ,e4]) (zX _) trivial (fun Y hY=>⟨A6_4,c6_4,rfl,zL o6_4 hY⟩)
 refine yF ⟨fun f X hX hR hal hap=>?_⟩
 obtain⟨A6_4,c6_4,(e4:f 4=_),o6_4⟩:=hR 4 (by decide)
 obtain⟨A6_5,c6_5,(e5:f 5=_),o6_5⟩:=hR 5 (by decide)
 simp only[yZ,e4,e5]
 clear hR hal hap e4 e5
 refine zH ?_
 replace hE:=hE.trans hX
 replace N7:=zF (zL N7.out hX)
 replace N8:=zF (zL N8.out hX)
 replace N9:=zF (zL N9.out hX)
 have N10:=zF o6_5
 clear hX o6_4 o6_5
 rename World=>X6_k
 go_upto_region 7 with fail
 refine zN 6 [0,0,0,4,15,31] [] (fun j f X=>match j with
  | 0=>f 0=.agg ccs
  | 1=>f 1=.slice A5_9 (digs 4294967296 u4).length c5_9
  | 2=>f 2=.pointer (some ⟨q+1,1,none⟩)
  | 3=>f 3=.slice A2 (digs 4294967296 y).length k2
  | 4=>∃ A1 c1,f 4=.slice A1 (digs 4294967296 u6).length c1∧RU X A1 c1 (digs 4294967296 u6)
  | 5=>∃ A1 c1,f 5=.slice A1 (digs 4294967296 u6).length c1∧RU X A1 c1 (digs 4294967296 u6)
  | _=>True) (by kernel_rfl) [(52,0),(53,1),(54,2),(55,3),(56,4),(11,5)] (by kernel_rfl) ?_
 refine lV0 1 5 (hE.at_ hcb) (by rw[Hccs.out];exact qp) ?_
 refine zJ 2 4 ?_
 refine zJ 3 3 ?_
 refine qK 4 2 2 (hE.cell j1) ?_
 refine rc 5 1 0 1 3 (fun _ _ hX h=>⟨_,_,h,(zL N9.out hX)⟩) (fun _ _ hX h=>⟨_,_,h,(zL HX2.out (hE.trans hX))⟩) (fun X hX _ _ _ _ h h'=>wN X HF.out (hRC.out.ext (hE.trans hX)) h h' L_u4.out hy.out) E_u6.out ?_
 refine zt 6 0 [(52,0),(53,1),(54,2),(55,3),(56,4)] (fun f X hX hR K hK=>?_) ?_
 · obtain⟨A7_4,c7_4,(e4:f 4=_),o7_4⟩:=hR.out 4 rfl;simp only[yZ,e4];refine⟨?_⟩;go_simp;exact hK.out _ _ _ (by simp only[yZ,e4]) (zX _) trivial (fun Y hY=>⟨A7_4,c7_4,rfl,zL o7_4 hY⟩)
 refine yF ⟨fun f X hX hR hal hap=>?_⟩
 obtain⟨A7_4,c7_4,(e4:f 4=_),o7_4⟩:=hR 4 (by decide)
 obtain⟨A7_5,c7_5,(e5:f 5=_),o7_5⟩:=hR 5 (by decide)
 simp only[yZ,e4,e5]
 clear hR hal hap e4 e5
 refine zH ?_
 replace hE:=hE.trans hX
 replace N7:=zF (zL N7.out hX)
 replace N8:=zF (zL N8.out hX)
 replace N9:=zF (zL N9.out hX)
 replace N10:=zF (zL N10.out hX)
 have N11:=zF o7_5
 clear hX o7_4 o7_5
 rename World=>X7_k
 by_cases hh0:u5=0
 · by_cases hr0:u6=0
   · obtain rfl:res=twP C.M x y z:=by rw[hres.out,qg hh0,qg hr0]
     replace hh0:=zF hh0;replace hr0:=zF hr0;go_upto_region 8 with fail
     refine zN 3 [0,1,3] [] (fun j f X=>match j with
      | 0=>f 0=.slice A6_5 (digs 4294967296 u5).length c6_5
      | 1=>f 1=.int .i64 ((digs 4294967296 u5).length:Int)
      | 2=>f 2=.bool true
      | _=>True) (by kernel_rfl) [(57,0),(58,1),(59,2)] (by kernel_rfl) ?_
     refine zJ 1 2 ?_;refine zt 2 1 [(57,0)] (fun f X hX hR K hK=>?_) ?_
     · have e0:f 0=_:=hR.out 0 rfl;simp only[yZ,e0];refine⟨?_⟩;go_simp;exact qd hK (s:=by simp only[yZ,e0])
     refine zt 3 0 [(57,0),(58,1)] (fun f X hX hR K hK=>?_) ?_
     · have e1:f 1=_:=hR.out 1 rfl;have hz1:decide (((digs 4294967296 u5).length:Int)=0)=true:=xQ hh0.out;have hz2:decide ((digs 4294967296 u5).length=0)=true:=xP hh0.out;have hz4:((((digs 4294967296 u5).length:Nat):Int)==0)=true:=xR hh0.out;simp only[yZ,e1];refine⟨?_⟩;go_simp;exact qd hK (s:=by simp only[yZ,e1])
     refine yF ⟨fun f X hX hR hal hap=>?_⟩;have e2:f 2=_:=hR 2 (by decide);simp only[yZ,e2];clear hR hal hap e2;refine zH ?_;replace hE:=hE.trans hX;replace N7:=zF (zL N7.out hX);replace N8:=zF (zL N8.out hX);replace N9:=zF (zL N9.out hX);replace N10:=zF (zL N10.out hX);replace N11:=zF (zL N11.out hX);clear hX;rename World=>X8_k;go_upto_region 9 with fail
     refine zN 3 [0,1,3] [] (fun j f X=>match j with
      | 0=>f 0=.slice A7_5 (digs 4294967296 u6).length c7_5
      | 1=>f 1=.int .i64 ((digs 4294967296 u6).length:Int)
      | 2=>f 2=.bool true
      | _=>True) (by kernel_rfl) [(60,0),(61,1),(62,2)] (by kernel_rfl) ?_
     refine zJ 1 2 ?_;refine zt 2 1 [(60,0)] (fun f X hX hR K hK=>?_) ?_
     · have e0:f 0=_:=hR.out 0 rfl;simp only[yZ,e0];refine⟨?_⟩;go_simp;exact qd hK (s:=by simp only[yZ,e0])
     refine zt 3 0 [(60,0),(61,1)] (fun f X hX hR K hK=>?_) ?_
     · have e1:f 1=_:=hR.out 1 rfl;have hz1:decide (((digs 4294967296 u6).length:Int)=0)=true:=xQ hr0.out;have hz2:decide ((digs 4294967296 u6).length=0)=true:=xP hr0.out;have hz4:((((digs 4294967296 u6).length:Nat):Int)==0)=true:=xR hr0.out;simp only[yZ,e1];refine⟨?_⟩;go_simp;exact qd hK (s:=by simp only[yZ,e1])
     refine yF ⟨fun f X hX hR hal hap=>?_⟩;have e2:f 2=_:=hR 2 (by decide);simp only[yZ,e2];clear hR hal hap e2;refine zH ?_;replace hE:=hE.trans hX;replace N7:=zF (zL N7.out hX);replace N8:=zF (zL N8.out hX);replace N9:=zF (zL N9.out hX);replace N10:=zF (zL N10.out hX);replace N11:=zF (zL N11.out hX);clear hX;rename World=>X9_k;have hb1:=hE.at_ hrb;go_upto_region 10 with fail
     refine zN 3 [0,0,3,7] [] (fun j f X=>match j with
      | 0=>f 0=.agg ccs
      | 1=>f 1=.agg #[.slice A1 (digs 4294967296 x).length k1,.slice A2 (digs 4294967296 y).length k2,.slice A3 (digs 4294967296 z).length k3]
      | 2=>∃ o,f 2=o∧JN X C o (twP C.M x y z)
      | _=>True) (by kernel_rfl) [(63,0),(64,1),(65,2)] (by kernel_rfl) ?_
     refine lV0 1 2 (hE.at_ hcb) (by rw[Hccs.out];exact qp) ?_;refine lV0 2 1 (hE.at_ hjb) uD ?_;refine qI 3 0 (fun f=>#[f 0,f 1]) (F':=40) (fun f X hX hR=>?_) ?_
     · have e0:f 0=_:=hR.out 0 rfl;have e1:f 1=_:=hR.out 1 rfl;simp only[e0,e1];refine(rE (p:=(x,y,z)) HF.out H8.out X (hRC.out.ext (hE.trans hX)) ⟨A1,A2,A3,k1,k2,k3,rfl,zL HX1.out (hE.trans hX),zL HX2.out (hE.trans hX),zL HX3.out (hE.trans hX),hx.out,hy.out,hz.out⟩).mono ?_;rintro e w2 ⟨o,rfl,hj,hB⟩;exact⟨o,rfl,hB,fun Y hY=>⟨_,rfl,hj.ext hY⟩⟩
     refine yF ⟨fun f X hX hR hal hap=>?_⟩;obtain⟨vo,(e2:f 2=_),jo⟩:=hR 2 (by decide);simp only[yZ,e2];clear hR hal hap e2;obtain⟨D1,D2,D3,d1,d2,d3,ev,g1,g2,g3,g4,g5,g6⟩:=jo;subst ev;refine zP (fun K hK=>⟨zU (by kernel_rfl) (jJ (cs':=#[.slice D1 (digs 4294967296 (twP C.M x y z).1).length d1,.slice D2 (digs 4294967296 (twP C.M x y z).2.1).length d2,.slice D3 (digs 4294967296 (twP C.M x y z).2.2).length d3]) (t:=78) 78 (.tmp 6) (.tmp 65) rfl rfl rfl rfl (hX.at_ hb1) uD rfl (fu _ _ _ _ _ _ _ _ _) (fun Y hY1 hY2 hY3=>hK.out _ _ ?_))⟩);refine zH ?_;go_wp2;exact gu rfl rfl rfl hY1 ⟨_,rfl,⟨_,_,_,_,_,_,rfl,g1.offJ hY2 (hX.at_ hb1) (by kernel_rfl),g2.offJ hY2 (hX.at_ hb1) (by kernel_rfl),g3.offJ hY2 (hX.at_ hb1) (by kernel_rfl),g4,g5,g6⟩,hY2.ext (HE0.out.trans (hE.trans hX)) (by have:=Hq.out;omega)⟩
   · obtain rfl:res=(0,0,0):=by rw[hres.out,qg hh0,ql hr0]
     replace hh0:=zF hh0;replace hr0:=zF hr0;go_upto_region 8 with fail
     refine zN 3 [0,1,3] [] (fun j f X=>match j with
      | 0=>f 0=.slice A6_5 (digs 4294967296 u5).length c6_5
      | 1=>f 1=.int .i64 ((digs 4294967296 u5).length:Int)
      | 2=>f 2=.bool true
      | _=>True) (by kernel_rfl) [(57,0),(58,1),(59,2)] (by kernel_rfl) ?_
     refine zJ 1 2 ?_;refine zt 2 1 [(57,0)] (fun f X hX hR K hK=>?_) ?_
     · have e0:f 0=_:=hR.out 0 rfl;simp only[yZ,e0];refine⟨?_⟩;go_simp;exact qd hK (s:=by simp only[yZ,e0])
     refine zt 3 0 [(57,0),(58,1)] (fun f X hX hR K hK=>?_) ?_
     · have e1:f 1=_:=hR.out 1 rfl;have hz1:decide (((digs 4294967296 u5).length:Int)=0)=true:=xQ hh0.out;have hz2:decide ((digs 4294967296 u5).length=0)=true:=xP hh0.out;have hz4:((((digs 4294967296 u5).length:Nat):Int)==0)=true:=xR hh0.out;simp only[yZ,e1];refine⟨?_⟩;go_simp;exact qd hK (s:=by simp only[yZ,e1])
     refine yF ⟨fun f X hX hR hal hap=>?_⟩;have e2:f 2=_:=hR 2 (by decide);simp only[yZ,e2];clear hR hal hap e2;refine zH ?_;replace hE:=hE.trans hX;replace N7:=zF (zL N7.out hX);replace N8:=zF (zL N8.out hX);replace N9:=zF (zL N9.out hX);replace N10:=zF (zL N10.out hX);replace N11:=zF (zL N11.out hX);clear hX;rename World=>X8_k;go_upto_region 9 with fail
     refine zN 3 [0,1,3] [] (fun j f X=>match j with
      | 0=>f 0=.slice A7_5 (digs 4294967296 u6).length c7_5
      | 1=>f 1=.int .i64 ((digs 4294967296 u6).length:Int)
      | 2=>f 2=.bool false
      | _=>True) (by kernel_rfl) [(60,0),(61,1),(62,2)] (by kernel_rfl) ?_
     refine zJ 1 2 ?_;refine zt 2 1 [(60,0)] (fun f X hX hR K hK=>?_) ?_
     · have e0:f 0=_:=hR.out 0 rfl;simp only[yZ,e0];refine⟨?_⟩;go_simp;exact qd hK (s:=by simp only[yZ,e0])
     refine zt 3 0 [(60,0),(61,1)] (fun f X hX hR K hK=>?_) ?_
     · have e1:f 1=_:=hR.out 1 rfl;have hz1:decide (((digs 4294967296 u6).length:Int)=0)=false:=wS hr0.out;have hz2:decide ((digs 4294967296 u6).length=0)=false:=wR hr0.out;have hz4:((((digs 4294967296 u6).length:Nat):Int)==0)=false:=wT hr0.out;simp only[yZ,e1];refine⟨?_⟩;go_simp;exact qd hK (s:=by simp only[yZ,e1])
     refine yF ⟨fun f X hX hR hal hap=>?_⟩;have e2:f 2=_:=hR 2 (by decide);simp only[yZ,e2];clear hR hal hap e2;refine zH ?_;replace hE:=hE.trans hX;replace N7:=zF (zL N7.out hX);replace N8:=zF (zL N8.out hX);replace N9:=zF (zL N9.out hX);replace N10:=zF (zL N10.out hX);replace N11:=zF (zL N11.out hX);clear hX;rename World=>X9_k;have hb1:=hE.at_ hrb;obtain⟨z0,z1,z2,f0,f1,f2⟩:=jG hb1;go_wp2;exact gu rfl rfl rfl (xW hb1 _ _ _) ⟨_,rfl,⟨none,none,none,0,0,0,by rw[qV];rfl,RN.nil0 _,RN.nil0 _,RN.nil0 _,hM0,hM0,hM0⟩,xq (HE0.out.trans hE) (by have:=Hq.out;omega) _ _ _⟩
 · obtain rfl:res=(u13,u17,u18):=by rw[hres.out,ql hh0]
   replace hh0:=zF hh0;go_upto_region 8 with fail
   refine zN 3 [0,1,3] [] (fun j f X=>match j with
    | 0=>f 0=.slice A6_5 (digs 4294967296 u5).length c6_5
    | 1=>f 1=.int .i64 ((digs 4294967296 u5).length:Int)
    | 2=>f 2=.bool false
    | _=>True) (by kernel_rfl) [(57,0),(58,1),(59,2)] (by kernel_rfl) ?_
   refine zJ 1 2 ?_;refine zt 2 1 [(57,0)] (fun f X hX hR K hK=>?_) ?_
   · have e0:f 0=_:=hR.out 0 rfl;simp only[yZ,e0];refine⟨?_⟩;go_simp;exact qd hK (s:=by simp only[yZ,e0])
   refine zt 3 0 [(57,0),(58,1)] (fun f X hX hR K hK=>?_) ?_
   · have e1:f 1=_:=hR.out 1 rfl;have hz1:decide (((digs 4294967296 u5).length:Int)=0)=false:=wS hh0.out;have hz2:decide ((digs 4294967296 u5).length=0)=false:=wR hh0.out;have hz4:((((digs 4294967296 u5).length:Nat):Int)==0)=false:=wT hh0.out;simp only[yZ,e1];refine⟨?_⟩;go_simp;exact qd hK (s:=by simp only[yZ,e1])
   refine yF ⟨fun f X hX hR hal hap=>?_⟩;have e2:f 2=_:=hR 2 (by decide);simp only[yZ,e2];clear hR hal hap e2;refine zH ?_;replace hE:=hE.trans hX;replace N7:=zF (zL N7.out hX);replace N8:=zF (zL N8.out hX);replace N9:=zF (zL N9.out hX);replace N10:=zF (zL N10.out hX);replace N11:=zF (zL N11.out hX);clear hX;rename World=>X8_k;go_upto_region 12 with fail
   refine zN 5 [0,0,0,7,15] [] (fun j f X=>match j with
    | 0=>f 0=.agg ccs
    | 1=>f 1=.slice A6_5 (digs 4294967296 u5).length c6_5
    | 2=>f 2=.slice A6_5 (digs 4294967296 u5).length c6_5
    | 3=>∃ A1 c1,f 3=.slice A1 (digs 4294967296 u7).length c1∧RU X A1 c1 (digs 4294967296 u7)
    | 4=>∃ A1 c1,f 4=.slice A1 (digs 4294967296 u7).length c1∧RU X A1 c1 (digs 4294967296 u7)
    | _=>True) (by kernel_rfl) [(67,0),(68,1),(69,2),(70,3),(12,4)] (by kernel_rfl) ?_
   refine lV0 1 4 (hE.at_ hcb) (by rw[Hccs.out];exact qp) ?_;refine zJ 2 3 ?_;refine zJ 3 2 ?_;refine rc 4 1 0 1 2 (fun _ _ hX h=>⟨_,_,h,(zL N10.out hX)⟩) (fun _ _ hX h=>⟨_,_,h,(zL N10.out hX)⟩) (fun X hX _ _ _ _ h h'=>jg X HF.out (hRC.out.ext (hE.trans hX)) h h' L_u5.out L_u5.out) E_u7.out ?_;refine zt 5 0 [(67,0),(68,1),(69,2),(70,3)] (fun f X hX hR K hK=>?_) ?_
   · obtain⟨A12_3,c12_3,(e3:f 3=_),o12_3⟩:=hR.out 3 rfl;simp only[yZ,e3];refine⟨?_⟩;go_simp;exact hK.out _ _ _ (by simp only[yZ,e3]) (zX _) trivial (fun Y hY=>⟨A12_3,c12_3,rfl,zL o12_3 hY⟩)
   refine yF ⟨fun f X hX hR hal hap=>?_⟩;obtain⟨A12_3,c12_3,(e3:f 3=_),o12_3⟩:=hR 3 (by decide);obtain⟨A12_4,c12_4,(e4:f 4=_),o12_4⟩:=hR 4 (by decide);simp only[yZ,e3,e4];clear hR hal hap e3 e4;refine zH ?_;replace hE:=hE.trans hX;replace N7:=zF (zL N7.out hX);replace N8:=zF (zL N8.out hX);replace N9:=zF (zL N9.out hX);replace N10:=zF (zL N10.out hX);replace N11:=zF (zL N11.out hX);have N12:=zF o12_4;clear hX o12_3 o12_4;rename World=>X12_k;go_upto_region 13 with fail
   refine zN 5 [0,0,0,7,15] [] (fun j f X=>match j with
    | 0=>f 0=.agg ccs
    | 1=>f 1=.slice A12_4 (digs 4294967296 u7).length c12_4
    | 2=>f 2=.slice A6_5 (digs 4294967296 u5).length c6_5
    | 3=>∃ A1 c1,f 3=.slice A1 (digs 4294967296 u8).length c1∧RU X A1 c1 (digs 4294967296 u8)
    | 4=>∃ A1 c1,f 4=.slice A1 (digs 4294967296 u8).length c1∧RU X A1 c1 (digs 4294967296 u8)
    | _=>True) (by kernel_rfl) [(71,0),(72,1),(73,2),(74,3),(13,4)] (by kernel_rfl) ?_
   refine lV0 1 4 (hE.at_ hcb) (by rw[Hccs.out];exact qp) ?_;refine zJ 2 3 ?_;refine zJ 3 2 ?_;refine rc 4 1 0 1 2 (fun _ _ hX h=>⟨_,_,h,(zL N12.out hX)⟩) (fun _ _ hX h=>⟨_,_,h,(zL N10.out hX)⟩) (fun X hX _ _ _ _ h h'=>jg X HF.out (hRC.out.ext (hE.trans hX)) h h' L_u7.out L_u5.out) E_u8.out ?_;refine zt 5 0 [(71,0),(72,1),(73,2),(74,3)] (fun f X hX hR K hK=>?_) ?_
   · obtain⟨A13_3,c13_3,(e3:f 3=_),o13_3⟩:=hR.out 3 rfl;simp only[yZ,e3];refine⟨?_⟩;go_simp;exact hK.out _ _ _ (by simp only[yZ,e3]) (zX _) trivial (fun Y hY=>⟨A13_3,c13_3,rfl,zL o13_3 hY⟩)
   refine yF ⟨fun f X hX hR hal hap=>?_⟩;obtain⟨A13_3,c13_3,(e3:f 3=_),o13_3⟩:=hR 3 (by decide);obtain⟨A13_4,c13_4,(e4:f 4=_),o13_4⟩:=hR 4 (by decide);simp only[yZ,e3,e4];clear hR hal hap e3 e4;refine zH ?_;replace hE:=hE.trans hX;replace N7:=zF (zL N7.out hX);replace N8:=zF (zL N8.out hX);replace N9:=zF (zL N9.out hX);replace N10:=zF (zL N10.out hX);replace N11:=zF (zL N11.out hX);replace N12:=zF (zL N12.out hX);have N13:=zF o13_4;clear hX o13_3 o13_4;rename World=>X13_k;go_upto_region 14 with fail
   refine zN 6 [0,0,2,0,15,31] [] (fun j f X=>match j with
    | 0=>f 0=.agg ccs
    | 1=>f 1=.pointer (some ⟨q+1,0,none⟩)
    | 2=>f 2=.slice A1 (digs 4294967296 x).length k1
    | 3=>f 3=.slice A12_4 (digs 4294967296 u7).length c12_4
    | 4=>∃ A1 c1,f 4=.slice A1 (digs 4294967296 u9).length c1∧RU X A1 c1 (digs 4294967296 u9)
    | 5=>∃ A1 c1,f 5=.slice A1 (digs 4294967296 u9).length c1∧RU X A1 c1 (digs 4294967296 u9)
    | _=>True) (by kernel_rfl) [(75,0),(76,1),(77,2),(78,3),(79,4),(14,5)] (by kernel_rfl) ?_
   refine lV0 1 5 (hE.at_ hcb) (by rw[Hccs.out];exact qp) ?_;refine zJ 2 4 ?_;refine qK 3 3 1 (hE.cell j0) ?_;refine zJ 4 2 ?_;refine rc 5 1 0 2 3 (fun _ _ hX h=>⟨_,_,h,(zL HX1.out (hE.trans hX))⟩) (fun _ _ hX h=>⟨_,_,h,(zL N12.out hX)⟩) (fun X hX _ _ _ _ h h'=>jg X HF.out (hRC.out.ext (hE.trans hX)) h h' hx.out L_u7.out) E_u9.out ?_;refine zt 6 0 [(75,0),(76,1),(77,2),(78,3),(79,4)] (fun f X hX hR K hK=>?_) ?_
   · obtain⟨A14_4,c14_4,(e4:f 4=_),o14_4⟩:=hR.out 4 rfl;simp only[yZ,e4];refine⟨?_⟩;go_simp;exact hK.out _ _ _ (by simp only[yZ,e4]) (zX _) trivial (fun Y hY=>⟨A14_4,c14_4,rfl,zL o14_4 hY⟩)
   refine yF ⟨fun f X hX hR hal hap=>?_⟩;obtain⟨A14_4,c14_4,(e4:f 4=_),o14_4⟩:=hR 4 (by decide);obtain⟨A14_5,c14_5,(e5:f 5=_),o14_5⟩:=hR 5 (by decide);simp only[yZ,e4,e5];clear hR hal hap e4 e5;refine zH ?_;replace hE:=hE.trans hX;replace N7:=zF (zL N7.out hX);replace N8:=zF (zL N8.out hX);replace N9:=zF (zL N9.out hX);replace N10:=zF (zL N10.out hX);replace N11:=zF (zL N11.out hX);replace N12:=zF (zL N12.out hX);replace N13:=zF (zL N13.out hX);have N14:=zF o14_5;clear hX o14_4 o14_5;rename World=>X14_k;go_upto_region 15 with fail
   refine zh (by kernel_rfl) 14 [0,0,0,0,0,0,56,0,252,0,1022,0,4095,8191] [] (fun j f X=>match j with
    | 0=>f 0=.agg ccs
    | 1=>f 1=.agg ccs
    | 2=>f 2=.agg ccs
    | 3=>f 3=.agg ccs
    | 4=>f 4=.slice A7_5 (digs 4294967296 u6).length c7_5
    | 5=>f 5=.slice A7_5 (digs 4294967296 u6).length c7_5
    | 6=>∃ A1 c1,f 6=.slice A1 (digs 4294967296 u10).length c1∧RU X A1 c1 (digs 4294967296 u10)
    | 7=>f 7=.slice A13_4 (digs 4294967296 u8).length c13_4
    | 8=>∃ A1 c1,f 8=.slice A1 (digs 4294967296 u11).length c1∧RU X A1 c1 (digs 4294967296 u11)
    | 9=>f 9=.slice A14_5 (digs 4294967296 u9).length c14_5
    | 10=>∃ A1 c1,f 10=.slice A1 (digs 4294967296 u12).length c1∧RU X A1 c1 (digs 4294967296 u12)
    | 11=>f 11=.slice A14_5 (digs 4294967296 u9).length c14_5
    | 12=>∃ A1 c1,f 12=.slice A1 (digs 4294967296 u13).length c1∧RU X A1 c1 (digs 4294967296 u13)
    | 13=>∃ A1 c1,f 13=.slice A1 (digs 4294967296 u13).length c1∧RU X A1 c1 (digs 4294967296 u13)
    | _=>True) (by kernel_rfl) [(80,0),(81,1),(82,2),(83,3),(84,4),(85,5),(86,6),(87,7),(88,8),(89,9),(90,10),(91,11),(92,12),(15,13)] (by kernel_rfl) ?_
   refine lV0 1 13 (hE.at_ hcb) (by rw[Hccs.out];exact qp) ?_;refine lV0 2 12 (hE.at_ hcb) (by rw[Hccs.out];exact qp) ?_;refine lV0 3 11 (hE.at_ hcb) (by rw[Hccs.out];exact qp) ?_;refine lV0 4 10 (hE.at_ hcb) (by rw[Hccs.out];exact qp) ?_;refine zJ 5 9 ?_;refine zJ 6 8 ?_;refine rc 7 7 3 4 5 (fun _ _ hX h=>⟨_,_,h,(zL N11.out hX)⟩) (fun _ _ hX h=>⟨_,_,h,(zL N11.out hX)⟩) (fun X hX _ _ _ _ h h'=>jg X HF.out (hRC.out.ext (hE.trans hX)) h h' L_u6.out L_u6.out) E_u10.out ?_;refine zJ 8 6 ?_;refine rc 9 5 2 6 7 (fun _ _ _ h=>h) (fun _ _ hX h=>⟨_,_,h,(zL N13.out hX)⟩) (fun X hX _ _ _ _ h h'=>wN X HF.out (hRC.out.ext (hE.trans hX)) h h' L_u10.out L_u8.out) E_u11.out ?_;refine zJ 10 4 ?_;refine rc 11 3 1 8 9 (fun _ _ _ h=>h) (fun _ _ hX h=>⟨_,_,h,(zL N14.out hX)⟩) (fun X hX _ _ _ _ h h'=>wN X HF.out (hRC.out.ext (hE.trans hX)) h h' L_u11.out L_u9.out) E_u12.out ?_;refine zJ 12 2 ?_;refine rc 13 1 0 10 11 (fun _ _ _ h=>h) (fun _ _ hX h=>⟨_,_,h,(zL N14.out hX)⟩) (fun X hX _ _ _ _ h h'=>wN X HF.out (hRC.out.ext (hE.trans hX)) h h' L_u12.out L_u9.out) E_u13.out ?_;refine zt 14 0 [(80,0),(81,1),(82,2),(83,3),(84,4),(85,5),(86,6),(87,7),(88,8),(89,9),(90,10),(91,11),(92,12)] (fun f X hX hR K hK=>?_) ?_
   · obtain⟨A15_12,c15_12,(e12:f 12=_),o15_12⟩:=hR.out 12 rfl;simp only[yZ,e12];refine⟨?_⟩;go_simp;exact hK.out _ _ _ (by simp only[yZ,e12]) (zX _) trivial (fun Y hY=>⟨A15_12,c15_12,rfl,zL o15_12 hY⟩)
   refine yF ⟨fun f X hX hR hal hap=>?_⟩;obtain⟨A15_6,c15_6,(e6:f 6=_),o15_6⟩:=hR 6 (by decide);obtain⟨A15_8,c15_8,(e8:f 8=_),o15_8⟩:=hR 8 (by decide);obtain⟨A15_10,c15_10,(e10:f 10=_),o15_10⟩:=hR 10 (by decide);obtain⟨A15_12,c15_12,(e12:f 12=_),o15_12⟩:=hR 12 (by decide);obtain⟨A15_13,c15_13,(e13:f 13=_),o15_13⟩:=hR 13 (by decide);simp only[yZ,e6,e8,e10,e12,e13];clear hR hal hap e6 e8 e10 e12 e13;refine zH ?_;replace hE:=hE.trans hX;replace N7:=zF (zL N7.out hX);replace N8:=zF (zL N8.out hX);replace N9:=zF (zL N9.out hX);replace N10:=zF (zL N10.out hX);replace N11:=zF (zL N11.out hX);replace N12:=zF (zL N12.out hX);replace N13:=zF (zL N13.out hX);replace N14:=zF (zL N14.out hX);have N15:=zF o15_13;clear hX o15_6 o15_8 o15_10 o15_12 o15_13;rename World=>X15_k;go_upto_region 16 with fail
   refine zh (by kernel_rfl) 15 [0,0,0,0,0,0,56,126,0,0,512,0,4094,8191,16383] [] (fun j f X=>match j with
    | 0=>f 0=.agg ccs
    | 1=>f 1=.agg ccs
    | 2=>f 2=.slice A7_5 (digs 4294967296 u6).length c7_5
    | 3=>f 3=.agg ccs
    | 4=>f 4=.slice A14_5 (digs 4294967296 u9).length c14_5
    | 5=>f 5=.slice A15_13 (digs 4294967296 u13).length c15_13
    | 6=>∃ A1 c1,f 6=.slice A1 (digs 4294967296 u14).length c1∧RU X A1 c1 (digs 4294967296 u14)
    | 7=>∃ A1 c1,f 7=.slice A1 (digs 4294967296 u15).length c1∧RU X A1 c1 (digs 4294967296 u15)
    | 8=>f 8=.agg ccs
    | 9=>f 9=.pointer (some ⟨q+1,1,none⟩)
    | 10=>f 10=.slice A2 (digs 4294967296 y).length k2
    | 11=>f 11=.slice A13_4 (digs 4294967296 u8).length c13_4
    | 12=>∃ A1 c1,f 12=.slice A1 (digs 4294967296 u16).length c1∧RU X A1 c1 (digs 4294967296 u16)
    | 13=>∃ A1 c1,f 13=.slice A1 (digs 4294967296 u17).length c1∧RU X A1 c1 (digs 4294967296 u17)
    | 14=>∃ A1 c1,f 14=.slice A1 (digs 4294967296 u17).length c1∧RU X A1 c1 (digs 4294967296 u17)
    | _=>True) (by kernel_rfl) [(93,0),(94,1),(95,2),(96,3),(97,4),(98,5),(99,6),(100,7),(101,8),(102,9),(103,10),(104,11),(105,12),(106,13),(16,14)] (by kernel_rfl) ?_
   refine lV0 1 14 (hE.at_ hcb) (by rw[Hccs.out];exact qp) ?_;refine lV0 2 13 (hE.at_ hcb) (by rw[Hccs.out];exact qp) ?_;refine zJ 3 12 ?_;refine lV0 4 11 (hE.at_ hcb) (by rw[Hccs.out];exact qp) ?_;refine zJ 5 10 ?_;refine zJ 6 9 ?_;refine rc 7 8 3 4 5 (fun _ _ hX h=>⟨_,_,h,(zL N14.out hX)⟩) (fun _ _ hX h=>⟨_,_,h,(zL N15.out hX)⟩) (fun X hX _ _ _ _ h h'=>wN X HF.out (hRC.out.ext (hE.trans hX)) h h' L_u9.out L_u13.out) E_u14.out ?_;refine rc 8 7 1 2 6 (fun _ _ hX h=>⟨_,_,h,(zL N11.out hX)⟩) (fun _ _ _ h=>h) (fun X hX _ _ _ _ h h'=>jg X HF.out (hRC.out.ext (hE.trans hX)) h h' L_u6.out L_u14.out) E_u15.out ?_;refine lV0 9 6 (hE.at_ hcb) (by rw[Hccs.out];exact qp) ?_;refine zJ 10 5 ?_;refine qK 11 4 9 (hE.cell j1) ?_;refine zJ 12 3 ?_;refine rc 13 2 8 10 11 (fun _ _ hX h=>⟨_,_,h,(zL HX2.out (hE.trans hX))⟩) (fun _ _ hX h=>⟨_,_,h,(zL N13.out hX)⟩) (fun X hX _ _ _ _ h h'=>jg X HF.out (hRC.out.ext (hE.trans hX)) h h' hy.out L_u8.out) E_u16.out ?_;refine rc 14 1 0 7 12 (fun _ _ _ h=>h) (fun _ _ _ h=>h) (fun X hX _ _ _ _ h h'=>wN X HF.out (hRC.out.ext (hE.trans hX)) h h' L_u15.out L_u16.out) E_u17.out ?_;refine zt 15 0 [(93,0),(94,1),(95,2),(96,3),(97,4),(98,5),(99,6),(100,7),(101,8),(102,9),(103,10),(104,11),(105,12),(106,13)] (fun f X hX hR K hK=>?_) ?_
   · obtain⟨A16_13,c16_13,(e13:f 13=_),o16_13⟩:=hR.out 13 rfl;simp only[yZ,e13];refine⟨?_⟩;go_simp;exact hK.out _ _ _ (by simp only[yZ,e13]) (zX _) trivial (fun Y hY=>⟨A16_13,c16_13,rfl,zL o16_13 hY⟩)
   refine yF ⟨fun f X hX hR hal hap=>?_⟩;obtain⟨A16_6,c16_6,(e6:f 6=_),o16_6⟩:=hR 6 (by decide);obtain⟨A16_7,c16_7,(e7:f 7=_),o16_7⟩:=hR 7 (by decide);obtain⟨A16_12,c16_12,(e12:f 12=_),o16_12⟩:=hR 12 (by decide);obtain⟨A16_13,c16_13,(e13:f 13=_),o16_13⟩:=hR 13 (by decide);obtain⟨A16_14,c16_14,(e14:f 14=_),o16_14⟩:=hR 14 (by decide);simp only[yZ,e6,e7,e12,e13,e14];clear hR hal hap e6 e7 e12 e13 e14;refine zH ?_;replace hE:=hE.trans hX;replace N7:=zF (zL N7.out hX);replace N8:=zF (zL N8.out hX);replace N9:=zF (zL N9.out hX);replace N10:=zF (zL N10.out hX);replace N11:=zF (zL N11.out hX);replace N12:=zF (zL N12.out hX);replace N13:=zF (zL N13.out hX);replace N14:=zF (zL N14.out hX);replace N15:=zF (zL N15.out hX);have N16:=zF o16_14;clear hX o16_6 o16_7 o16_12 o16_13 o16_14;rename World=>X16_k;have hb1:=hE.at_ hrb;go_upto_region 17 with fail
   refine zN 8 [0,0,0,0,8,0,60,127,255] [] (fun j f X=>match j with
    | 0=>f 0=.slice A15_13 (digs 4294967296 u13).length c15_13
    | 1=>f 1=.slice A16_14 (digs 4294967296 u17).length c16_14
    | 2=>f 2=.agg ccs
    | 3=>f 3=.pointer (some ⟨q+1,2,none⟩)
    | 4=>f 4=.slice A3 (digs 4294967296 z).length k3
    | 5=>f 5=.slice A6_5 (digs 4294967296 u5).length c6_5
    | 6=>∃ A1 c1,f 6=.slice A1 (digs 4294967296 u18).length c1∧RU X A1 c1 (digs 4294967296 u18)
    | 7=>∃ A c,f 7=.agg #[.slice A15_13 (digs 4294967296 u13).length c15_13,.slice A16_14 (digs 4294967296 u17).length c16_14,.slice A (digs 4294967296 u18).length c]∧RU X A c (digs 4294967296 u18)
    | _=>True) (by kernel_rfl) [(107,0),(108,1),(109,2),(110,3),(111,4),(112,5),(113,6),(114,7)] (by kernel_rfl) ?_
   refine zJ 1 7 ?_;refine zJ 2 6 ?_;refine lV0 3 5 (hE.at_ hcb) (by rw[Hccs.out];exact qp) ?_;refine zJ 4 4 ?_;refine qK 5 3 3 (hE.cell j2) ?_;refine zJ 6 2 ?_;refine rc 7 1 2 4 5 (fun _ _ hX h=>⟨_,_,h,(zL HX3.out (hE.trans hX))⟩) (fun _ _ hX h=>⟨_,_,h,(zL N10.out hX)⟩) (fun X hX _ _ _ _ h h'=>jg X HF.out (hRC.out.ext (hE.trans hX)) h h' hz.out L_u5.out) E_u18.out ?_;refine zt 8 0 [(107,0),(108,1),(109,2),(110,3),(111,4),(112,5),(113,6)] (fun f X hX hR K hK=>?_) ?_
   · have e0:f 0=_:=hR.out 0 rfl;have e1:f 1=_:=hR.out 1 rfl;obtain⟨A17_6,c17_6,(e6:f 6=_),o17_6⟩:=hR.out 6 rfl;simp only[yZ,e0,e1,e6];refine⟨?_⟩;go_simp;exact hK.out _ _ _ (by simp only[yZ,e0,e1,e6]) (zX _) trivial (fun Y hY=>⟨_,_,rfl,zL o17_6 hY⟩)
   refine yF ⟨fun f X hX hR hal hap=>?_⟩;obtain⟨A17_6,c17_6,(e6:f 6=_),o17_6⟩:=hR 6 (by decide);obtain⟨Az,cz,(e7:f 7=_),oz⟩:=hR 7 (by decide);simp only[yZ,e6,e7];clear hR hal hap e6 e7;refine zP (fun K hK=>⟨zU (by kernel_rfl) (jJ (cs':=#[.slice A15_13 (digs 4294967296 u13).length c15_13,.slice A16_14 (digs 4294967296 u17).length c16_14,.slice Az (digs 4294967296 u18).length cz]) (t:=78) 78 (.tmp 6) (.tmp 114) rfl rfl rfl rfl (hX.at_ hb1) uD rfl (fu _ _ _ _ _ _ _ _ _) (fun Y hY1 hY2 hY3=>hK.out _ _ ?_))⟩);refine zH ?_;go_wp2;exact gu rfl rfl rfl hY1 ⟨_,rfl,⟨_,_,_,_,_,_,rfl,(zL N15.out hX).offJ hY2 (hX.at_ hb1) (by kernel_rfl),(zL N16.out hX).offJ hY2 (hX.at_ hb1) (by kernel_rfl),oz.offJ hY2 (hX.at_ hb1) (by kernel_rfl),L_u13.out,L_u17.out,L_u18.out⟩,hY2.ext (HE0.out.trans (hE.trans hX)) (by have:=Hq.out;omega)⟩
end Go.Proofs.YtaemogcomplhiaaGreatDoor

import Derived.Test.YtoglgeaiiipchaaGreatDoorLRY10
import Derived.Laws.StructEq
set_option linter.unusedSimpArgs false
set_option linter.unusedVariables false
set_option maxRecDepth 100000
set_option maxHeartbeats 8000000
namespace Go.Proofs.YtoglgeaiiipchaaGreatDoor
section
open Go Go.RowKit Go.Sort
def nB (xs:List Stp) (j:Nat):Bool:=decide (j=0)||!decide (xs.getD j dQ=xs.getD (j-1) dQ)
def gS (xs:List Stp):Nat->List Stp
 |0=>[]
 |k+1=>gS xs k++if nB xs k=true then[xs.getD k dQ] else[]
def dd (xs:List Stp):List Stp:=gS xs xs.length
theorem sJ (xs:List Stp):∀k,(gS xs k).length<=k
 |0=>nLe
 |k+1=>by
  have:=sJ xs k;unfold gS;rw[List.length_append]
  split<;>simp<;>omega
theorem sL (xs:List Stp):∀k,k<=xs.length->(∀ j,j<k->nB xs j=true)->gS xs k=xs.take k
 |0,_,_=>rfl
 |k+1,hk,h=>by
  unfold gS;rw[sL xs k (by omega) fun j d=>h j (by omega),if_pos (h k (by omega)),List.take_succ_eq_append_getElem (by omega),zX (by omega)]
theorem oG (xs:List Stp):∀k,k<=xs.length->∀s,s∈gS xs k↔s∈xs.take k
 |0,_,s=>by simp[gS]
 |k+1,hk,s=>by
  have d:k<xs.length:=by omega
  rw[List.take_succ_eq_append_getElem d];unfold gS;rw[List.mem_append,List.mem_append,oG xs k (by omega)]
  split
  ·rw[zX d]
  rename_i hn
  simp only[List.not_mem_nil,or_false,List.mem_singleton];refine⟨.inl,fun h=>h.elim id fun h=>?_⟩
  unfold nB at hn;simp only[Bool.or_eq_true,decide_eq_true_eq,Bool.not_eq_true',not_or,Bool.not_eq_false,decide_eq_false_iff_not,Decidable.not_not] at hn;rw[zX d,zX (by omega)] at hn
  rw[h,hn.2];exact List.mem_take_iff_getElem.2 ⟨k-1,by omega,rfl⟩
theorem zJG (xs:List Stp) (s:Stp):s∈dd xs↔s∈xs:=by
 unfold dd;rw[oG xs _ nLe,List.take_length]
theorem aG (xs:List Stp) (h:xs.Pairwise fun x y=>qF y x=false):∀k,k<=xs.length->(gS xs k).Pairwise (fun s t=>qF s t=true)/\∀s∈gS xs k,∀j,k<=j->(u:j<xs.length)->s≠xs[j]->qF s xs[j]=true
 |0,_=>⟨.nil,fun s hs=>by simp[gS] at hs⟩
 |k+1,hk=>by
  have g:k<xs.length:=by omega
  obtain⟨i1,O⟩:=aG xs h k (by omega)
  have U:∀i j,(K:i<xs.length)->(u:j<xs.length)->i<j->qF xs[j] xs[i]=false:=fun i j K u J=>List.pairwise_iff_getElem.1 h i j K u J
  have lt:∀i j,(K:i<xs.length)->(u:j<xs.length)->i<j->xs[i]≠xs[j]->qF xs[i] xs[j]=true:=fun i j K u J d=>by
   cases e:qF xs[i] xs[j] with
   |true=>rfl
   |false=>exact absurd (uN e (U i j K u J)) d
  unfold gS
  split
  ·rename_i hkeep
   rw[zX g];refine⟨?_,fun s hs j u m d=>?_⟩
   ·rw[List.pairwise_append]
    refine⟨i1,List.pairwise_singleton _ _,fun s hs t ht=>?_⟩
    rw[List.mem_singleton.1 ht];refine O s hs k nLe g fun e=>?_
    unfold nB at hkeep;simp only[Bool.or_eq_true,decide_eq_true_eq,Bool.not_eq_true',decide_eq_false_iff_not] at hkeep;obtain⟨i,K,N⟩:=List.mem_take_iff_getElem.1 ((oG xs k (by omega) s).1 hs)
    rcases hkeep with h0|h0
    ·omega
    rw[zX g,zX (by omega)] at h0
    by_cases e2:i=k-1
    ·subst e2;exact h0 (e.symm.trans N.symm)
    have a1:=U i (k-1) (by omega) (by omega) (by omega)
    have a2:=U (k-1) k (by omega) g (by omega)
    have e3:xs[i]=xs[k]:=N.trans e
    rw[e3] at a1;exact h0 (uN a2 a1)
   rcases List.mem_append.1 hs with hs|hs
   ·exact O s hs j (by omega) m d
   rw[List.mem_singleton.1 hs] at d ⊢;exact lt k j g m (by omega) d
  rw[List.append_nil];exact⟨i1,fun s hs j u m d=>O s hs j (by omega) m d⟩
theorem zFn (xs:List Stp) (h:xs.Pairwise fun x y=>qF y x=false):xV (dd xs):=(aG xs h xs.length nLe).1
theorem zAW (d:List Stp):aS d (dd (zR d)):=
 ⟨zFn _ (zBE d),fun s=>by rw[zJG];exact(eS d).mem_iff,by have:=sJ (zR d) (zR d).length;rw[kW] at this;unfold dd;rw[kW];exact this⟩
theorem jD.set1 {w:World} {g d o:Nat} {ys:List Stp} (h:jD w g d ys) (J:ys.length*3<=o) (v:Value):jD (w.setCell ⟨g,o,none⟩ v) g d ys:=by
 obtain⟨e,i,j,m,s,u⟩:=h;refine⟨e.setIfInBounds o v,by simp[World.setCell,Array.getElem?_modify,i],j,m,by simpa using s,?_⟩
 rw[Array.toList_setIfInBounds,List.take_set_of_le J];exact u
theorem jD.setCells {g d:Nat} {ys:List Stp}:∀(e:List Value) (w:World) (o:Nat),jD w g d ys->ys.length*3<=o->jD (w.setCells g o e) g d ys/\w.grownBy (w.setCells g o e) (some g)
 |[],w,_,h,_=>⟨h,World.grownBy.refl _ _⟩
 |v::r,w,o,h,ho=>by
  obtain⟨i,j⟩:=jD.setCells r (w.setCell ⟨g,o,none⟩ v) (o+1) (h.set1 ho v) (by omega)
  exact⟨i,zO (yQ w g o v) j⟩
theorem jD.put {w:World} {g e k:Nat} {xs:List Stp} (h:jD w g e xs) (hk:k<xs.length) (s:Stp):jD (((w.setCell ⟨g,k*3,none⟩ s.f).setCell ⟨g,k*3+1,none⟩ s.l).setCell ⟨g,k*3+2,none⟩ s.t) g e (xs.set k s):=by
 obtain⟨j,h1,h2,h3,O,h5⟩:=h
 refine⟨((j.setIfInBounds (k*3) s.f).setIfInBounds (k*3+1) s.l).setIfInBounds (k*3+2) s.t,by simp[World.setCell,Array.getElem?_modify,h1],by simpa using h2,h3,by simpa using O,?_⟩
 rw[List.length_set];have hl:=flat_len xs;refine List.ext_getElem? fun i=>?_
 by_cases hi:i<xs.length*3
 ·rw[List.getElem?_take_of_lt hi,Array.toList_setIfInBounds,Array.toList_setIfInBounds,Array.toList_setIfInBounds,List.getElem?_set,List.getElem?_set,List.getElem?_set]
  have hc:j.toList.length=e*3:=by simpa using O
  have U:j.toList[i]?=(xs.flatMap Stp.cells)[i]?:=by rw[<-h5,List.getElem?_take_of_lt hi]
  have J:i/3<xs.length:=by omega
  have d:=qJ (enc:=Stp.cells) (sz:=3) (fun _=>rfl) (xs.set k s) (i/3) (by simpa using J) (i%3)
  have m:=qJ (enc:=Stp.cells) (sz:=3) (fun _=>rfl) xs (i/3) J (i%3)
  rw[show i/3*3+i%3=i by omega] at d m
  by_cases hk2:i/3=k
  ·have K:(xs.set k s)[i/3]'(by simpa using J)=s:=by simp[hk2]
   rw[K] at d;have N:i%3=0\/i%3=1\/i%3=2:=by omega
   rcases N with h0|h0|h0
   ·rw[h0] at d
    rw[d _ rfl,if_neg (by omega),if_neg (by omega),if_pos (by omega),if_pos (by omega)]
   ·rw[h0] at d
    rw[d _ rfl,if_neg (by omega),if_pos (by omega),if_pos (by simp;omega)]
   rw[h0] at d;rw[d _ rfl,if_pos (by omega),if_pos (by simp;omega)]
  have K:(xs.set k s)[i/3]'(by simpa using J)=xs[i/3]:=by rw[List.getElem_set_ne (by omega)]
  rw[K] at d;rw[if_neg (by omega),if_neg (by omega),if_neg (by omega),U]
  have u:i%3<(Stp.cells xs[i/3]).length:=by simp[Stp.cells];omega
  rw[d _ (List.getElem?_eq_getElem u),m _ (List.getElem?_eq_getElem u)]
 rw[List.getElem?_eq_none (by rw[List.length_take];omega),List.getElem?_eq_none (by rw[flat_len,List.length_set];omega)]
theorem zDT {w:World} {g K d n:Nat} {J:List Stp} (h:jD w g K J) (hn:J.length=n) (hk:d<n) (ty:TypeId):
  ∃w',(Builtin.clear_ #[29] ty #[.slice (some ⟨g,d*3,none⟩) (n-d) (K-d)]).run Tryz.prog w=.ok (.tuple #[]) w'/\jD w' g K (J.take d)/\w.grownBy w' (some g):=by
 have hv:∀w,(zeroValue 80).run Tryz.prog w=.ok (.agg #[(0:Int),(0:Int),(0:Int)]) w:=by intro w;kernel_rfl
 obtain⟨m,hm⟩:∃m,n-d=m+1:=⟨n-d-1,by omega⟩
 obtain⟨U,O⟩:∃U,U=(Builtin.zeroCells (Value.agg #[(0:Int),(0:Int),(0:Int)]).cells (m+1)).toList:=⟨_,rfl⟩;have hlen:U.length=(m+1)*3:=by rw[O];simp[Builtin.zeroCells,Value.cells]
 have h0:∀v∈U,v.oneCell'=true:=by
  intro v N;rw[O] at N;simp only[Builtin.zeroCells,Value.cells,Array.toList_map,List.mem_map] at N;obtain⟨i,_,rfl⟩:=N;have:i%3=0\/i%3=1\/i%3=2:=by omega
  rcases this with e|e|e<;>simp[e,Value.oneCell']
 have s:∀j,j<U.length->∃u,w.cell? ⟨g,d*3+j,none⟩=some u/\w.frozen? ⟨g,d*3+j,none⟩=false:=fun j hj=>by
  have h2:d*3+j<(J.flatMap Stp.cells).length:=by rw[flat_len,hn];omega
  have:=h.get (List.getElem?_eq_getElem h2);exact⟨_,this⟩
 have h3:=run_storeCells_cells (P:=Tryz.prog) g (d*3) U 0 w (fun j hj=>by obtain⟨u,h1,_⟩:=s j hj;simp only[Nat.add_zero];rw[h1];rfl) (fun j hj=>by obtain⟨u,_,h2⟩:=s j hj;simpa using h2) h0
 simp only[Nat.add_zero] at h3;have hs:=jD.setCells U w (d*3) (h.take (k:=d) (by omega)) (by rw[List.length_take];omega)
 refine⟨_,?_,hs⟩;rw[hm]
 simp[Builtin.clear_,run_underlying Tryz.underlying29,hv,<-O,h3]
theorem zJg (s t:Stp) (w:World):(Op.equalIn 10000 80 (.agg #[s.f,s.l,s.t]) (.agg #[t.f,t.l,t.t])).run Tryz.prog w=.ok (decide (s=t)) w:=by
 have u:=Tryz.underlying3;have m:=Tryz.isAgg3;have J:=Tryz.sizeOf3;have e:Tryz.prog.underlying 80=some (.struct (Tryz.prog.fieldsOf 80)):=by kernel_rfl
 have g:Tryz.prog.stoodInHeld 80=false:=by kernel_rfl
 rw[show(10000:Nat)=9999+1 from rfl,run_equalIn_agg w 9999 80 _ _ e g];simp only[Program.fieldsOf,Tryz.underlying80];go_simp
 obtain⟨f,l,i⟩:=s;obtain⟨d,h,j⟩:=t;simp only[Stp.mk.injEq]
 by_cases h1:f=d<;>by_cases h2:l=h<;>by_cases h3:i=j<;>simp[h1,h2,h3]
def aT (w:World) (B:Nat) (g:Option Nat) (xs:List Stp) (e:Ending) (w':World):Prop:=∃v',e=.returned v'/\w'.ownsRow B 80 3 v' (dd xs).length ((dd xs).flatMap Stp.cells)/\w.grownBy w' g/\v'.ownBlock=g
theorem pN (w:World) (q:Nat) (r:Option Nat):w.grownBy (w.drewN q) r:=⟨rfl,rfl,rfl,nLe,fun _ _ _=>rfl⟩
theorem zE3 (w:World) (B g i:Nat) (xs:List Stp) (h:jD w g i xs) (hB:B<=g) (h2:2<=xs.length) (hxl:xs.length<=1000000000):
  Calls Tryz.prog 81 #[.slice (some ⟨g,0,none⟩) xs.length i] w (aT w B (some g) xs):=by
 have HS0:=hId h;have hcap:xs.length<=i:=by obtain⟨_,_,hx,_⟩:=h;exact hx
 have hcap2:i<=9223372036854775807:=by obtain⟨_,_,_,hx,_⟩:=h;simpa[maxLen] using hx
 have HEND:Hid (∀ wr,jD wr g i (dd xs)->w.grownBy wr (some g)->aT w B (some g) xs (.returned (.slice (some ⟨g,0,none⟩) (dd xs).length i)) wr):=fun wr h1 h2=>⟨_,rfl,h1.own hB,h2,rfl⟩
 clear h
 go_enter Tryz.func81,Tryz.ntmps81
 have q0:¬(xs.length:Int)<2:=by omega
 go_wp2_with fail
 clear q0
 go_loopw [3] (fun s3 wr=>∃k:Nat,1<=k/\k<=xs.length/\s3=(k:Int)/\Hid (jD wr g i xs)/\Hid (w.grownBy wr (some g))/\Hid (∀ j,j<k->nB xs j=true)) (fun s3 _=>xs.length-(intOf s3).toNat)
 case atStart=>exact⟨1,nLe,by omega,rfl,HS0.o,World.grownBy.refl _ _,fun j hj=>by obtain rfl:j=0:=(by omega);rfl⟩
 obtain⟨k,hk1,hk2,rfl,HS,HG,HK⟩:=hrel
 by_cases hkn:k<xs.length
 ·have q1:(k:Int)<(xs.length:Int):=by omega
  obtain⟨x0,x1,x2,-,-,-⟩:=HS.o.at_ hkn;obtain⟨y0,y1,y2,-,-,-⟩:=HS.o.at_ (k:=k-1) (by omega)
  have J:Hid (nB xs k= !decide (xs[k]=xs[k-1])):=by
   show _=_;unfold nB;rw[zX hkn,zX (by omega),decide_eq_false (by omega)]
   rfl
  obtain⟨s,hs⟩:∃s,s=xs[k]:=⟨_,rfl⟩;obtain⟨t,ht⟩:∃t,t=xs[k-1]:=⟨_,rfl⟩;rw[<-hs] at x0 x1 x2 J;rw[<-ht] at y0 y1 y2 J;have qe:=zJg s t;clear hs ht
  by_cases hst:s=t
  ·have HKF:Hid (nB xs k=false):=by show _=_;rw[J.o,hst];simp
   rw[decide_eq_true hst] at qe;have HX:=hId hkn;clear J hst
   go_wp2_with fail
   go_quiet (fail)
   have HG2:=hId (zO HG.o (pN wr nq (some g)));have HS2:Hid (jD (wr.drewN nq) g i xs):=HS.o;clear x0 x1 x2 y0 y1 y2 qe HS HG;generalize wr.drewN nq=wq at *
   go_wp2_with fail
   go_loopw [3,5] (fun s3 s5 wr=>∃(u d:Nat) (e:List Stp),1<=d/\k+d<=xs.length/\u<k+d/\s3=(u:Int)/\s5=(d:Int)/\Hid (jD wr g i e)/\Hid (w.grownBy wr (some g))/\Hid (e.length=xs.length)/\Hid (e.take u=gS xs (k+d))/\Hid ((gS xs (k+d)).length=u)/\Hid (∀ j,k+d-1<=j->j<xs.length->e.getD j dQ=xs.getD j dQ)) (fun _ s5 _=>xs.length-k-(intOf s5).toNat)
   case atStart=>
    have hdd:gS xs (k+1)=xs.take k:=by
     unfold gS;rw[sL xs k (by omega) HK.o,if_neg (by rw[HKF.o];decide),List.append_nil]
    exact⟨k,1,xs,nLe,by have:=HX.o;omega,by omega,rfl,rfl,HS2.o,HG2.o,rfl,hdd.symm,by show(gS xs (k+1)).length=k;rw[hdd,List.length_take];omega,fun _ _ _=>rfl⟩
   obtain⟨u,d,e,h21,hkk2,hkk,rfl,rfl,HM,K,h3,HT,HTL,HD⟩:=hrel
   by_cases hlt:k+d<xs.length
   ·have q2:(d:Int)<(xs.length:Int)-(k:Int):=by omega
    have hml:=h3.o;obtain⟨x0,x1,x2,-,-,-⟩:=HM.o.at_ (k:=k+d) (by omega)
    obtain⟨y0,y1,y2,-,-,-⟩:=HM.o.at_ (k:=k+d-1) (by omega)
    have e1:e[k+d]'(by omega)=xs[k+d]:=by have:=HD.o (k+d) (by omega) hlt;rwa[zX (by omega),zX hlt] at this
    have e2:e[k+d-1]'(by omega)=xs[k+d-1]:=by have:=HD.o (k+d-1) (by omega) (by omega);rwa[zX (by omega),zX (by omega)] at this
    have m:Hid (nB xs (k+d)= !decide (xs[k+d]=xs[k+d-1])):=by
     show _=_;unfold nB;rw[zX hlt,zX (by omega),decide_eq_false (by omega)]
     rfl
    have O:Hid (gS xs (k+(d+1))=gS xs (k+d)++if nB xs (k+d)=true then[xs[k+d]] else[]):=by
     show _=_;rw[show k+(d+1)=k+d+1 by omega,gS,zX hlt]
    rw[e1,show(k+d)*3=k*3+d*3 by omega] at x0 x1 x2
    rw[e2,show(k+d-1)*3=k*3+(d-1)*3 by omega] at y0 y1 y2
    obtain⟨s2,hs⟩:∃s,s=xs[k+d]:=⟨_,rfl⟩;obtain⟨t2,ht⟩:∃t,t=xs[k+d-1]:=⟨_,rfl⟩;rw[<-hs] at x0 x1 x2 m O;rw[<-ht] at y0 y1 y2 m;have qe:=zJg s2 t2;have HSS:=hId hs;have U:=hId hlt
    clear hs ht e1 e2 hml
    by_cases hst:s2=t2
    ·have N:Hid (gS xs (k+(d+1))=gS xs (k+d)):=by show _=_;rw[O.o,m.o,hst];simp
     rw[decide_eq_true hst] at qe;clear O m hst
     go_wp2_with fail
     go_quiet (fail)
     have HG3:=hId (zO K.o (pN wr nq (some g)));have h0:Hid (jD (wr.drewN nq) g i e):=HM.o;clear x0 x1 x2 y0 y1 y2 qe HM K;generalize wr.drewN nq=wz at *
     go_wp2_with fail
     go_roundw
     case rel=>exact⟨u,d+1,e,by omega,by have:=U.o;omega,by omega,rfl,by go_num,h0.o,HG3.o,h3.o,by show _=_;rw[N.o];exact HT.o,by show List.length _=_;rw[N.o];exact HTL.o,fun j h1 h2=>HD.o j (by omega) h2⟩
     case measure=>simp[intOf];have:=U.o;omega
    have N:Hid (gS xs (k+(d+1))=gS xs (k+d)++[s2]):=by show _=_;rw[O.o,m.o,decide_eq_false hst];rfl
    rw[decide_eq_false hst] at qe;have h6:u<e.length:=by have:=h3.o;omega
    clear O m hst
    go_wp2_with fail
    go_quiet (fail)
    have HG3:=hId (zO K.o (pN wr nq (some g)));have h0:Hid (jD (wr.drewN nq) g i e):=HM.o;obtain⟨-,-,-,z0,z1,z2⟩:=h0.o.at_ h6;obtain⟨c0,c1,c2,-,-,-⟩:=h0.o.at_ h6;have HM4:=hId (h0.o.put h6 s2)
    have HG4:=hId (zO HG3.o (zO (zO (yQ _ g (u*3) s2.f) (yQ _ g (u*3+1) s2.l)) (yQ _ g (u*3+2) s2.t)));have x0':(wr.drewN nq).cell? ⟨g,k*3+d*3,none⟩=some (.int .i64 s2.f):=x0
    have x1':(wr.drewN nq).cell? ⟨g,k*3+d*3+1,none⟩=some (.int .i64 s2.l):=x1
    have x2':(wr.drewN nq).cell? ⟨g,k*3+d*3+2,none⟩=some (.int .i64 s2.t):=x2
    have hkx:(u:Int)<(xs.length:Int):=by have:=U.o;omega
    have HKM:=hId h6;generalize e[u]=old at c0 c1 c2;clear x0 x1 x2 y0 y1 y2 qe HM K h6;generalize wr.drewN nq=wz at *
    go_wp2_with fail
    go_roundw
    case rel=>
     refine⟨u+1,d+1,e.set u s2,by omega,by have:=U.o;omega,by omega,by go_num,by go_num,HM4.o,HG4.o,by show List.length _=_;rw[List.length_set];exact h3.o,?_,by show List.length _=_;rw[N.o,List.length_append,HTL.o];rfl,fun j h1 h2=>?_⟩
     ·show List.take _ _=_
      rw[N.o,<-HT.o,List.take_succ_eq_append_getElem (by rw[List.length_set];exact HKM.o),List.getElem_set_self,List.take_set_of_le nLe]
     have:=HD.o j (by omega) h2
     rw[<-this,List.getD_eq_getElem?_getD,List.getD_eq_getElem?_getD,List.getElem?_set_ne (by omega)]
    case measure=>simp[intOf];have:=U.o;omega
   have h5:k+d=xs.length:=by omega
   have q2:¬(d:Int)<(xs.length:Int)-(k:Int):=by omega
   have HT2:Hid (e.take u=dd xs):=by have:=HT.o;rwa[h5] at this
   have HTL2:Hid ((dd xs).length=u):=by have:=HTL.o;rwa[h5] at this
   have hkx:(u:Int)<(xs.length:Int):=by omega
   have hkx2:u<xs.length:=by omega
   obtain⟨w9,hcl,hs9,hg9⟩:=zDT HM.o h3.o hkx2 0;rw[HT2.o] at hs9;have HP:=hId (HEND.o _ hs9 (zO K.o hg9));rw[HTL2.o] at HP;clear hs9 hg9 HT HTL HD h5 HK
   go_wp2_with fail
   go_ret
   exact HP.o
  have HKT:Hid (nB xs k=true):=by show _=_;rw[J.o,decide_eq_false hst];rfl
  rw[decide_eq_false hst] at qe;have HX:=hId hkn;clear J hst
  go_wp2_with fail
  go_quiet (fail)
  have HG2:=hId (zO HG.o (pN wr nq (some g)));have HS2:Hid (jD (wr.drewN nq) g i xs):=HS.o;clear x0 x1 x2 y0 y1 y2 qe HS HG;generalize wr.drewN nq=wq at *
  go_wp2_with fail
  go_roundw
  case rel=>
   refine⟨k+1,by omega,HX.o,by go_num,HS2.o,HG2.o,fun j hj=>?_⟩
   rcases Nat.lt_or_ge j k with h1|h1
   ·exact HK.o j h1
   obtain rfl:j=k:=by omega
   exact HKT.o
  case measure=>simp[intOf];have:=HX.o;omega
 have q1:¬(k:Int)<(xs.length:Int):=by omega
 obtain rfl:k=xs.length:=by omega
 have h4:dd xs=xs:=by unfold dd;rw[sL xs _ nLe HK.o,List.take_length]
 have HP:Hid (aT w B (some g) xs (.returned (.slice (some ⟨g,0,none⟩) xs.length i)) wr):=by
  have:=HEND.o wr (by rw[h4];exact HS.o) HG.o
  rwa[h4] at this
 clear h4
 go_wp2_with fail
 go_ret
 exact HP.o
theorem zJ6 (xs:List Stp) (h:xs.length<2):dd xs=xs:=by
 unfold dd
 rw[sL xs xs.length nLe (fun j d=>by
  have:j=0:=by omega
  subst this;rfl),List.take_length]
theorem zAt (w:World) (B:Nat) (v:Value) (xs:List Stp) (h:w.ownsRow B 80 3 v xs.length (xs.flatMap Stp.cells)) (d:xs.length<=1000000000):
  Calls Tryz.prog 81 #[v] w (aT w B v.ownBlock xs):=by
 by_cases h2:xs.length<2
 ·obtain⟨A,c,rfl,m,s,_⟩:=zF h
  have e:Hid (aT w B (Value.slice A xs.length c).ownBlock xs (.returned (.slice A xs.length c)) w):=⟨_,rfl,by rw[zJ6 xs h2];exact h,World.grownBy.refl _ _,rfl⟩
  have u:(xs.length:Int)<2:=by omega
  clear h
  go_enter Tryz.func81,Tryz.ntmps81
  go_wp2_with fail
  go_ret
  exact e.o
 rcases h.2 with⟨_,hn⟩|⟨g,cap,cur,rfl,hg,hh,hr⟩
 ·omega
 obtain⟨_,i,j⟩:=jD.of h;exact zE3 w B g cap xs j i (by omega) d
end
end Go.Proofs.YtoglgeaiiipchaaGreatDoor

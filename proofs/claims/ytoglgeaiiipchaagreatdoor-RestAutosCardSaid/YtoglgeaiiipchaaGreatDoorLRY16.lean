import Derived.Test.YtoglgeaiiipchaaGreatDoorLRY15
import Derived.Maps.OwnSet
import Derived.Maps.Keyed
import Derived.Maps.RangeWalk
set_option linter.unusedSimpArgs false
set_option linter.unusedVariables false
set_option maxRecDepth 100000
set_option maxHeartbeats 8000000
namespace Go.Proofs.YtoglgeaiiipchaaGreatDoor
section
def yB (s:List UInt8) (i:Nat) (w:List UInt8):Prop:=∃r,s.drop i=w++r
theorem yB.app {s:List UInt8} {i:Nat} {v w:List UInt8}:yB s i (v++w)↔yB s i v/\yB s (i+v.length) w:=by
 constructor
 ·rintro⟨r,h⟩
  refine⟨⟨w++r,by rw[h,List.append_assoc]⟩,⟨r,?_⟩⟩
  rw[<-List.drop_drop,h,List.append_assoc,List.drop_left]
 rintro⟨⟨r,h⟩,⟨r',d⟩⟩;refine⟨r',?_⟩;rw[<-List.drop_drop,h,List.drop_left] at d;rw[h,d,List.append_assoc]
theorem yB.one {s:List UInt8} {i:Nat} {c:UInt8}:yB s i [c]↔i<s.length/\chr s i=c:=by
 unfold yB chr
 constructor
 ·rintro⟨r,h⟩
  have d:i<s.length:=by
   rcases Nat.lt_or_ge i s.length with h1|h1
   ·exact h1
   rw[List.drop_of_length_le h1] at h;simp at h
  refine⟨d,?_⟩;rw[List.drop_eq_getElem_cons d] at h;rw[List.getD_eq_getElem?_getD,List.getElem?_eq_getElem d];exact(List.cons.inj h).1
 rintro⟨d,h⟩;rw[List.getD_eq_getElem?_getD,List.getElem?_eq_getElem d] at h;have h:s[i]=c:=h;exact⟨s.drop (i+1),by rw[List.drop_eq_getElem_cons d,h];rfl⟩
theorem yB.cons {s:List UInt8} {i:Nat} {c:UInt8} {w:List UInt8}:yB s i (c::w)↔i<s.length/\chr s i=c/\yB s (i+1) w:=by
 rw[show c::w=[c]++w from rfl,yB.app,yB.one,and_assoc];rfl
theorem yB.nil {s:List UInt8} {i:Nat}:yB s i []:=⟨s.drop i,rfl⟩
theorem yB.le {s:List UInt8} {i:Nat} {w:List UInt8} (h:yB s i w) (d:i<=s.length):i+w.length<=s.length:=by
 obtain⟨r,h⟩:=h;have:=congrArg List.length h
 simp at this
 omega
theorem vY {s:List UInt8}:∀{w:List UInt8} {i j:Nat},yY s w i=.ok j↔j=i+w.length/\yB s i w
 |[],i,j=>by
  simp only[yY,Except.ok.injEq,List.length_nil,Nat.add_zero];exact⟨fun h=>⟨h.symm,yB.nil⟩,fun h=>h.1.symm⟩
 |c::w,i,j=>by
  unfold yY;rw[yB.cons]
  by_cases h:i<s.length/\chr s i=c
  ·rw[if_pos h,vY]
   simp only[h,List.length_cons,true_and]
   constructor
   ·rintro⟨rfl,d⟩;exact⟨by omega,d⟩
   rintro⟨rfl,d⟩;exact⟨by omega,d⟩
  rw[if_neg h]
  constructor
  ·intro e;cases e
  rintro⟨_,g,d,_⟩;exact absurd ⟨g,d⟩ h
theorem zCh {n:Nat} (h:n<=9):(UInt8.ofNat (48+n)).toNat=48+n:=by
 simp
 omega
theorem zC8 {c:UInt8} (d:48<=c) (e:c<=57):UInt8.ofNat (48+((c.toNat:Int)-48).toNat)=c:=by
 have d:48<=c.toNat:=d
 have e:c.toNat<=57:=e
 apply UInt8.toNat_inj.1
 simp
 omega
theorem zIy {c:UInt8} (h:kI c≠0):sgn (kI c)=c/\(kI c=4\/kI c=5\/kI c=7\/kI c=8):=by
 unfold kI at *
 by_cases h1:c=38
 ·subst h1;exact⟨rfl,by decide⟩
 by_cases h2:c=124
 ·subst h2;exact⟨rfl,by decide⟩
 by_cases h3:c=85
 ·subst h3;exact⟨rfl,by decide⟩
 by_cases h4:c=82
 ·subst h4;exact⟨rfl,by decide⟩
 simp[h1,h2,h3,h4] at h
theorem zIT {k:Int} (h:k=4\/k=5\/k=7\/k=8):kI (sgn k)=k:=by
 rcases h with rfl|rfl|rfl|rfl<;>decide
theorem bI {s:List UInt8}:∀(m i:Nat) {t:Fm} {j:Nat},prs s m i=.ok (t,j)->j=i+t.show.length/\yB s i t.show/\t.ok/\j<=s.length
 |0,i,t,j,h=>by cases h
 |m+1,i,t,j,h=>by
  unfold prs at h
  split at h
  ·cases h
  rename_i hi
  split at h
  ·split at h
   ·cases h
   rename_i j' hn
   obtain⟨rfl,rfl⟩:Fm.tt=t/\j'=j:=by simpa using h
   obtain⟨d,e⟩:=vY.1 hn;exact⟨d,e,trivial,by have:=e.le (by omega);rw[d];exact this⟩
  split at h
  ·rename_i hc
   split at h
   ·rename_i hd
    obtain⟨rfl,rfl⟩:_=t/\_=j:=by simpa using h
    obtain⟨d1,N,O⟩:=hd;have d2':48<=(chr s (i+1)).toNat:=N;have d3':(chr s (i+1)).toNat<=57:=O;refine⟨rfl,?_,⟨by omega,by omega⟩,by omega⟩
    rw[Fm.show,yB.cons];refine⟨by omega,hc,?_⟩
    rw[yB.one];exact⟨d1,(zC8 N O).symm⟩
   cases h
  split at h
  ·rename_i hc
   split at h
   ·cases h
   rename_i a j' hp
   obtain⟨rfl,rfl⟩:_=t/\j'=j:=by simpa using h
   obtain⟨d,e,g,u⟩:=bI m _ hp;refine⟨by rw[d,Fm.show,List.length_cons];omega,?_,g,u⟩
   rw[Fm.show,yB.cons];exact⟨by omega,hc,e⟩
  split at h
  ·rename_i hc
   split at h
   ·cases h
   rename_i a j' hp
   obtain⟨rfl,rfl⟩:_=t/\j'=j:=by simpa using h
   obtain⟨d,e,g,u⟩:=bI m _ hp;refine⟨by rw[d,Fm.show,List.length_cons];omega,?_,g,u⟩
   rw[Fm.show,yB.cons];exact⟨by omega,hc,e⟩
  split at h
  ·rename_i hc
   split at h
   ·cases h
   rename_i a j1 hp1
   split at h
   ·cases h
   rename_i j2 hn1
   split at h
   ·rename_i hk
    split at h
    ·cases h
    rename_i j3 hn2
    split at h
    ·cases h
    rename_i b j4 hp2
    split at h
    ·cases h
    rename_i j5 hn3
    obtain⟨rfl,rfl⟩:_=t/\j5=j:=by simpa using h
    obtain⟨a1,a2,a3,a4⟩:=bI m _ hp1;obtain⟨b1,b2,b3,b4⟩:=bI m _ hp2;obtain⟨K,U⟩:=vY.1 hn1;obtain⟨n2,m2⟩:=vY.1 hn2;obtain⟨n3,m3⟩:=vY.1 hn3;obtain⟨k1,k2⟩:=zIy hk.2;have J:=m3.le b4
    simp only[List.length_cons,List.length_nil,Nat.zero_add] at K n2 n3 J;refine⟨?_,?_,⟨k2,a3,b3⟩,by omega⟩
    ·rw[Fm.show,List.length_cons]
     simp only[List.length_append,List.length_cons,List.length_nil];omega
    rw[Fm.show,yB.cons];refine⟨by omega,hc,?_⟩
    rw[yB.app,yB.app,yB.app,yB.cons,yB.cons];simp only[List.length_append,List.length_cons,List.length_nil];rw[<-a1];refine⟨⟨⟨a2,(yB.one.1 U).1,(yB.one.1 U).2,by omega,by rw[k1,<-K],?_⟩,?_⟩,?_⟩
    ·rw[<-K];exact m2
    ·rw[show i+1+(a.show.length+(0+1+1+1))=j3 by omega]
     exact b2
    rw[show i+1+(a.show.length+(0+1+1+1)+b.show.length)=j4 by omega]
    exact m3
   cases h
  cases h
theorem zLs {s:List UInt8} (t:Fm) (h:t.ok):∀(m i:Nat),s.length-i<m->i<=s.length->yB s i t.show->prs s m i=.ok (t,i+t.show.length):=by
 induction t with
 |tt=>
  intro m i O N e;obtain⟨m,rfl⟩:∃k,m=k+1:=⟨m-1,by omega⟩
  have d:=(yB.cons.1 e);unfold prs;have hn:yY s [116,114,117,101] i=.ok (i+4):=vY.2 ⟨rfl,e⟩;rw[if_neg (by omega),if_pos d.2.1,hn]
  rfl
 |pr n=>
  intro m i O N e;obtain⟨m,rfl⟩:∃k,m=k+1:=⟨m-1,by omega⟩
  have d:=(yB.cons.1 e);have g:=yB.one.1 d.2.2;have hn:n.toNat<=9:=by have:=h.2;omega
  have hd:=zCh hn;unfold prs;rw[if_neg (by omega),if_neg (by rw[d.2.1];decide),if_pos d.2.1,g.2]
  have K:(48:UInt8)<=UInt8.ofNat (48+n.toNat):=by rw[UInt8.le_iff_toNat_le,hd];show 48<=_;omega
  have e2:UInt8.ofNat (48+n.toNat)<=(57:UInt8):=by rw[UInt8.le_iff_toNat_le,hd];show _<=57;omega
  rw[if_pos ⟨g.1,K,e2⟩,hd];have:=h.1
  simp[Fm.show]
  omega
 |no a ih=>
  intro m i O N e;obtain⟨m,rfl⟩:∃k,m=k+1:=⟨m-1,by omega⟩
  have d:=(yB.cons.1 e);unfold prs;rw[if_neg (by omega),if_neg (by rw[d.2.1];decide),if_neg (by rw[d.2.1];decide),if_pos d.2.1,ih h m (i+1) (by omega) (by omega) d.2.2]
  simp[Fm.show]
  omega
 |nx a ih=>
  intro m i O N e;obtain⟨m,rfl⟩:∃k,m=k+1:=⟨m-1,by omega⟩
  have d:=(yB.cons.1 e);unfold prs;rw[if_neg (by omega),if_neg (by rw[d.2.1];decide),if_neg (by rw[d.2.1];decide),if_neg (by rw[d.2.1];decide),if_pos d.2.1,ih h m (i+1) (by omega) (by omega) d.2.2]
  simp[Fm.show]
  omega
 |bi k a b iha ihb=>
  intro m i O N e;obtain⟨m,rfl⟩:∃k,m=k+1:=⟨m-1,by omega⟩
  obtain⟨d,g,h2⟩:=(yB.cons.1 e);rw[yB.app,yB.app,yB.app,yB.cons,yB.cons,yB.one] at h2;obtain⟨⟨⟨ha,hsp,j,hk1,hk2,u,J⟩,U⟩,hc⟩:=h2;simp only[List.length_append,List.length_cons,List.length_nil] at U hc
  have hle:=hc.le (by have:=U.le (by omega);omega)
  simp only[List.length_cons,List.length_nil] at hle;unfold prs
  rw[if_neg (by omega),if_neg (by rw[g];decide),if_neg (by rw[g];decide),if_neg (by rw[g];decide),if_neg (by rw[g];decide),if_pos g,iha h.2.1 m (i+1) (by omega) (by omega) ha]
  have n1:yY s [32] (i+1+a.show.length)=.ok (i+1+a.show.length+1):=vY.2 ⟨rfl,yB.one.2 ⟨hsp,j⟩⟩
  have n2:yY s [32] (i+1+a.show.length+1+1)=.ok (i+1+a.show.length+1+1+1):=vY.2 ⟨rfl,yB.one.2 ⟨u,J⟩⟩
  have K:i+1+a.show.length+1+1+1=i+1+(a.show.length+(0+1+1+1)):=by omega
  have kk:kI (chr s (i+1+a.show.length+1))=k:=by rw[hk2];exact zIT h.1
  have pb:=ihb h.2.2 m (i+1+a.show.length+1+1+1) (by omega) (by omega) (by rw[K];exact U)
  have n3:yY s [41] (i+1+a.show.length+1+1+1+b.show.length)=.ok (i+1+a.show.length+1+1+1+b.show.length+1):=vY.2 ⟨rfl,by rw[K];rw[show i+1+(a.show.length+(0+1+1+1))+b.show.length=i+1+(a.show.length+(0+1+1+1)+b.show.length) by omega];exact hc⟩
  have hk0:k≠0:=by have:=h.1;omega
  simp only[n1,kk,hk1,n2,pb,n3,ne_eq,hk0,not_false_eq_true,and_self,if_true]
  simp[Fm.show]
  omega
def opp (k:Int):Int:=if k=4 then 5 else if k=5 then 4 else if k=7 then 8 else if k=8 then 7 else k
def Fm.negV:Fm->Bool->List Nd->List Nd
 | .tt,b,o=>if xA o=true then o else if b then o++[⟨1,0,0,0⟩]++[⟨3,((o++[(⟨1,0,0,0⟩:Nd)]).length:Int)-1,0,0⟩] else o++[⟨1,0,0,0⟩]
 | .pr n,b,o=>if xA o=true then o else if b then o++[⟨2,0,0,n⟩]++[⟨3,((o++[(⟨2,0,0,n⟩:Nd)]).length:Int)-1,0,0⟩] else o++[⟨2,0,0,n⟩]
 | .no a,b,o=>if xA o=true then o else a.negV (!b) o
 | .nx a,b,o=>if xA o=true then o else a.negV b o++[⟨6,((a.negV b o).length:Int)-1,0,0⟩]
 | .bi k x y,b,o=>if xA o=true then o else y.negV b (x.negV b o)++[⟨if b then opp k else k,((x.negV b o).length:Int)-1,((y.negV b (x.negV b o)).length:Int)-1,0⟩]
end
section
open Go Go.RowKit Go.Shelf
theorem zGn {a a':ByteArray} {b d:Int} (e:a=a') (g:b=d):Ending.returned (.tuple #[.string a,b])=Ending.returned (.tuple #[.string a',d]):=by rw[e,g]
theorem oR (k:Int) (w:World):Calls Tryz.prog 110 #[k] w fun e w'=>e=.returned (opp k)/\Below w w w':=by
 go_enter Tryz.func110,Tryz.ntmps110
 by_cases h4:k=4
 ·subst h4;go_wp2;go_ret;exact⟨rfl,bRf⟩
 by_cases h5:k=5
 ·subst h5;go_wp2;go_ret;exact⟨rfl,bRf⟩
 by_cases h7:k=7
 ·subst h7;go_wp2;go_ret;exact⟨rfl,bRf⟩
 by_cases h8:k=8
 ·subst h8;go_wp2;go_ret;exact⟨rfl,bRf⟩
 have d:Hid (opp k=k):=by unfold Hid opp;rw[if_neg h4,if_neg h5,if_neg h7,if_neg h8]
 have g:(k==4)=false:=by simp[h4]
 have h:(k==5)=false:=by simp[h5]
 have i:(k==7)=false:=by simp[h7]
 have j:(k==8)=false:=by simp[h8]
 clear h4 h5 h7 h8
 go_wp2
 go_ret
 exact⟨zJ d.o.symm,bRf⟩
end
section
def Fm.sem (u:Nat->Int):Fm->Nat->Prop
 | .tt,_=>True
 | .pr n,i=>nI (u i) n.toNat=true
 | .no a,i=>¬a.sem u i
 | .nx a,i=>a.sem u (i+1)
 | .bi k a b,i=>
  if k=4 then a.sem u i/\b.sem u i
  else if k=5 then a.sem u i\/b.sem u i
  else if k=7 then ∃j,i<=j/\b.sem u j/\∀m,i<=m->m<j->a.sem u m
  else ∀j,i<=j->b.sem u j\/∃m,i<=m/\m<j/\a.sem u m
theorem iI {n a b:Int}:btw n a b=false↔¬(a<=n/\n<=b):=by
 rw[<-xH];simp
structure vF (f:List Nd):Prop where
 pos:0<f.length
 few:xA f=false
 nd:∀i,(h:i<f.length)->kK f[i] i=0
theorem oE {f:List Nd}:∀(m k:Nat),f.length<=k+m->mQ (f.drop k) k=0->∀i,k<=i->(h:i<f.length)->kK f[i] i=0
 |0,k,hm,_,i,h1,h2=>absurd h2 (by omega)
 |m+1,k,hm,h,i,h1,h2=>by
  have d:k<f.length:=by omega
  rw[fP d] at h
  split at h
  ·rename_i h0
   rcases Nat.eq_or_lt_of_le h1 with rfl|h3
   ·exact h0
   exact oE m (k+1) (by omega) h i h3 h2
  rename_i h0;exact absurd h h0
theorem zCi {f:List Nd} (h:∀i,(h:i<f.length)->kK f[i] i=0):∀(m k:Nat),f.length<=k+m->mQ (f.drop k) k=0
 |0,k,hm=>lO (by omega)
 |m+1,k,hm=>by
  rcases Nat.lt_or_ge k f.length with hk|hk
  ·rw[fP hk,if_pos (h k hk)]
   exact zCi h m (k+1) (by omega)
  exact lO hk
theorem cM {f:List Nd}:ckF f=0↔vF f:=by
 unfold ckF
 constructor
 ·intro h
  split at h
  ·cases h
  rename_i e
  split at h
  ·cases h
  rename_i d
  exact⟨by omega,by simpa using d,fun i j=>oE f.length 0 (by omega) (by simpa using h) i (Nat.zero_le _) j⟩
 rintro⟨e,d,g⟩;rw[if_neg (by omega),if_neg (by simp[d])]
 exact zCi g f.length 0 (by omega)
structure zLA (x:Nd) (i:Int):Prop where
 k:1<=x.k/\x.k<=8
 a:3<=x.k->0<=x.a/\x.a<i
 b:(x.k=4\/x.k=5\/x.k=7\/x.k=8)->0<=x.b/\x.b<i
 n:x.k=2->0<=x.n/\x.n<=2
 a0:x.k<3->x.a=0
 b0:¬(x.k=4\/x.k=5\/x.k=7\/x.k=8)->x.b=0
 n0:x.k≠2->x.n=0
theorem jO {x:Nd} {i:Int}:kK x i=0↔zLA x i:=by
 unfold kK
 constructor
 ·intro h
  split at h
  ·cases h
  rename_i d
  split at h
  ·cases h
  rename_i e
  split at h
  ·cases h
  rename_i g
  split at h
  ·cases h
  rename_i j
  simp only[Bool.not_eq_false,xH,nmA,nmB,nmN,Bool.or_eq_true,Bool.and_eq_true,Bool.not_eq_true',iI,beq_iff_eq,bne_iff_ne,ne_eq,beq_eq_false_iff_ne,Bool.or_eq_false_iff] at d e g j
  refine⟨Classical.not_not.1 d,?_,?_,?_,?_,?_,?_⟩<;>intros<;>omega
 rintro⟨d,e,g,j,m,s,u⟩;rw[if_neg,if_neg,if_neg,if_neg]
 all_goals
  simp only[Bool.not_eq_false,xH,nmA,nmB,nmN,Bool.or_eq_true,Bool.and_eq_true,Bool.not_eq_true',iI,beq_iff_eq,bne_iff_ne,ne_eq,beq_eq_false_iff_ne,Bool.or_eq_false_iff];omega
end
section
open Go Go.RowKit Go.Sort
def sb (bs:List UInt8):ByteArray:=⟨bs.toArray⟩
theorem zAX (a b:List UInt8):sb a++sb b=sb (a++b):=by
 apply ByteArray.ext
 simp[sb,ByteArray.data_append]
theorem aM (a:List UInt8):(sb a).size=a.length:=by simp[sb,ByteArray.size]
def dgt (n:Nat):List UInt8:=[UInt8.ofNat (48+n)]
theorem zJC (n:Nat) (d:n<=9) (w:World):Calls Tryz.prog 176 #[n] w fun e w'=>e=.returned (.string (sb (dgt n)))/\Below w w w':=by
 go_enter Tryz.func176,Tryz.ntmps176
 have h:n=0\/n=1\/n=2\/n=3\/n=4\/n=5\/n=6\/n=7\/n=8\/n=9:=by omega
 rcases h with rfl|rfl|rfl|rfl|rfl|rfl|rfl|rfl|rfl|rfl
 all_goals
  go_wp2_with fail
  go_ret
  exact⟨by rfl,by go_grown⟩
theorem zLe (n:Nat) (j:n<=9) (w:World):Calls Tryz.prog 82 #[n] w fun e w'=>e=.returned (.string (sb (dgt n)))/\Below w w w':=by
 have h:Hid (∀ W,Calls Tryz.prog 157 #[n,(10:Int)] W fun e w'=>e=.returned (.string (sb (dgt n)))/\Below W W w'):=by
  intro W;have m:(0:Int)<=(n:Int):=by omega
  have s:(n:Int)<100:=by omega
  go_enter Tryz.func157,Tryz.ntmps157
  go_wp2_with fail
  refine(zJC n j W).mono ?_;rintro e w' ⟨rfl,d⟩;have g:=hId d;clear d
  go_wp2_with fail
  go_ret
  exact⟨rfl,g.o⟩
 have i:Hid (∀ W,Calls Tryz.prog 129 #[n] W fun e w'=>e=.returned (.string (sb (dgt n)))/\Below W W w'):=by
  intro W
  go_enter Tryz.func129,Tryz.ntmps129
  go_wp2_with fail
  refine(h.o W).mono ?_;rintro e w' ⟨rfl,d⟩;have g:=hId d;clear d
  go_wp2_with fail
  go_ret
  exact⟨rfl,g.o⟩
 go_enter Tryz.func82,Tryz.ntmps82
 go_wp2_with fail
 refine(i.o w).mono ?_;rintro e w' ⟨rfl,d⟩;have g:=hId d;clear d
 go_wp2_with fail
 go_ret
 exact⟨rfl,g.o⟩
def nZ (v:Value):Option (DataW Unit×List MemPlace):=
 match v with
 | .agg cs=>(match cs.toList with|[.string s]=>some (.lit (.string s.data.toList),[])|_=>none)
 |_=>none
theorem zDM {v:Value} {d:List UInt8} {ps:List MemPlace} (h:nZ v=some (.lit (.string d),ps)):v=.agg #[.string (sb d)]:=by
 unfold nZ at h
 split at h
 ·rename_i cs
  split at h
  ·rename_i s hs
   simp at h
   obtain⟨e,_⟩:=h;obtain⟨g⟩:=cs
   simp at hs
   subst hs;rw[<-e];rfl
  cases h
 cases h
theorem zBU (a:Int) (h:(Lit.int .i64 a).wf=true):keyOf Tryz.prog 3 a=some (.int .i64 a):=Maps.keyOf_int_mk Tryz.underlying3 h
theorem zKm (w:World):(zeroValue 219).run Tryz.prog w=.ok (.agg #[.string (sb [])]) w:=by kernel_rfl
theorem zLk (s:ByteArray) (w:World):(Instr.field 219 (.agg #[.string s]) 0).run Tryz.prog w=.ok (.string s) w:=by kernel_rfl
theorem zK2 (k:Int) (s:k=4\/k=5\/k=7\/k=8) (w:World):Calls Tryz.prog 138 #[k] w fun e w'=>e=.returned (.string (sb [sgn k]))/\Below w w w':=by
 have hmm:=@run_makeMap Tryz.prog;have hfl:=zLk;have K:=Maps.int_keyed (P:=Tryz.prog) Tryz.underlying3;have J:(w.alloc (.map #[] 0)).ownsMap Tryz.prog 3 nZ w.heap.size 0 (.map []):=World.ownsMap_made _ _ _ _
 obtain⟨w1,r1,N,i⟩:=J.update K Tryz.underlying220 (by decide) (zBU 4 (by decide)) (show nZ (.agg #[.string ⟨#[38]⟩])=some (.lit (.string [38]),[]) from rfl)
 obtain⟨w2,r2,O,j⟩:=N.update K Tryz.underlying220 (by decide) (zBU 5 (by decide)) (show nZ (.agg #[.string ⟨#[124]⟩])=some (.lit (.string [124]),[]) from rfl)
 obtain⟨w3,r3,U,g3⟩:=O.update K Tryz.underlying220 (by decide) (zBU 7 (by decide)) (show nZ (.agg #[.string ⟨#[85]⟩])=some (.lit (.string [85]),[]) from rfl)
 obtain⟨w4,r4,o4,m⟩:=U.update K Tryz.underlying220 (by decide) (zBU 8 (by decide)) (show nZ (.agg #[.string ⟨#[82]⟩])=some (.lit (.string [82]),[]) from rfl)
 obtain⟨v,ps,r5,u⟩:=o4.lookup K Tryz.underlying220 (zKm w4) (show nZ (.agg #[.string ⟨#[]⟩])=some (.lit (.string []),[]) from rfl) (zBU k (by rcases s with rfl|rfl|rfl|rfl<;>decide))
 have d:v=.agg #[.string (sb [sgn k])]:=by
  refine zDM (ps:=ps) (u.trans ?_)
  rcases s with rfl|rfl|rfl|rfl<;>rfl
 subst d
 have HB:Hid (Below w w w4):=by
  have h0:Below w w (w.alloc (.map #[] 0)):=bLa
  have f:∀{A B:World},Below w w A->A.grownBy B (some w.heap.size)->Below w w B:=fun h g=>h.grown g h.size (fun k e=>by cases e;exact nLe)
  exact f (f (f (f h0 i) j) g3) m
 clear u J N O U o4 i j g3 m K
 go_enter Tryz.func138,Tryz.ntmps138
 go_wp2_with fail
 go_ret
 exact⟨rfl,HB.o⟩
structure zL9 (x:Nd) (i:Int):Prop where
 k1:1<=x.k
 k8:x.k<=8
 a:nmA x.k=true->0<=x.a/\x.a<i
 b:nmB x.k=true->0<=x.b/\x.b<i
 n:x.k=2->0<=x.n/\x.n<=2
theorem zFY {x:Nd} {i:Int} (h:kK x i=0):zL9 x i:=by
 unfold kK at h
 split at h
 ·cases h
 rename_i h1
 split at h
 ·cases h
 rename_i h2
 split at h
 ·cases h
 rename_i h3
 simp only[Bool.not_eq_false,xH] at h1;refine⟨h1.1,h1.2,fun d=>?_,fun e=>?_,fun g=>?_⟩
 ·have:btw x.a 0 (i-1)=true:=by
   cases hb:btw x.a 0 (i-1) with
   |true=>rfl
   |false=>exact absurd (by simp[d,hb]) h2
  have:=(xH _ _ _).1 this;omega
 ·have:btw x.b 0 (i-1)=true:=by
   cases hb:btw x.b 0 (i-1) with
   |true=>rfl
   |false=>exact absurd (by simp[e,hb]) h2
  have:=(xH _ _ _).1 this;omega
 have:btw x.n 0 2=true:=by
  cases hb:btw x.n 0 2 with
  |true=>rfl
  |false=>exact absurd (by simp[nmN,g,hb]) h3
 have:=(xH _ _ _).1 this;omega
theorem uK {f:List Nd} {i:Nat} (h:i<f.length) (x:Nd) (d:f[i]=x):zB f i=mD (xY f i) x:=by
 unfold zB;rw[List.getD_eq_getElem?_getD,List.getElem?_eq_getElem h,d];rfl
theorem kid {f:List Nd} {i:Nat} {a:Int} (h:0<=a/\a<i):(xY f i).getD a.toNat .tt=zB f a.toNat:=vM f i _ (by omega)
theorem zCC {f:List Nd} (ho:vF f):∀(i:Nat),i<f.length->(zB f i).show.length+5<=6*2^(i+1):=by
 intro i
 induction i using Nat.strongRecOn with
 |_ i ih=>
  intro K;have s:=zFY (ho.nd i K);rw[uK K _ rfl];generalize f[i]=x at *;obtain⟨h1,h8,m,O,hn⟩:=s;have d:∀j,j<i->2^(j+1)<=2^i:=fun j U=>Nat.pow_le_pow_right (by decide) U
  have e2:2^(i+1)=2*2^i:=by rw[Nat.pow_succ,Nat.mul_comm]
  have h0:1<=2^i:=Nat.one_le_two_pow
  unfold mD
  split
  ·simp[Fm.show];omega
  split
  ·simp[Fm.show];omega
  split
  ·rename_i e
   have g:=m (by rw[e];decide)
   rw[kid g];have u:=ih x.a.toNat (by omega) (by omega)
   have J:=d x.a.toNat (by omega)
   simp only[Fm.show,List.length_cons];omega
  split
  ·rename_i e
   have g:=m (by rw[e];decide)
   rw[kid g];have u:=ih x.a.toNat (by omega) (by omega)
   have J:=d x.a.toNat (by omega)
   simp only[Fm.show,List.length_cons];omega
  rename_i k1 k2 k3 k6
  have e:x.k=4\/x.k=5\/x.k=7\/x.k=8:=by omega
  have g:=m (by rcases e with h|h|h|h<;>rw[h]<;>decide)
  have N:=O (by rcases e with h|h|h|h<;>rw[h]<;>decide)
  rw[kid g,kid N];have u:=ih x.a.toNat (by omega) (by omega)
  have J:=d x.a.toNat (by omega)
  have h5:=ih x.b.toNat (by omega) (by omega)
  have h6:=d x.b.toNat (by omega)
  simp only[Fm.show,List.length_cons,List.length_append,List.length_nil];omega
theorem zHp {f:List Nd} (d:vF f) {i:Nat} (e:i<f.length):(sb (zB f i).show).size<=30000:=by
 have g:=zCC d i e
 have h:f.length<=12:=by
  have:=d.few;unfold xA at this;simp only[Bool.or_eq_false_iff,decide_eq_false_iff_not] at this;omega
 have j:2^(i+1)<=2^12:=Nat.pow_le_pow_right (by decide) (by omega)
 rw[aM];have:(2:Nat)^12=4096:=by decide
 omega
theorem zLp (f:List Nd) (F:Option Addr) (fc:Nat) (w:World) (hf:Nds w 0 F fc f) (ho:vF f):∀(i:Nat),i<f.length->∀W,Below w w W->
  Calls Tryz.prog 100 #[.slice F f.length fc,i] W fun e w'=>e=.returned (.string (sb (zB f i).show))/\Below W W w':=by
 intro i
 induction i using Nat.strongRecOn with
 |_ i ih=>
  intro hi W hW;have HF:=hId hf;obtain⟨b,o,rfl,_,_,q0,q1,q2,q3⟩:=Nds.at_ (hf.below hW) hi;obtain⟨x,hx⟩:∃x,x=f[i]:=⟨_,rfl⟩;rw[<-hx] at q0 q1 q2 q3
  have K:Hid (∀ j,j<i->(sb (zB f j).show).size<=30000):=fun j hj=>zHp ho (by omega)
  have u:=zFY (ho.nd i hi);rw[<-hx] at u;have hfc:=hf.le;have HT:Hid (zB f i=mD (xY f i) x):=uK hi x hx.symm;have m:=hId u;have U:=hId hW;have IH:=hId ih;have hk1:=u.k1;have hk8:=u.k8;clear hf hx u hW ih ho
  obtain⟨k,a,bb,n⟩:=x;simp only at q0 q1 q2 q3 hk1 hk8
  go_enter Tryz.func100,Tryz.ntmps100
  have h:k=1\/k=2\/k=3\/k=6\/(k=4\/k=5\/k=7\/k=8):=by omega
  rcases h with rfl|rfl|rfl|rfl|hk
  ·have J:Hid (Ending.returned (.string ⟨#[116,114,117,101]⟩)=Ending.returned (.string (sb (zB f i).show))):=by show _=_;rw[HT.o];rfl
   go_wp2_with fail
   go_ret
   exact⟨J.o,by go_grown⟩
  ·have hn:=m.o.n rfl
   simp only at hn;obtain⟨N,rfl⟩:=Int.eq_ofNat_of_zero_le hn.1
   have J:Hid (Ending.returned (.string (⟨#[112]⟩++sb (dgt N)))=Ending.returned (.string (sb (zB f i).show))):=by
    show _=_;rw[HT.o,show(⟨#[112]⟩:ByteArray)=sb [112] from rfl,zAX];rfl
   have hN:N<=9:=by omega
   go_wp2_with fail
   refine(zLe N hN _).mono ?_;rintro e w2 ⟨rfl,d⟩;have g:=hId (zA ((Below.refl _ W).alloc nLe _) d (by simp))
   clear d
   go_wp2_with fail
   go_ret
   exact⟨J.o,g.o⟩
  ·have s:=m.o.a rfl
   simp only at s;obtain⟨X,rfl⟩:=Int.eq_ofNat_of_zero_le s.1
   have J:Hid (Ending.returned (.string (⟨#[33]⟩++sb (zB f X).show))=Ending.returned (.string (sb (zB f i).show))):=by
    show _=_;rw[HT.o,show(⟨#[33]⟩:ByteArray)=sb [33] from rfl,zAX];show _=Ending.returned (.string (sb (Fm.show (.no ((xY f i).getD ((X:Int)).toNat .tt)))));rw[kid s];rfl
   have HC:=hId (fun O h2=>IH.o X (by omega) (by omega) O h2)
   have hz:=K.o X (by omega)
   generalize sb (zB f X).show=S at *
   go_wp2_with fail
   refine(HC.o _ (zA U.o ((Below.refl _ W).alloc nLe _) U.o.size)).mono ?_;rintro e w2 ⟨rfl,d⟩;have g:=hId (zA ((Below.refl _ W).alloc nLe _) d (by simp))
   clear d
   go_wp2_with fail
   go_ret
   exact⟨J.o,g.o⟩
  ·have s:=m.o.a rfl
   simp only at s;obtain⟨X,rfl⟩:=Int.eq_ofNat_of_zero_le s.1
   have J:Hid (Ending.returned (.string (⟨#[88]⟩++sb (zB f X).show))=Ending.returned (.string (sb (zB f i).show))):=by
    show _=_;rw[HT.o,show(⟨#[88]⟩:ByteArray)=sb [88] from rfl,zAX];show _=Ending.returned (.string (sb (Fm.show (.nx ((xY f i).getD ((X:Int)).toNat .tt)))));rw[kid s];rfl
   have HC:=hId (fun O h2=>IH.o X (by omega) (by omega) O h2)
   have hz:=K.o X (by omega)
   generalize sb (zB f X).show=S at *
   go_wp2_with fail
   refine(HC.o _ (zA U.o ((Below.refl _ W).alloc nLe _) U.o.size)).mono ?_;rintro e w2 ⟨rfl,d⟩;have g:=hId (zA ((Below.refl _ W).alloc nLe _) d (by simp))
   clear d
   go_wp2_with fail
   go_ret
   exact⟨J.o,g.o⟩
  have s:=m.o.a (by rcases hk with rfl|rfl|rfl|rfl<;>rfl)
  have hb:=m.o.b (by rcases hk with rfl|rfl|rfl|rfl<;>rfl)
  simp only at s hb;obtain⟨X,rfl⟩:=Int.eq_ofNat_of_zero_le s.1;obtain⟨Y,rfl⟩:=Int.eq_ofNat_of_zero_le hb.1
  have J:Hid (Ending.returned (.string (⟨#[40]⟩++sb (zB f X).show++⟨#[32]⟩++sb [sgn k]++⟨#[32]⟩++sb (zB f Y).show++⟨#[41]⟩))=Ending.returned (.string (sb (zB f i).show))):=by
   show _=_;rw[HT.o,show(⟨#[40]⟩:ByteArray)=sb [40] from rfl,show(⟨#[32]⟩:ByteArray)=sb [32] from rfl,show(⟨#[41]⟩:ByteArray)=sb [41] from rfl];simp only[zAX];unfold mD;simp only
   rw[if_neg (by omega),if_neg (by omega),if_neg (by omega),if_neg (by omega),kid s,kid hb]
   simp[Fm.show]
  have CX:=hId (jM (w:=W.alloc (.cells #[k,(X:Int),(Y:Int),n] 63)) fun O h2=>IH.o X (by omega) (by omega) O (zA U.o (zA ((Below.refl _ W).alloc nLe _) h2 (by simp)) U.o.size))
  have CY:=hId (jM (w:=W.alloc (.cells #[k,(X:Int),(Y:Int),n] 63)) fun O h2=>IH.o Y (by omega) (by omega) O (zA U.o (zA ((Below.refl _ W).alloc nLe _) h2 (by simp)) U.o.size))
  have CS:=hId (jM (w:=W.alloc (.cells #[k,(X:Int),(Y:Int),n] 63)) fun O h2=>zK2 k hk O)
  have HBA:Hid (Below W W (W.alloc (.cells #[k,(X:Int),(Y:Int),n] 63))):=(Below.refl _ W).alloc nLe _
  have hz1:=K.o X (by omega)
  have hz2:=K.o Y (by omega)
  have hz3:(sb [sgn k]).size=1:=by rw[aM];rfl
  have k1:(k==1)=false:=by simp;omega
  have k2:(k==2)=false:=by simp;omega
  have k3:(k==3)=false:=by simp;omega
  have k6:(k==6)=false:=by simp;omega
  generalize sb (zB f X).show=S1 at *;generalize sb (zB f Y).show=S2 at *;generalize sb [sgn k]=S3 at *;clear hk
  go_upto_region 11 with fail
  have e0:=cell_regrown (w:=W.alloc (.cells #[k,(X:Int),(Y:Int),n] 63)) (a:=⟨W,0,none⟩) (v:=.int .i64 k) (by go_simp)
  have e1:=cell_regrown (w:=W.alloc (.cells #[k,(X:Int),(Y:Int),n] 63)) (a:=⟨W.heap.size,1,none⟩) (v:=.int .i64 (X:Int)) (by go_simp)
  have e2:=cell_regrown (w:=W.alloc (.cells #[k,(X:Int),(Y:Int),n] 63)) (a:=⟨W.heap.size,2,none⟩) (v:=.int .i64 (Y:Int)) (by go_simp)
  generalize W.alloc (.cells #[k,(X:Int),(Y:Int),n] 63)=W1 at *;refine wp_region_quiet_below (by kernel_rfl) (by kernel_rfl) ?_
  repeat(go_big_quiet_step (first|with_reducible exact CX.o _ _|with_reducible exact CS.o _ _|with_reducible exact CY.o _ _))
  refine wpQuiet_nil ?_;intro _ hw';obtain⟨⟨dq,osq⟩,hw''⟩:=hw';subst hw'';have HB4:=hId (wS HBA.o HBA.o.size dq osq);clear e0 e1 e2 q0 q1 q2 q3 CX CY CS;generalize grow (redrawn W1 dq) osq=w4 at *
  go_wp2_with fail
  go_ret
  exact⟨J.o,HB4.o⟩
end
section
open Go Go.RowKit Go.Shelf
theorem pL (t:Fm):∀b o,(t.negV b o).length<=o.length+2*t.show.length:=by
 induction t with
 |tt=>intro b o;unfold Fm.negV;split<;>cases b<;>simp[Fm.show]
 |pr n=>intro b o;unfold Fm.negV;split<;>cases b<;>simp[Fm.show]
 |no a ih=>intro b o;unfold Fm.negV;have:=ih (!b) o;split<;>simp[Fm.show]<;>omega
 |nx a ih=>intro b o;unfold Fm.negV;have:=ih b o;split<;>simp[Fm.show]<;>omega
 |bi k x y ihx ihy=>intro b o;unfold Fm.negV;have d:=ihx b o;have e:=ihy b (x.negV b o);split<;>simp[Fm.show]<;>omega
theorem zFK {x:Nd} {i:Int} (h:kK x i=0) (d:x.k=1):x.a=0/\x.b=0/\x.n=0:=by
 obtain⟨k,a,b,n⟩:=x;simp only at d;subst d
 simp[kK,btw,nmA,nmB,nmN] at h
 show a=0/\b=0/\n=0;omega
theorem zHx {x:Nd} {i:Int} (h:kK x i=0) (d:x.k=2):x.a=0/\x.b=0:=by
 obtain⟨k,a,b,n⟩:=x;simp only at d;subst d
 simp[kK,btw,nmA,nmB,nmN] at h
 show a=0/\b=0;omega
theorem zKu (f:List Nd) (F:Option Addr) (fc:Nat) (w:World) (hf:Nds w 0 F fc f) (ho:vF f) (base:Nat) (K:w.heap.size<=base):∀(i:Nat),i<f.length->∀(U:Bool) (o:List Nd) (W0 W:World) (row:Option Nat) (v:Value),Below w w W->base<=W.heap.size->
  wJ base W0 row W v o->o.length+2*(zB f i).show.length<=100000->
  Calls Tryz.prog 72 #[v,.slice F f.length fc,i,U] W (NTo base ((zB f i).negV U o) v W):=by
 intro i
 induction i using Nat.strongRecOn with
 |_ i ih=>
  intro hi U o W0 W row v hW hbW hown' hsz;have hown:wJ base W v.ownBlock W v o:=wJ.refl hown'.own;clear hown';have HF:=hId hf;obtain⟨T,c,rfl,hnds⟩:=hown.form (by omega)
  have HM:=hId (zEj T c o W hnds.zero);have hole:=hnds.le;have hocp:=hnds.cap;obtain⟨b,of,rfl,_,hbl,q0,q1,q2,q3⟩:=Nds.at_ (hf.below hW) hi;obtain⟨x,hx⟩:∃x,x=f[i]:=⟨_,rfl⟩;rw[<-hx] at q0 q1 q2 q3
  have hok:=zFY (ho.nd i hi);rw[<-hx] at hok;have hfc:=hf.le;have HT:Hid (zB f i=mD (xY f i) x):=uK hi x hx.symm;have HOK:=hId hok;have hz0:=ho.nd i hi;rw[<-hx] at hz0
  have h7:Hid (x.k=1->x.a=0/\x.b=0/\x.n=0):=fun h=>zFK hz0 h
  have HZ2:Hid (x.k=2->x.a=0/\x.b=0):=fun h=>zHx hz0 h
  clear hz0;have HW:=hId hW;have IH:=hId ih;have HO:=hId hown;have HSZ:=hId hsz;have hk1:=hok.k1;have hk8:=hok.k8;have hol:o.length<=100000:=by omega
  clear hf hx hok hW ih ho hnds hown hsz
  go_enter Tryz.func72,Tryz.ntmps72
  go_wp2_with fail
  refine HM.o.mono ?_;rintro e N ⟨rfl,h8⟩;have J:=hId (HO.o.below h8);have HB1:=hId h8
  by_cases hm:xA o=true
  ·have HP:Hid ((zB f i).negV U o=o):=by
    show _=_;generalize zB f i=t
    cases t<;>(unfold Fm.negV;rw[if_pos hm])
   clear h8
   go_wp2_with fail
   go_ret
   exact⟨_,rfl,by rw[HP.o];exact J.o⟩
  have hm':xA o=false:=by simpa using hm
  have y0:=(h8.cell (p:=⟨b,of+i*4,none⟩) hbl).trans q0;have y1:=(h8.cell (p:=⟨b,of+i*4+1,none⟩) hbl).trans q1;have y2:=(h8.cell (p:=⟨b,of+i*4+2,none⟩) hbl).trans q2
  have y3:=(h8.cell (p:=⟨b,of+i*4+3,none⟩) hbl).trans q3;have hs1:=h8.size;have h6:Hid (base<=N.heap.size):=Nat.le_trans hbW hs1;clear h8 q0 q1 q2 q3 hm HM;obtain⟨k,a,bb,n⟩:=x;simp only at y0 y1 y2 y3 hk1 hk8
  have h:k=1\/k=2\/k=3\/k=6\/(k=4\/k=5\/k=7\/k=8):=by omega
  rcases h with rfl|rfl|rfl|rfl|hk
  ·obtain⟨rfl,rfl,rfl⟩:a=0/\bb=0/\n=0:=h7.o rfl
   have HN:Hid ((zB f i).negV U o=if U then o++[⟨1,0,0,0⟩]++[⟨3,((o++[(⟨1,0,0,0⟩:Nd)]).length:Int)-1,0,0⟩] else o++[⟨1,0,0,0⟩]):=by
    show _=_;rw[HT.o];show Fm.negV (.tt) U o=_;unfold Fm.negV;rw[if_neg (by simp[hm'])]
   have g:=hId (J.o.alloc (.cells #[(1:Int),(0:Int),(0:Int),(0:Int)] 63));obtain⟨T3,c3,w3,h4,O,hg3⟩:=g.o.app ⟨1,0,0,0⟩ (by omega) (by simp;exact Nat.le_succ_of_le h6.o)
   have HGS:Hid (N.heap.size<=w3.heap.size):=by have:=hg3.size;simp at this;show _<=_;omega
   clear hg3
   cases U with
   |false=>
    have HR3:=hId h4;have u:=hId O;clear h4 O
    go_wp2_with (at_builtin;refine zQ rfl (.tmp 25) (.tmp 27) _ _ rfl (.slice T o.length c) (.slice (some ⟨(N.alloc (.cells #[(1:Int),(0:Int),(0:Int),(0:Int)] 63)).heap.size,0,none⟩) 1 1) (.slice T3 (o.length+1) c3) (by go_simp) (by go_simp) HR3.o ?_)
    go_ret
    exact⟨_,rfl,by rw[HN.o];exact u.o⟩
   |true=>
    have HN':Hid ((zB f i).negV true o=o++[(⟨1,0,0,0⟩:Nd)]++[⟨3,((o++[(⟨1,0,0,0⟩:Nd)]).length:Int)-1,0,0⟩]):=HN.o
    have hlo:o.length+1=(o++[(⟨1,0,0,0⟩:Nd)]).length:=by simp
    rw[hlo] at h4 O;clear HN;generalize o++[(⟨1,0,0,0⟩:Nd)]=o1 at *;have j:=O.form (by omega)
    have HR3:=hId h4;have u:=hId O;clear h4 O;obtain⟨T4,c4,w4,h5,h3,hg4⟩:=u.o.app ⟨3,(o1.length:Int)-1,0,0⟩ (by omega) (Nat.le_trans h6.o HGS.o)
    have HR4:=hId h5;have HO4:=hId h3;clear h5 h3 hg4;obtain⟨A3,cc3,he3,h2⟩:=j;obtain⟨rfl,_,rfl⟩:T3=A3/\o1.length=o1.length/\c3=cc3:=by simpa using he3
    have hq1:=h2.le;have hq2:=h2.cap;clear h2 he3
    go_wp2_with (at_builtin;first|(refine zQ rfl (.tmp 25) (.tmp 27) _ _ rfl (.slice T o.length c) (.slice (some ⟨(N.alloc (.cells #[(1:Int),(0:Int),(0:Int),(0:Int)] 63)).heap.size,0,none⟩) 1 1) (.slice T3 o1.length c3) (by go_simp) (by go_simp) HR3.o ?_)|(refine zQ rfl (.tmp 30) (.tmp 35) _ _ rfl (.slice T3 o1.length c3) (.slice (some ⟨w3,0,none⟩) 1 1) (.slice T4 (o1.length+1) c4) (by go_simp) (by go_simp) HR4.o ?_))
    go_ret
    exact⟨_,rfl,by rw[HN'.o];exact HO4.o⟩
  ·obtain⟨rfl,rfl⟩:a=0/\bb=0:=HZ2.o rfl
   have HN:Hid ((zB f i).negV U o=if U then o++[⟨2,0,0,n⟩]++[⟨3,((o++[(⟨2,0,0,n⟩:Nd)]).length:Int)-1,0,0⟩] else o++[⟨2,0,0,n⟩]):=by
    show _=_;rw[HT.o];show Fm.negV (.pr n) U o=_;unfold Fm.negV;rw[if_neg (by simp[hm'])]
   have g:=hId (J.o.alloc (.cells #[(2:Int),(0:Int),(0:Int),n] 63));obtain⟨T3,c3,w3,h4,O,hg3⟩:=g.o.app ⟨2,0,0,n⟩ (by omega) (by simp;exact Nat.le_succ_of_le h6.o)
   have HGS:Hid (N.heap.size<=w3.heap.size):=by have:=hg3.size;simp at this;show _<=_;omega
   clear hg3
   cases U with
   |false=>
    have HR3:=hId h4;have u:=hId O;clear h4 O
    go_wp2_with (at_builtin;refine zQ rfl (.tmp 25) (.tmp 27) _ _ rfl (.slice T o.length c) (.slice (some ⟨(N.alloc (.cells #[(2:Int),(0:Int),(0:Int),n] 63)).heap.size,0,none⟩) 1 1) (.slice T3 (o.length+1) c3) (by go_simp) (by go_simp) HR3.o ?_)
    go_ret
    exact⟨_,rfl,by rw[HN.o];exact u.o⟩
   |true=>
    have HN':Hid ((zB f i).negV true o=o++[(⟨2,0,0,n⟩:Nd)]++[⟨3,((o++[(⟨2,0,0,n⟩:Nd)]).length:Int)-1,0,0⟩]):=HN.o
    have hlo:o.length+1=(o++[(⟨2,0,0,n⟩:Nd)]).length:=by simp
    rw[hlo] at h4 O;clear HN;generalize o++[(⟨2,0,0,n⟩:Nd)]=o1 at *;have j:=O.form (by omega)
    have HR3:=hId h4;have u:=hId O;clear h4 O;obtain⟨T4,c4,w4,h5,h3,hg4⟩:=u.o.app ⟨3,(o1.length:Int)-1,0,0⟩ (by omega) (Nat.le_trans h6.o HGS.o)
    have HR4:=hId h5;have HO4:=hId h3;clear h5 h3 hg4;obtain⟨A3,cc3,he3,h2⟩:=j;obtain⟨rfl,_,rfl⟩:T3=A3/\o1.length=o1.length/\c3=cc3:=by simpa using he3
    have hq1:=h2.le;have hq2:=h2.cap;clear h2 he3
    go_wp2_with (at_builtin;first|(refine zQ rfl (.tmp 25) (.tmp 27) _ _ rfl (.slice T o.length c) (.slice (some ⟨(N.alloc (.cells #[(2:Int),(0:Int),(0:Int),n] 63)).heap.size,0,none⟩) 1 1) (.slice T3 o1.length c3) (by go_simp) (by go_simp) HR3.o ?_)|(refine zQ rfl (.tmp 30) (.tmp 35) _ _ rfl (.slice T3 o1.length c3) (.slice (some ⟨w3,0,none⟩) 1 1) (.slice T4 (o1.length+1) c4) (by go_simp) (by go_simp) HR4.o ?_))
    go_ret
    exact⟨_,rfl,by rw[HN'.o];exact HO4.o⟩
  ·have ha:=HOK.o.a rfl
   simp only at ha;obtain⟨X,rfl⟩:=Int.eq_ofNat_of_zero_le ha.1
   have HE:Hid (zB f i=.no (zB f X)):=by
    show _=_;rw[HT.o];show Fm.no ((xY f i).getD ((X:Int)).toNat .tt)=_;rw[kid ha];rfl
   have g:=hId (J.o.alloc (.cells #[(3:Int),(X:Int),bb,n] 63))
   have HC:=hId (IH.o X (by omega) (by omega) (!U) o _ _ _ _ (g.o.belowB HW.o HW.o.size (fun k hk=>Nat.le_trans K (J.o.own.lt k hk).1)) (by simp;exact Nat.le_succ_of_le h6.o) g.o (by have:=HSZ.o;rw[HE.o] at this;simp only[Fm.show,List.length_cons] at this;omega))
   have HN:Hid ((zB f i).negV U o=(zB f X).negV (!U) o):=by
    show _=_;rw[HE.o,Fm.negV,if_neg (by simp[hm'])]
   go_wp2_with fail
   refine HC.o.mono ?_;rintro e w3 ⟨v3,rfl,d⟩;have u:=hId (g.o.call d);clear d
   go_wp2_with fail
   go_ret
   exact⟨_,rfl,by rw[HN.o];exact u.o⟩
  ·have ha:=HOK.o.a rfl
   simp only at ha;obtain⟨X,rfl⟩:=Int.eq_ofNat_of_zero_le ha.1
   have HE:Hid (zB f i=.nx (zB f X)):=by
    show _=_;rw[HT.o];show Fm.nx ((xY f i).getD ((X:Int)).toNat .tt)=_;rw[kid ha];rfl
   have h1:=hId (J.o.alloc (.cells #[(6:Int),(X:Int),bb,n] 63))
   have HN:Hid ((zB f i).negV U o=(zB f X).negV U o++[⟨6,(((zB f X).negV U o).length:Int)-1,0,0⟩]):=by
    show _=_;rw[HE.o,Fm.negV,if_neg (by simp[hm'])]
   have HK:Hid (o.length+2*((zB f X).show.length+1)<=100000):=by have:=HSZ.o;rw[HE.o] at this;exact this
   have HZ0:Hid ((N.alloc (.cells #[(6:Int),(X:Int),bb,n] 63)).cell? ⟨N,0,none⟩=some (.int .i64 6)):=by show _=_;go_simp
   have h7:Hid ((N.alloc (.cells #[(6:Int),(X:Int),bb,n] 63)).cell? ⟨N.heap.size,1,none⟩=some (.int .i64 (X:Int))):=by show _=_;go_simp
   have HNE:Hid (some N.heap.size≠(Value.slice T o.length c).ownBlock):=fun h=>by have:=(J.o.own.lt _ h.symm).2;omega
   cases U with
   |false=>
    go_wp2_with fail
    have g:=h1;have z0:=HZ0.o;have z1:=h7.o;have s:Hid (base<=(N.alloc (.cells #[(6:Int),(X:Int),bb,n] 63)).heap.size):=by show _<=_;simp;exact Nat.le_succ_of_le h6.o
    clear HZ0 h7 h1;generalize N.alloc (.cells #[(6:Int),(X:Int),bb,n] 63)=w2 at *
    have HC:=hId (IH.o X (by omega) (by omega) false o _ _ _ _ (g.o.belowB HW.o HW.o.size (fun k hk=>Nat.le_trans K (J.o.own.lt k hk).1)) s.o g.o (by have:=HK.o;omega))
    refine HC.o.mono ?_;rintro e w3 ⟨v3,rfl,d⟩;have hlen:=pL (zB f X) false o;have hK:=HK.o;have u0:=d.cell z0 HNE.o;have hbw3:=Nat.le_trans s.o d.gr.size;generalize (zB f X).negV false o=o3 at *
    obtain⟨T3,c3,rfl,j⟩:=d.form (by omega)
    have hl3:=j.le;have hc3:=j.cap;obtain⟨T4,c4,w4,h5,h3,hg4⟩:=(g.o.call d).app ⟨6,(o3.length:Int)-1,0,0⟩ (by omega) hbw3
    have HR4:=hId h5;have HO4:=hId h3;clear h5 h3 hg4 d j HC z0 z1
    go_wp2_with (at_builtin;refine zQ rfl (.tmp 73) (.tmp 78) _ _ rfl (.slice T3 o3.length c3) (.slice (some ⟨w3,0,none⟩) 1 1) (.slice T4 (o3.length+1) c4) (by go_simp) (by go_simp) HR4.o ?_)
    go_ret
    exact⟨_,rfl,by rw[HN.o];exact HO4.o⟩
   |true=>
    go_wp2_with fail
    refine(oR 6 _).mono ?_;rintro e w2 ⟨rfl,h0⟩;have g:=hId (h1.o.below h0);have z0:=(h0.cell (p:=⟨N,0,none⟩) (by simp)).trans HZ0.o
    have z1:=(h0.cell (p:=⟨N.heap.size,1,none⟩) (by simp)).trans h7.o
    have s:Hid (base<=w2.heap.size):=Nat.le_trans h6.o (by have:=h0.size;simp at this;omega)
    clear h0;have HC:=hId (IH.o X (by omega) (by omega) true o _ _ _ _ (g.o.belowB HW.o HW.o.size (fun k hk=>Nat.le_trans K (J.o.own.lt k hk).1)) s.o g.o (by have:=HK.o;omega))
    go_wp2_with fail
    refine HC.o.mono ?_;rintro e w3 ⟨v3,rfl,d⟩;have hlen:=pL (zB f X) true o;have hK:=HK.o;have u0:=d.cell z0 HNE.o;have hbw3:=Nat.le_trans s.o d.gr.size;generalize (zB f X).negV true o=o3 at *
    obtain⟨T3,c3,rfl,j⟩:=d.form (by omega)
    have hl3:=j.le;have hc3:=j.cap;obtain⟨T4,c4,w4,h5,h3,hg4⟩:=(g.o.call d).app ⟨6,(o3.length:Int)-1,0,0⟩ (by omega) hbw3
    have HR4:=hId h5;have HO4:=hId h3;clear h5 h3 hg4 d j HC z0 z1
    go_wp2_with (at_builtin;refine zQ rfl (.tmp 73) (.tmp 78) _ _ rfl (.slice T3 o3.length c3) (.slice (some ⟨w3,0,none⟩) 1 1) (.slice T4 (o3.length+1) c4) (by go_simp) (by go_simp) HR4.o ?_)
    go_ret
    exact⟨_,rfl,by rw[HN.o];exact HO4.o⟩
  have ha:=HOK.o.a (by rcases hk with rfl|rfl|rfl|rfl<;>rfl)
  have hb:=HOK.o.b (by rcases hk with rfl|rfl|rfl|rfl<;>rfl)
  simp only at ha hb;obtain⟨X,rfl⟩:=Int.eq_ofNat_of_zero_le ha.1;obtain⟨Y,rfl⟩:=Int.eq_ofNat_of_zero_le hb.1
  have HE:Hid (zB f i=.bi k (zB f X) (zB f Y)):=by
   show _=_;rw[HT.o];unfold mD;simp only;rw[if_neg (by omega),if_neg (by omega),if_neg (by omega),if_neg (by omega),kid ha,kid hb]
   rfl
  have h1:=hId (J.o.alloc (.cells #[k,(X:Int),(Y:Int),n] 63))
  have HN:Hid ((zB f i).negV U o=(zB f Y).negV U ((zB f X).negV U o)++[⟨if U then opp k else k,(((zB f X).negV U o).length:Int)-1,(((zB f Y).negV U ((zB f X).negV U o)).length:Int)-1,0⟩]):=by
   show _=_;rw[HE.o,Fm.negV,if_neg (by simp[hm'])]
  have HK:Hid (o.length+2*((zB f X).show.length+(zB f Y).show.length+1)<=100000):=by
   have:=HSZ.o;rw[HE.o] at this;simp only[Fm.show,List.length_cons,List.length_append,List.length_nil] at this;show _<=_;omega
  have HZ0:Hid ((N.alloc (.cells #[k,(X:Int),(Y:Int),n] 63)).cell? ⟨N,0,none⟩=some (.int .i64 k)):=by show _=_;go_simp
  have h7:Hid ((N.alloc (.cells #[k,(X:Int),(Y:Int),n] 63)).cell? ⟨N.heap.size,1,none⟩=some (.int .i64 (X:Int))):=by show _=_;go_simp
  have HZ2:Hid ((N.alloc (.cells #[k,(X:Int),(Y:Int),n] 63)).cell? ⟨N.heap.size,2,none⟩=some (.int .i64 (Y:Int))):=by show _=_;go_simp
  have HNE:Hid (some N.heap.size≠(Value.slice T o.length c).ownBlock):=fun h=>by have:=(J.o.own.lt _ h.symm).2;omega
  have k1:(k==1)=false:=by simp;omega
  have k2:(k==2)=false:=by simp;omega
  have k3:(k==3)=false:=by simp;omega
  have k6:(k !=6)=true:=by simp;omega
  cases U with
  |false=>
   go_wp2_with fail
   have g:=h1;have z0:=HZ0.o;have z1:=h7.o;have z2:=HZ2.o
   have s:Hid (base<=(N.alloc (.cells #[k,(X:Int),(Y:Int),n] 63)).heap.size):=by show _<=_;simp;exact Nat.le_succ_of_le h6.o
   clear HZ0 h7 HZ2 h1;generalize N.alloc (.cells #[k,(X:Int),(Y:Int),n] 63)=w2 at *
   have HC:=hId (IH.o X (by omega) (by omega) false o _ _ _ _ (g.o.belowB HW.o HW.o.size (fun k hk=>Nat.le_trans K (J.o.own.lt k hk).1)) s.o g.o (by have:=HK.o;omega))
   refine HC.o.mono ?_;rintro e w3 ⟨v3,rfl,d⟩;have hlen:=pL (zB f X) false o;have hK:=HK.o;have u0:=d.cell z0 HNE.o;have u2:=d.cell z2 HNE.o;have h9:=hId (Nat.le_trans s.o d.gr.size)
   have HN3:Hid ((zB f i).negV false o=(zB f Y).negV false ((zB f X).negV false o)++[⟨k,(((zB f X).negV false o).length:Int)-1,(((zB f Y).negV false ((zB f X).negV false o)).length:Int)-1,0⟩]):=HN.o
   generalize (zB f X).negV false o=o3 at *;obtain⟨T3,c3,rfl,j⟩:=d.form (by omega)
   have hl3:=j.le;have hc3:=j.cap;have u:=hId (g.o.call d);have HC4:=hId (IH.o Y (by omega) (by omega) false o3 _ _ _ _ (u.o.belowB HW.o HW.o.size (fun k hk=>Nat.le_trans K (J.o.own.lt k hk).1)) h9.o u.o (by omega))
   clear d j HC z0 z1 z2 HN
   go_wp2_with fail
   refine HC4.o.mono ?_;rintro e w4 ⟨v4,rfl,m⟩;have hlen4:=pL (zB f Y) false o3;have hbw4:=Nat.le_trans h9.o m.gr.size;generalize (zB f Y).negV false o3=o4 at *;obtain⟨T4,c4,rfl,hn4⟩:=m.form (by omega)
   have hl4:=hn4.le;have hc4:=hn4.cap;obtain⟨T5,c5,w5,hr5,ho5,hg5⟩:=(u.o.call m).app ⟨k,(o3.length:Int)-1,(o4.length:Int)-1,0⟩ (by omega) hbw4
   have HR5:=hId hr5;have HO5:=hId ho5;clear hr5 ho5 hg5 m hn4 HC4 u0 u2
   go_wp2_with (at_builtin;refine zQ rfl (.tmp 73) (.tmp 78) _ _ rfl (.slice T4 o4.length c4) (.slice (some ⟨w4,0,none⟩) 1 1) (.slice T5 (o4.length+1) c5) (by go_simp) (by go_simp) HR5.o ?_)
   go_ret
   exact⟨_,rfl,by rw[HN3.o];exact HO5.o⟩
  |true=>
   go_wp2_with fail
   refine(oR k _).mono ?_;rintro e w2 ⟨rfl,h0⟩;have g:=hId (h1.o.below h0);have z0:=(h0.cell (p:=⟨N,0,none⟩) (by simp)).trans HZ0.o
   have z1:=(h0.cell (p:=⟨N.heap.size,1,none⟩) (by simp)).trans h7.o
   have z2:=(h0.cell (p:=⟨N.heap.size,2,none⟩) (by simp)).trans HZ2.o
   have s:Hid (base<=w2.heap.size):=Nat.le_trans h6.o (by have:=h0.size;simp at this;omega)
   clear h0;have HC:=hId (IH.o X (by omega) (by omega) true o _ _ _ _ (g.o.belowB HW.o HW.o.size (fun k hk=>Nat.le_trans K (J.o.own.lt k hk).1)) s.o g.o (by have:=HK.o;omega))
   go_wp2_with fail
   refine HC.o.mono ?_;rintro e w3 ⟨v3,rfl,d⟩;have hlen:=pL (zB f X) true o;have hK:=HK.o;have u0:=d.cell z0 HNE.o;have u2:=d.cell z2 HNE.o;have h9:=hId (Nat.le_trans s.o d.gr.size)
   have HN3:Hid ((zB f i).negV true o=(zB f Y).negV true ((zB f X).negV true o)++[⟨opp k,(((zB f X).negV true o).length:Int)-1,(((zB f Y).negV true ((zB f X).negV true o)).length:Int)-1,0⟩]):=HN.o
   generalize (zB f X).negV true o=o3 at *;obtain⟨T3,c3,rfl,j⟩:=d.form (by omega)
   have hl3:=j.le;have hc3:=j.cap;have u:=hId (g.o.call d);have HC4:=hId (IH.o Y (by omega) (by omega) true o3 _ _ _ _ (u.o.belowB HW.o HW.o.size (fun k hk=>Nat.le_trans K (J.o.own.lt k hk).1)) h9.o u.o (by omega))
   clear d j HC z0 z1 z2 HN
   go_wp2_with fail
   refine HC4.o.mono ?_;rintro e w4 ⟨v4,rfl,m⟩;have hlen4:=pL (zB f Y) true o3;have hbw4:=Nat.le_trans h9.o m.gr.size;generalize (zB f Y).negV true o3=o4 at *;obtain⟨T4,c4,rfl,hn4⟩:=m.form (by omega)
   have hl4:=hn4.le;have hc4:=hn4.cap;obtain⟨T5,c5,w5,hr5,ho5,hg5⟩:=(u.o.call m).app ⟨opp k,(o3.length:Int)-1,(o4.length:Int)-1,0⟩ (by omega) hbw4
   have HR5:=hId hr5;have HO5:=hId ho5;clear hr5 ho5 hg5 m hn4 HC4 u0 u2
   go_wp2_with (at_builtin;refine zQ rfl (.tmp 73) (.tmp 78) _ _ rfl (.slice T4 o4.length c4) (.slice (some ⟨w4,0,none⟩) 1 1) (.slice T5 (o4.length+1) c5) (by go_simp) (by go_simp) HR5.o ?_)
   go_ret
   exact⟨_,rfl,by rw[HN3.o];exact HO5.o⟩
def uB (f:List Nd):List Nd:=(zB f (f.length-1)).negV true []
def zAH (f:List Nd):List Nd:=if ckF f=0 then(if xA (uB f)=true then[] else uB f) else[]
def zBm (f:List Nd):Int:=if ckF f=0 then(if xA (uB f)=true then 2 else 0) else ckF f
def zIX (w:World) (o:List Nd) (n:Int) (e:Ending) (w':World):Prop:=∃A c,e=.returned (.tuple #[.slice A o.length c,n])/\Nds w' w.heap.size A c o/\Below w w w'
theorem Nds.none (w:World) (lo:Nat):Nds w lo none 0 []:=⟨nLe,by omega,by simp,Rd.nil,Fz.no⟩
theorem zEk (F:Option Addr) (fc:Nat) (f:List Nd) (w:World) (U:Nds w 0 F fc f):
  Calls Tryz.prog 25 #[.slice F f.length fc] w (zIX w (zAH f) (zBm f)):=by
 have hle:=U.le;have hcp:=U.cap;have HC:=hId (jW F fc f w U);have HF:=hId U;clear U
 go_enter Tryz.func25,Tryz.ntmps25
 go_wp2_with fail
 refine HC.o.mono ?_;rintro e m ⟨rfl,O⟩;have g:=hId O;clear O HC
 by_cases hc:ckF f=0
 ·have ho:=cM.1 hc
  have hn:=ho.pos;have h0:f.length-1<f.length:=by omega
  have hsz:=zCC ho (f.length-1) h0
  have hfew:f.length<=12:=by
   have:=ho.few;unfold xA at this;simp only[Bool.or_eq_false_iff,decide_eq_false_iff_not] at this;omega
  have h3:2^(f.length-1+1)<=2^12:=Nat.pow_le_pow_right (by decide) (by omega)
  have h4:(2:Nat)^12=4096:=by decide
  have HS:=hId (zKu f F fc w HF.o ho m.heap.size g.o.size (f.length-1) h0 true [] m m _ () g.o nLe (wJ.refl (World.ownsRow_nil _ _ _ _)) (by simp;omega))
  have j:=pL (zB f (f.length-1)) true [];have HL:Hid ((uB f).length<=100000):=by simp at j;show _<=_;unfold uB;omega
  have HS2:Hid (Calls Tryz.prog 72 #[(),.slice F f.length fc,.int .i64 ((f.length-1:Nat):Int),true] m (NTo m.heap.size (uB f) () m)):=HS.o
  have e1:((f.length:Int)-1)=((f.length-1:Nat):Int):=by omega
  have e2:(ckF f !=0)=false:=by simp[hc]
  have N:Hid (zAH f=if xA (uB f)=true then[] else uB f):=by unfold Hid zAH;rw[if_pos hc]
  have HE:Hid (zBm f=if xA (uB f)=true then 2 else 0):=by unfold Hid zBm;rw[if_pos hc]
  clear hc ho hn hsz h3 h4 j HS
  go_wp2_with fail
  refine HS2.o.mono ?_;rintro e w2 ⟨v,rfl,i⟩;obtain⟨T,c,rfl,d⟩:=i.form (by have:=HL.o;omega)
  have J:=hId (zA g.o (i.belowB (Below.refl m.heap.size m) nLe (by intro k hk;simp[Value.ownBlock] at hk)) g.o.size)
  have HM:=hId (zEj T c (uB f) w2 d.zero);have HN:=hId d;have hl2:=d.le;have hc2:=d.cap;clear i d
  go_wp2_with fail
  refine HM.o.mono ?_;rintro e w3 ⟨rfl,u⟩;have K:=hId (zA J.o u J.o.size);have HN3:=hId (HN.o.below u);clear u
  by_cases hm:xA (uB f)=true
  ·have h:Hid (zAH f=[]):=by rw[N.o,if_pos hm];rfl
   have s:Hid (zBm f=2):=by rw[HE.o,if_pos hm];rfl
   go_wp2_with fail
   go_ret2
   exact⟨none,0,by rw[h.o,s.o];rfl,by rw[h.o];exact Nds.none _ _,K.o⟩
  have h:Hid (zAH f=uB f):=by rw[N.o,if_neg hm];rfl
  have s:Hid (zBm f=0):=by rw[HE.o,if_neg hm];rfl
  have hm':xA (uB f)=false:=by simpa using hm
  clear hm
  go_wp2_with fail
  go_ret2
  exact⟨T,c,by rw[h.o,s.o];rfl,by rw[h.o];exact HN3.o.low g.o.size,K.o⟩
 have N:Hid (zAH f=[]):=by unfold Hid zAH;rw[if_neg hc]
 have HE:Hid (zBm f=ckF f):=by unfold Hid zBm;rw[if_neg hc]
 have e2:(ckF f !=0)=true:=by simpa using hc
 clear hc
 go_wp2
 go_ret2
 exact⟨none,0,by rw[N.o,HE.o];rfl,by rw[N.o];exact Nds.none _ _,g.o⟩
end
section
open Go Go.RowKit Go.Maps Go.Shelf
def itL (v:Int):DataW Unit:=.lit v
theorem zDv {v:Int} (h:(Lit.int .i64 v).wf=true):plainElem (H:=Unit) Tryz.prog 3 v=some (itL v,[]):=plainElem_int Tryz.underlying3 h
theorem zGO {v:Value} {z:DataW Unit×List MemPlace} (h:plainElem (H:=Unit) Tryz.prog 3 v=some z):∃s:Int,v=.int .i64 s/\z=(itL s,[]):=by
 obtain⟨s,d,e,_⟩:=plainElem_int_inv Tryz.underlying3 h;exact⟨s,d,e⟩
theorem zA9 {a b:Int} (h:itL a=itL b):a=b:=by simpa[itL] using h
theorem zEv {v:Value} {s:Int} {ps:List MemPlace} (h:plainElem (H:=Unit) Tryz.prog 3 v=some (itL s,ps)):v=.int .i64 s:=by
 obtain⟨e,rfl,d⟩:=zGO h;simp only[Prod.mk.injEq] at d;rw[zA9 d.1]
def itD (D:List (Int×Int)):DataW Unit:=D.foldl (fun m p=>m.put p.1 (itL p.2)) (.map [])
theorem zHs (D:List (Int×Int)) (p:Int×Int):itD (D++[p])=(itD D).put p.1 (itL p.2):=by unfold itD;rw[List.foldl_append];rfl
theorem sZ (z:DataW Unit) {k:Int}:∀(D:List (Int×Int)) (m:DataW Unit),k∉D.map Prod.fst->(D.foldl (fun m p=>m.put p.1 (itL p.2)) m).atKey k z=m.atKey k z
 |[],m,_=>rfl
 |p::D,m,h=>by
  rw[List.map_cons,List.mem_cons] at h;rw[List.foldl_cons,sZ z D _ (fun d=>h (.inr d)),atKey_put_other (fun e=>h (.inl (by simpa using e)))]
theorem oC (z:DataW Unit) {k:Int} {s:Int}:∀(D:List (Int×Int)) (m:DataW Unit),IsMap m->(D.map Prod.fst).Nodup->(k,s)∈D->(D.foldl (fun m p=>m.put p.1 (itL p.2)) m).atKey k z=itL s
 |[],m,_,_,h=>by cases h
 |p::D,m,hm,hn,h=>by
  rw[List.map_cons,List.nodup_cons] at hn;rw[List.foldl_cons]
  rcases List.mem_cons.1 h with h1|h1
  ·subst h1
   rw[sZ z D _ hn.1,atKey_put_same hm (show WideAt.IsKeyLit k from trivial)]
  exact oC z D _ (hm.put _ _) hn.2 h1
def AtI (W:World) (M:Nat) (D:List (Int×Int)):Prop:=W.ownsMap Tryz.prog 3 (plainElem Tryz.prog 3) M D.length (itD D)
theorem AtI.made (w:World):AtI (w.alloc (.map #[] 0)) w.heap.size []:=World.ownsMap_made _ _ _ _
theorem AtI.kept {W W':World} {M:Nat} {D:List (Int×Int)} {row:Option Nat} (h:AtI W M D) (d:W.grownBy W' row) (e:some M≠row):AtI W' M D:=World.ownsMap.kept h d e
theorem AtI.on {W W':World} {M:Nat} {D:List (Int×Int)} (h:AtI W M D) (d:Below W W W'):AtI W' M D:=
 h.kept (row:=none) ⟨d.os,d.tape,d.output,d.size,fun k e _=>d.block k e⟩ (by simp)
theorem AtI.lt {W:World} {M:Nat} {D:List (Int×Int)} (h:AtI W M D):M<W.heap.size:=World.ownsMap.lt h
theorem AtI.heap {W W':World} {M:Nat} {D:List (Int×Int)} (h:AtI W M D) (g:W'.heap[M]?=W.heap[M]?):AtI W' M D:=by
 obtain⟨es,c,d,e⟩:=h;exact⟨es,c,g.trans d,e⟩
theorem AtI.step {W:World} {M:Nat} {D:List (Int×Int)} {k v:Int} (h:W.ownsMap Tryz.prog 3 (plainElem Tryz.prog 3) M (D.length+1) ((itD D).put k (itL v))):AtI W M (D++[(k,v)]):=by
 unfold AtI;rw[zHs,List.length_append];exact h
theorem zFS (w:World):(zeroValue 3).run Tryz.prog w=.ok (.int .i64 0) w:=by kernel_rfl
theorem cE:Keyed Tryz.prog 3:=int_keyed Tryz.underlying3
theorem zGd {k:Int} (h:(Lit.int .i64 k).wf=true):keyOf Tryz.prog 3 k=some (.int .i64 k):=keyOf_int_mk Tryz.underlying3 h
theorem AtI.hit {W:World} {M:Nat} {D:List (Int×Int)} (h:AtI W M D) (e:(D.map Prod.fst).Nodup) {k s:Int} (j:(Lit.int .i64 k).wf=true) (g:(k,s)∈D):
  (Instr.lookup 165 (.map (some M)) k true).run Tryz.prog W=.ok (.tuple #[s,true]) W:=by
 obtain⟨v,ps,d,i⟩:=World.ownsMap.look_ok h cE Tryz.underlying165 (zFS W) (zDv (v:=0) (by decide)) (zGd j)
 rw[show(itD D).atKey k (itL 0)=itL s from oC _ D _ isMap_empty e g] at i;rw[d,zEv i,has_true_of_atKey (D:=itD D) (y:=itL s) (fun z=>oC z D _ isMap_empty e g)]
theorem AtI.miss {W:World} {M:Nat} {D:List (Int×Int)} (h:AtI W M D) {k:Int} (i:(Lit.int .i64 k).wf=true) (e:k∉D.map Prod.fst):
  (Instr.lookup 165 (.map (some M)) k true).run Tryz.prog W=.ok (.tuple #[(0:Int),false]) W:=by
 obtain⟨v,ps,d,g⟩:=World.ownsMap.look_ok h cE Tryz.underlying165 (zFS W) (zDv (v:=0) (by decide)) (zGd i)
 rw[show(itD D).atKey k (itL 0)=itL 0 from sZ _ D _ e] at g;rw[d,zEv g,has_false_of_atKey (D:=itD D) (fun z=>sZ z D _ e)]
theorem AtI.put {W:World} {M:Nat} {D:List (Int×Int)} (h:AtI W M D) (m:D.length<=1000000) {k v:Int} (i:(Lit.int .i64 k).wf=true) (j:(Lit.int .i64 v).wf=true):
  ∃W',(Instr.mapUpdate 165 (.map (some M)) k v).run Tryz.prog W=.ok () W'/\AtI W' M (D++[(k,v)])/\W.grownBy W' (some M):=by
 obtain⟨W',d,e,g⟩:=World.ownsMap.update h cE Tryz.underlying165 (by unfold maxLen;omega) (zGd i) (zDv j)
 exact⟨W',d,AtI.step e,g⟩
theorem zE0 {D:List (Int×Int)} {k v:Int} (h:∀z:DataW Unit,(itD D).atKey k z=itL v):(k,v)∈D\/∃v',(k,v')∈D/\¬(D.map Prod.fst).Nodup:=by
 by_cases hm:k∈D.map Prod.fst
 ·obtain⟨⟨g,v'⟩,e,rfl⟩:=List.mem_map.1 hm
  by_cases hn:(D.map Prod.fst).Nodup
  ·have d:=h (itL 0)
   rw[show(itD D).atKey g (itL 0)=itL v' from oC _ D _ isMap_empty hn e] at d;rw[<-zA9 d];exact .inl e
  exact .inr ⟨v',e,hn⟩
 have d:=h (itL (v+1));rw[show(itD D).atKey k (itL (v+1))=itL (v+1) from sZ _ D _ hm] at d;have:=zA9 d;omega
theorem zIn {D:List (Int×Int)} (d:(D.map Prod.fst).Nodup) {k v:Int} (h:(k,v)∈D):Maps.has (itD D) k=true:=has_true_of_atKey (D:=itD D) (y:=itL v) (fun z=>oC z D _ isMap_empty d h)
end
section
theorem eT (l:La) (f:List Nd):∀(k i:Nat),i<k->(yA l f k).getD i []=gX l (yA l f i) (f.getD i ⟨0,0,0,0⟩)
 |0,i,h=>absurd h (by omega)
 |k+1,i,h=>by
  rw[show yA l f (k+1)=yA l f k++[gX l (yA l f k) (f.getD k ⟨0,0,0,0⟩)] from rfl,List.getD_eq_getElem?_getD]
  rcases Nat.lt_or_ge i k with h1|h1
  ·rw[List.getElem?_append_left (by rw[jA];exact h1),<-List.getD_eq_getElem?_getD]
   exact eT l f k i h1
  obtain rfl:i=k:=by omega
  rw[List.getElem?_append_right (by rw[jA];exact nLe),jA]
  simp
theorem zIW {l:La} {f:List Nd} {k i p:Nat} (d:i<k) (e:p<l.n):gB (yA l f k) i p=tC l (yA l f i) (f.getD i ⟨0,0,0,0⟩) p:=by
 unfold gB;rw[eT l f k i d];unfold gX;rw[List.getD_eq_getElem?_getD,List.getElem?_map,List.getElem?_range e];rfl
theorem zBX {n h:Nat} {a b:Nat->Bool} (K:h<n):∀(m k:Nat),unt n h a b m (plc n h k)=true↔∃j,k<=j/\j<k+m/\b (plc n h j)=true/\∀i,k<=i->i<j->a (plc n h i)=true
 |0,k=>by
  simp only[unt,Bool.false_eq_true,Nat.add_zero,false_iff,not_exists,not_and];intro j d J;omega
 |m+1,k=>by
  rw[zH7 K,Bool.or_eq_true,Bool.and_eq_true,zBX K m (k+1)]
  constructor
  ·rintro(d|⟨d,j,J,u,g,h5⟩)
   ·exact⟨k,nLe,by omega,d,fun i s e=>absurd e (by omega)⟩
   refine⟨j,by omega,by omega,g,fun i s e=>?_⟩
   rcases Nat.eq_or_lt_of_le s with rfl|a3
   ·exact d
   exact h5 i a3 e
  rintro⟨j,d,J,u,g⟩
  rcases Nat.eq_or_lt_of_le d with rfl|h5
  ·exact .inl u
  exact .inr ⟨g k nLe h5,j,h5,by omega,u,fun i s e=>g i (by omega) e⟩
theorem zCn {n h:Nat} {a b:Nat->Bool} (g:h<n):∀(m k:Nat),rls n h a b m (plc n h k)=true↔∀j,k<=j->j<k+m->b (plc n h j)=true\/∃i,k<=i/\i<j/\a (plc n h i)=true
 |0,k=>by
  simp only[rls,true_iff,Nat.add_zero];intro j d h2;omega
 |m+1,k=>by
  rw[zIb g,Bool.and_eq_true,Bool.or_eq_true,zCn g m (k+1)]
  constructor
  ·rintro⟨d,h2⟩ j e u
   rcases Nat.eq_or_lt_of_le e with rfl|a3
   ·exact .inl d
   rcases h2 with h2|h2
   ·exact .inr ⟨k,nLe,a3,h2⟩
   rcases h2 j a3 (by omega) with h4|⟨i,i1,i2,i3⟩
   ·exact .inl h4
   exact .inr ⟨i,by omega,i2,i3⟩
  intro s;refine⟨?_,?_⟩
  ·rcases s k nLe (by omega) with d|⟨i,i1,i2,_⟩
   ·exact d
   omega
  cases ha:a (plc n h k) with
  |true=>exact .inl rfl
  |false=>
   refine .inr fun j e u=>?_
   rcases s j (by omega) (by omega) with d|⟨i,i1,i2,i3⟩
   ·exact .inl d
   refine .inr ⟨i,?_,i2,i3⟩
   rcases Nat.eq_or_lt_of_le i1 with rfl|i4
   ·rw[ha] at i3;cases i3
   exact i4
theorem zIP {n h:Nat} {a b:Nat->Bool} (J:h<n) (k:Nat):unt n h a b n (plc n h k)=true↔∃j,k<=j/\b (plc n h j)=true/\∀i,k<=i->i<j->a (plc n h i)=true:=by
 rw[zBX J]
 constructor
 ·rintro⟨j,m,_,e,g⟩;exact⟨j,m,e,g⟩
 rintro⟨j,m,e,g⟩
 have:∀d j,j=k+d->b (plc n h j)=true->(∀ i,k<=i->i<j->a (plc n h i)=true)->∃j,k<=j/\j<k+n/\b (plc n h j)=true/\∀i,k<=i->i<j->a (plc n h i)=true:=by
  intro d
  induction d using Nat.strongRecOn with
  |_ d ih=>
   intro j N u s
   by_cases hd:d<n
   ·exact⟨j,by omega,by omega,u,s⟩
   refine ih (d-(n-h)) (by omega) (j-(n-h)) (by omega) ?_ (fun i K O=>s i K (by omega))
   rw[<-zBY J (by omega)];exact u
 exact this (j-k) j (by omega) e g
theorem zIC {n h:Nat} {a b:Nat->Bool} (m:h<n) (k:Nat):rls n h a b n (plc n h k)=true↔∀j,k<=j->b (plc n h j)=true\/∃i,k<=i/\i<j/\a (plc n h i)=true:=by
 rw[zCn m]
 constructor
 ·intro e
  have:∀d j,j=k+d->b (plc n h j)=true\/∃i,k<=i/\i<j/\a (plc n h i)=true:=by
   intro d
   induction d using Nat.strongRecOn with
   |_ d ih=>
    intro j g
    by_cases hd:d<n
    ·exact e j (by omega) (by omega)
    rcases ih (d-(n-h)) (by omega) (j-(n-h)) (by omega) with h2|⟨i,i1,i2,i3⟩
    ·rw[zBY m (by omega)];exact .inl h2
    exact .inr ⟨i,i1,by omega,i3⟩
  intro j g;exact this (j-k) j (by omega)
 intro e j g _;exact e j g
theorem La.at_plc {l:La} (d:0<l.l.length) (k:Nat):l.at (plc l.n l.h.length k)=l.at k:=by
 have e:l.h.length<l.n:=by unfold La.n;omega
 rw[<-La.row_plc d k,<-La.row_plc d (plc l.n l.h.length k),mF (eK e)]
theorem zEL {l:La} (O:0<l.l.length) {f:List Nd} (K:vF f):∀(i:Nat),i<f.length->∀(k m:Nat),i<m->(gB (yA l f m) i (plc l.n l.h.length k)=true↔(zB f i).sem l.at k):=by
 have s:l.h.length<l.n:=by unfold La.n;omega
 intro i
 induction i using Nat.strongRecOn with
 |_ i ih=>
  intro J k m N;rw[zIW N (eK s)];have u:=jO.1 (K.nd i J);have e:f.getD i qG=f[i]:=by rw[List.getD_eq_getElem?_getD,List.getElem?_eq_getElem J];rfl
  unfold zB mD;rw[show(⟨0,0,0,0⟩:Nd)=qG from rfl,e];generalize f[i]=x at u;unfold tC;have U:=u.k
  have d:3<=x.k->∀j,gB (yA l f i) x.a.toNat (plc l.n l.h.length j)=true↔((xY f i).getD x.a.toNat .tt).sem l.at j:=fun h j=>by
   have:=u.a h;rw[vM _ _ _ (by omega)]
   exact ih _ (by omega) (by omega) j i (by omega)
  have g:(x.k=4\/x.k=5\/x.k=7\/x.k=8)->∀j,gB (yA l f i) x.b.toNat (plc l.n l.h.length j)=true↔((xY f i).getD x.b.toNat .tt).sem l.at j:=fun h j=>by
   have:=u.b h;rw[vM _ _ _ (by omega)]
   exact ih _ (by omega) (by omega) j i (by omega)
  by_cases h1:x.k=1
  ·simp only[h1,if_true,Fm.sem]
  by_cases h2:x.k=2
  ·simp only[h2,show ¬(2:Int)=1 by decide,if_true,if_false,Fm.sem]
   rw[La.at_plc O]
  by_cases h3:x.k=3
  ·simp only[h3,show ¬(3:Int)=1 by decide,show ¬(3:Int)=2 by decide,if_true,if_false,Fm.sem,Bool.not_eq_true',<-d (by omega) k]
   exact Bool.not_eq_true _▸Iff.rfl
  by_cases h6:x.k=6
  ·simp only[h6,show ¬(6:Int)=1 by decide,show ¬(6:Int)=2 by decide,show ¬(6:Int)=3 by decide,show ¬(6:Int)=4 by decide,show ¬(6:Int)=5 by decide,if_true,if_false,Fm.sem]
   rw[dV s];exact d (by omega) (k+1)
  have g:=g (by omega)
  have d:=d (by omega)
  by_cases h4:x.k=4
  ·simp only[h4,show ¬(4:Int)=1 by decide,show ¬(4:Int)=2 by decide,show ¬(4:Int)=3 by decide,show ¬(4:Int)=6 by decide,if_true,if_false,Fm.sem,Bool.and_eq_true,d,g]
  by_cases h5:x.k=5
  ·simp only[h5,show ¬(5:Int)=1 by decide,show ¬(5:Int)=2 by decide,show ¬(5:Int)=3 by decide,show ¬(5:Int)=4 by decide,show ¬(5:Int)=6 by decide,if_true,if_false,Fm.sem,Bool.or_eq_true,d,g]
  by_cases h7:x.k=7
  ·simp only[h7,show ¬(7:Int)=1 by decide,show ¬(7:Int)=2 by decide,show ¬(7:Int)=3 by decide,show ¬(7:Int)=4 by decide,show ¬(7:Int)=5 by decide,show ¬(7:Int)=6 by decide,if_true,if_false,Fm.sem]
   rw[zIP s];simp only[d,g]
  simp only[h1,h2,h3,h4,h5,h6,h7,if_false,Fm.sem];rw[zIC s];simp only[d,g]
end
end Go.Proofs.YtoglgeaiiipchaaGreatDoor

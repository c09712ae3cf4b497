import Derived.Test.YtoglgeaiiipchaaGreatDoorLRY6
import Derived.RangeFuncBound
import Derived.RangeFuncCalls
import Derived.Shelf.RegionOpen
import Derived.OwnWalkIn
import Derived.TacticsInMore
import Derived.LoopNIn
import Derived.LoopIn
import Derived.WalkSpells
set_option linter.unusedSimpArgs false
set_option linter.unusedVariables false
set_option maxRecDepth 100000
set_option maxHeartbeats 8000000
namespace Go.Proofs.YtoglgeaiiipchaaGreatDoor
section
open Go Go.RowKit Go.Sort
def gQ (W0:World) (G:Nat) (o:Option Au) (e:Ending) (w':World):Prop:=Below G W0 w'/\∃b:Bool,e=.returned (.bool b)/\match o with
 |some a'=>b=true/\PaM W0 G a' w'
 |none=>b=false
theorem PaM.cells {W0:World} {G:Nat} {a:Au} {W:World} (h:PaM W0 G a W):∃(A:Option Addr) (ca:Nat) (gv:Value) (sv:Option Addr×Nat),W.heap[G]?=some (.cells #[a.st,a.le,.slice A a.fs.length ca,gv,.slice sv.1 a.ss.length sv.2] 31 (0,0)):=by
 obtain⟨A,ca,gv,sv,base,d,_⟩:=h.obj;exact⟨A,ca,gv,sv,d⟩
theorem zKd (W0:World) (G:Nat) (x:List UInt8) (W:World) (hP:PaM W0 G qR W) (U:xR W) (hx:x.length<=99999):
  Calls Tryz.prog 99 #[(⟨G,0,none⟩:Addr),(1:Int),.string (sB x)] W (gQ W0 G (xW qR 0 x)):=by
 have N:=hId (zK8 x W U hx);have O:=hId hP;clear hP U
 go_enter Tryz.func99,Tryz.ntmps99
 go_wp2_with fail
 refine N.o.mono ?_;rintro e w1 ⟨h,s⟩;have j:=hId (O.o.on h);obtain⟨A,ca,gv,sv,ho⟩:=j.o.cells;obtain⟨c0,c1,c2,c3,c4,f0,f1,f2,f3,f4⟩:=zZ ho;have u:=hId h
 have i:=hId (fun v0 v1 v2 v3 v4=>zS j.o.below nLe v0 v1 v2 v3 v4)
 clear ho h N
 cases hh:gG x with
 |some a'=>
  rw[hh] at s;obtain⟨g,rfl,hg,d,hf,hs,J,K⟩:=s
  have m:Hid (gQ W0 G (xW qR 0 x) (.returned (.bool true)) (set5 w1 G a'.st a'.le () (.slice (some ⟨g,0,none⟩) a'.gs.length a'.gs.length) ())):=by
   refine⟨i.o _ _ _ _ _,true,rfl,?_⟩;rw[show xW qR 0 x=gG x from rfl,hh];exact⟨rfl,O.o.head u.o hg d hf hs (by omega)⟩
  unfold set5 at m;clear d hf hs J K hg hh
  go_wp2_with fail
  go_ret
  exact m.o
 |none=>
  rw[hh] at s;subst s
  have m:Hid (gQ W0 G (xW qR 0 x) (.returned (.bool false)) (set5 w1 G (.int .i64 0) (.int .i64 0) () () ())):=by
   refine⟨i.o _ _ _ _ _,false,rfl,?_⟩;rw[show xW qR 0 x=gG x from rfl,hh]
  unfold set5 at m;unfold dS;clear hh
  go_wp2_with fail
  go_ret
  exact m.o
theorem zJp (W0:World) (G:Nat) (a:Au) (x:List UInt8) (W:World) (J:PaM W0 G a W) (O:a.ss=[]) (u:xR W) (hx:x.length<=99999):
  Calls Tryz.prog 99 #[(⟨G,0,none⟩:Addr),(2:Int),.string (sB x)] W (gQ W0 G (xW a 1 x)):=by
 have j:Hid (Calls Tryz.prog 136 #[.string (sB x),.string ⟨#[102,105,114,115,116]⟩] W (dA W (xP kZ x))):=by
  have:=sQ kZ x W u (by omega) (by decide) (by decide)
  rwa[show kM kZ x=xP kZ x from if_neg (by decide)] at this
 have s:=hId J;have HS:=hId O;clear J u O
 go_enter Tryz.func99,Tryz.ntmps99
 go_wp2_with fail
 refine j.o.mono ?_;rintro e w1 ⟨U,i,ns,b,rfl,K,d,h⟩;have g:=hId (s.o.on d);obtain⟨A,ca,gv,sv,N⟩:=g.o.cells;obtain⟨c0,c1,c2,c3,c4,f0,f1,f2,f3,f4⟩:=zZ N
 have HR:Hid (gQ W0 G (xW a 1 x) (.returned (.bool b)) (w1.setCell ⟨G,2,none⟩ (.slice U ns.length i))):=by
  refine⟨g.o.below.setCell (p:=⟨G,2,none⟩) nLe _,b,rfl,?_⟩;show match (xP kZ x).map fun l=>{a with fs:=l} with|some a'=>_|none=>_
  cases hw:xP kZ x with
  |none=>rw[hw] at h;exact h
  |some m=>
   rw[hw] at h;obtain⟨rfl,rfl⟩:=h;exact⟨rfl,s.o.first HS.o d K⟩
 clear N d j K h
 go_wp2_with fail
 go_ret
 exact HR.o
theorem zKG (W0:World) (G:Nat) (a:Au) (x:List UInt8) (W:World) (hP:PaM W0 G a W) (hst:1<=a.st) (h1:(a.gs.length:Int)=a.st) (hL:xR W) (hx:x.length<=99999):
  Calls Tryz.prog 99 #[(⟨G,0,none⟩:Addr),(3:Int),.string (sB x)] W (gQ W0 G (xW a 2 x)):=by
 have HC:Hid (Calls Tryz.prog 136 #[.string (sB x),.string ⟨#[103,111,111,100]⟩] W (dA W (xP vP x))):=by
  have:=sQ vP x W hL (by omega) (by decide) (by decide)
  rwa[show kM vP x=xP vP x from if_neg (by decide)] at this
 have HP:=hId hP;have HG:=hId h1;clear hP hL h1
 go_enter Tryz.func99,Tryz.ntmps99
 go_wp2_with fail
 refine HC.o.mono ?_;rintro e w1 ⟨A1,c1',ns,b,rfl,hi,K,d⟩;have j:=hId (HP.o.on K);obtain⟨A,ca,gv,sv,base,o1,o2,o3,o4,o5,o6,o7,o8⟩:=j.o.obj
 obtain⟨g,rfl,J,h0,i⟩:∃g,gv=.slice (some ⟨g,0,none⟩) a.gs.length a.gs.length/\G<g/\g<base/\zU w1 g a.gs:=by
  rcases o6 with⟨_,h⟩|h
  ·have:=HG.o;rw[h] at this;simp at this;omega
  exact h
 obtain⟨c0,c1,c2,c3,c4,f0,f1,f2,f3,f4⟩:=zZ o1
 have u:Hid (b=false->gQ W0 G (xW a 2 x) (.returned (.bool false)) w1):=fun hb=>by
  refine⟨j.o.below,false,rfl,?_⟩;show match (match xP vP x with|none=>none|some l=>(yV a.st a.gs (-1) l).map fun g=>{a with gs:=g}) with|some a'=>_|none=>_
  cases s:xP vP x with
  |none=>rfl
  |some m=>rw[s] at d;rw[d.2] at hb;cases hb
 cases b with
 |false=>
  have HR:=hId (u.o rfl);clear HC u d hi K o1 o2 o3 o4 o5 o6 o7 o8 i J h0
  go_wp2_with fail
  go_ret
  exact HR.o
 |true=>
  have s:xP vP x=some ns:=by
   cases s:xP vP x with
   |none=>rw[s] at d;cases d
   |some m=>rw[s] at d;rw[d.1]
  have HGD:Hid (Calls _ _ _ _ _):=zLn a.st a.le (.slice A a.fs.length ca) (.slice sv.1 a.ss.length sv.2) g a.gs.length a.gs A1 c1' ns w1 i rfl HG.o (hi.low (Nat.zero_le _)) (fun y hy=>((rJ s).2 y hy).1) j.o.gl
  have HO1:=hId o1;have HRW:=hId i;have U:=hId J
  have HRD:Hid (xW a 2 x=(yV a.st a.gs (-1) ns).map fun g=>{a with gs:=g}):=by
   show(match xP vP x with|none=>none|some l=>_)=_
   rw[s]
  clear HC u d hi K o1 o2 o3 o4 o5 o6 o7 o8 i J h0 s
  go_wp2_with fail
  refine HGD.o.mono ?_;rintro e w2 ⟨b,rfl,N,d⟩
  have HR:Hid (gQ W0 G (xW a 2 x) (.returned (.bool b)) w2):=by
   refine⟨j.o.below.grown N (Nat.le_of_lt j.o.lt) (fun k hk=>by have:=U.o;simp at hk;omega),b,rfl,?_⟩
   rw[HRD.o]
   cases hgo:yV a.st a.gs (-1) ns with
   |none=>rw[hgo] at d;exact d
   |some gs=>
    rw[hgo] at d;obtain⟨rfl,O⟩:=d;exact⟨rfl,j.o.good U.o N O (mN hgo) ⟨_,_,_,HO1.o⟩ HRW.o⟩
  clear N d c0 c1 c2 c3 c4
  go_wp2_with fail
  go_ret
  exact HR.o
theorem zKn (W0:World) (G:Nat) (a:Au) (i:Nat) (x:List UInt8) (W:World) (hP:PaM W0 G a W) (hi3:3<=i) (hi4:i<=200000) (hL:xR W) (hx:x.length<=99999) (hs:a.ss.length<200000):
  Calls Tryz.prog 99 #[(⟨G,0,none⟩:Addr),.int .i64 ((i:Int)+1),.string (sB x)] W (gQ W0 G (xW a i x)):=by
 have HC:Hid (Calls Tryz.prog 136 #[.string (sB x),.string ⟨#[]⟩] W (dA W (jR (zH 32 x)))):=by
  have:=sQ [] x W hL (by omega) (by decide) (by decide)
  rwa[show kM [] x=jR (zH 32 x) from if_pos rfl] at this
 have HP:=hId hP
 have HRD:Hid (xW a i x=match jR (zH 32 x) with|some [f,l,t]=>some {a with ss:=a.ss++[⟨f,l,t⟩]}|_=>none):=by
  obtain⟨j,rfl⟩:∃j,i=j+3:=⟨i-3,by omega⟩
  rfl
 have e1:((i:Int)+1==1)=false:=by simp;omega
 have e2:((i:Int)+1==2)=false:=by simp;omega
 have e3:((i:Int)+1==3)=false:=by simp;omega
 clear hP hL hi3 hi4
 go_enter Tryz.func99,Tryz.ntmps99
 go_wp2_with fail
 refine HC.o.mono ?_;rintro e w1 ⟨A1,c1',ns,b,rfl,hi,hb1,hm⟩;have HP1:=hId (HP.o.on hb1);have HN1:Hid (xW a i x=none->gQ W0 G (xW a i x) (.returned (.bool false)) w1):=fun hb=>⟨HP1.o.below,false,rfl,by rw[hb]⟩
 cases b with
 |false=>
  have hn:jR (zH 32 x)=none:=by
   cases hu:jR (zH 32 x) with
   |none=>rfl
   |some m=>rw[hu] at hm;cases hm.2
  have HR:=hId (HN1.o (by rw[HRD.o,hn]))
  clear HC hm hi hb1 hn HN1
  go_wp2_with fail
  go_ret
  exact HR.o
 |true=>
  have hn:jR (zH 32 x)=some ns:=by
   cases hu:jR (zH 32 x) with
   |none=>rw[hu] at hm;cases hm
   |some m=>rw[hu] at hm;rw[hm.1]
  by_cases g:ns.length=3
  ·obtain⟨f,l,t,rfl⟩:∃f l t,ns=[f,l,t]:=by
    match ns,g with
    |[f,l,t],_=>exact⟨f,l,t,rfl⟩
   have hdw:Below w1 w1 w1.drew:=bRf.drew
   obtain⟨gb,s,rfl,hgW,hgl,u⟩:=zE.at_ (hi.below hdw) (k:=0) (by simp)
   obtain⟨gb',go',hgg,_,_,J⟩:=zE.at_ (hi.below hdw) (k:=1) (by simp)
   obtain⟨rfl,rfl⟩:gb=gb'/\s=go':=by simpa using hgg
   obtain⟨gb',go',hgg2,_,_,N⟩:=zE.at_ (hi.below hdw) (k:=2) (by simp)
   obtain⟨rfl,rfl⟩:gb=gb'/\s=go':=by simpa using hgg2
   simp only[List.getElem_cons_zero,List.getElem_cons_succ,Nat.add_zero] at u J N;have hcl:=hi.le;simp only[List.length_cons,List.length_nil,Nat.zero_add,Nat.reduceAdd] at hcl ⊢
   obtain⟨A,ca,gv,T,c,o1,hlc,hcm,T3,c3,w3,hrun,q4,f4,hgr,-,hPM⟩:=(HP1.o.on hdw).step ⟨f,l,t⟩ hs
   have hTb:∀k,(Value.slice T a.ss.length c).ownBlock=some k->k<W.heap.size:=by
    obtain⟨A9,ca9,gv9,T9,c9,o9,_,_,_,_,_,_,_,_,_,hlt9,_⟩:=HP.o.step ⟨f,l,t⟩ hs;have h:=(hdw.block G HP1.o.lt).trans ((hb1.block G HP.o.lt).trans o9);rw[o1] at h
    simp at h
    obtain⟨_,_,hT,hc⟩:=h;rw[hT,hc];exact hlt9
   obtain⟨c0,c1,c2,c3',O,f0,f1,f2,f3,f4'⟩:=zZ o1
   have HR:Hid (gQ W0 G (xW a i x) (.returned (.bool true)) (w3.setCell ⟨G,4,none⟩ (.slice T3 (a.ss.length+1) c3))):=⟨hPM.below,true,rfl,by rw[HRD.o,hn];exact⟨rfl,hPM⟩⟩
   have HRUN:Hid ((Builtin.append_ #[29,29] 29 #[.slice T a.ss.length c,.slice (some ⟨w1,0,none⟩) 1 1]).run Tryz.prog (w1.alloc (.cells #[f,l,t] 80)).drew=.ok (.slice T3 (a.ss.length+1) c3) w3):=hrun
   clear HC hm hi hb1 hn HN1 g hdw hgg hgg2 o1 hrun hPM c0 c1 c2 c3' f0 f1 f2 f3;have hGl:G<w1.drew.heap.size:=HP1.o.lt
   have c5:(w1.alloc (.cells #[f,l,t] 80)).drew.cell? ⟨G,4,none⟩=some (.slice T a.ss.length c):=((((Below.refl _ w1).alloc nLe _).drew).cell (p:=⟨G,4,none⟩) hGl).trans O
   have hb6:Below w1 w1 (w1.alloc (.cells #[f,l,t] 80)).drew:=((Below.refl _ w1).alloc nLe _).drew
   have hne:some gb≠(Value.slice T a.ss.length c).ownBlock:=fun e=>by have:=hTb gb e.symm;omega
   have z06:=(hb6.cell (p:=⟨gb,s,none⟩) hgl).trans u;have z16:=(hb6.cell (p:=⟨gb,s+1,none⟩) hgl).trans J;have z26:=(hb6.cell (p:=⟨gb,s+2,none⟩) hgl).trans N;have z05:=hgr.cell z06 hne
   have z15:=hgr.cell z16 hne;have z25:=hgr.cell z26 hne;clear hgr hb6 hne hTb
   go_upto_region 6 with fail
   refine mJ (fun w'=>w'.cell? ⟨G,4,none⟩=some (.slice T a.ss.length c)/\w'.cell? ⟨gb,s,none⟩=some (.int .i64 f)/\w'.cell? ⟨gb,s+1,none⟩=some (.int .i64 l)/\w'.cell? ⟨gb,s+2,none⟩=some (.int .i64 t)) 19 (by kernel_rfl) ?_
   refine tY 0 ?v0 ?hy0 ⟨O,u,J,N⟩ ?rest0
   case hy0=>(intro w' d;obtain⟨U,h1,h,g⟩:=d;go_simp;(try with_reducible rfl))
   (try simp only[lAy])
   refine tY 1 ?v1 ?hy1 ⟨O,u,J,N⟩ ?rest1
   case hy1=>(intro w' d;obtain⟨U,h1,h,g⟩:=d;go_simp;(try with_reducible rfl))
   (try simp only[lAy])
   refine tY 2 ?v2 ?hy2 ⟨O,u,J,N⟩ ?rest2
   case hy2=>(intro w' d;obtain⟨U,h1,h,g⟩:=d;go_simp;(try with_reducible rfl))
   (try simp only[lAy])
   refine tY 3 ?v3 ?hy3 ⟨O,u,J,N⟩ ?rest3
   case hy3=>(intro w' d;obtain⟨U,h1,h,g⟩:=d;go_simp;(try with_reducible rfl))
   (try simp only[lAy])
   refine tY 4 ?v4 ?hy4 ⟨O,u,J,N⟩ ?rest4
   case hy4=>(intro w' d;obtain⟨U,h1,h,g⟩:=d;go_simp;(try with_reducible rfl))
   (try simp only[lAy])
   refine tY 5 ?v5 ?hy5 ⟨O,u,J,N⟩ ?rest5
   case hy5=>(intro w' d;obtain⟨U,h1,h,g⟩:=d;go_simp;(try with_reducible rfl))
   (try simp only[lAy])
   refine tY 6 ?v6 ?hy6 ⟨O,u,J,N⟩ ?rest6
   case hy6=>(intro w' d;obtain⟨U,h1,h,g⟩:=d;go_simp;(try with_reducible rfl))
   (try simp only[lAy])
   refine tY 7 ?v7 ?hy7 ⟨O,u,J,N⟩ ?rest7
   case hy7=>(intro w' d;obtain⟨U,h1,h,g⟩:=d;go_simp;(try with_reducible rfl))
   (try simp only[lAy])
   refine tY 8 ?v8 ?hy8 ⟨O,u,J,N⟩ ?rest8
   case hy8=>(intro w' d;obtain⟨U,h1,h,g⟩:=d;go_simp;(try with_reducible rfl))
   (try simp only[lAy])
   refine tY 9 ?v9 ?hy9 ⟨O,u,J,N⟩ ?rest9
   case hy9=>(intro w' d;obtain⟨U,h1,h,g⟩:=d;go_simp;(try with_reducible rfl))
   (try simp only[lAy])
   refine tY 10 ?v10 ?hy10 ⟨O,u,J,N⟩ ?rest10
   case hy10=>(intro w' d;obtain⟨U,h1,h,g⟩:=d;go_simp;(try with_reducible rfl))
   (try simp only[lAy])
   refine tY 11 ?v11 ?hy11 ⟨O,u,J,N⟩ ?rest11
   case hy11=>(intro w' d;obtain⟨U,h1,h,g⟩:=d;go_simp;(try with_reducible rfl))
   (try simp only[lAy])
   refine tY 12 ?v12 ?hy12 ⟨O,u,J,N⟩ ?rest12
   case hy12=>(intro w' d;obtain⟨U,h1,h,g⟩:=d;go_simp;(try with_reducible rfl))
   (try simp only[lAy])
   refine tY 13 ?v13 ?hy13 ⟨O,u,J,N⟩ ?rest13
   case hy13=>(intro w' d;obtain⟨U,h1,h,g⟩:=d;go_simp;(try with_reducible rfl))
   (try simp only[lAy])
   refine tY 14 ?v14 ?hy14 ⟨O,u,J,N⟩ ?rest14
   case hy14=>(intro w' d;obtain⟨U,h1,h,g⟩:=d;go_simp;(try with_reducible rfl))
   (try simp only[lAy])
   refine jQ (i:=15) rfl (by kernel_rfl) (fun K hK=>?_)
   go_simp
   refine hK.out _ _ (.inr ⟨c5,z06,z16,z26⟩) ?_;clear hK K
   (try simp only[lAy])
   refine jQ (i:=16) rfl (by kernel_rfl) (fun K hK=>?_)
   refine wM rfl (.tmp 26) (.tmp 37) _ _ rfl (.slice T a.ss.length c) (.slice (some ⟨w1,0,none⟩) 1 1) (.slice T3 (a.ss.length+1) c3) (by go_simp) (by go_simp) HRUN.o ?_
   refine hK.out _ _ (.inr ⟨q4,z05,z15,z25⟩) ?_;clear hK K
   (try simp only[lAy])
   refine tY 17 ?v17 ?hy17 ⟨q4,z05,z15,z25⟩ ?rest17
   case hy17=>(intro w' d;obtain⟨U,h1,h,g⟩:=d;go_simp;(try with_reducible rfl))
   (try simp only[lAy])
   refine tY 18 ?v18 ?hy18 ⟨q4,z05,z15,z25⟩ ?rest18
   case hy18=>(intro w' d;obtain⟨U,h1,h,g⟩:=d;go_simp;(try with_reducible rfl))
   (try simp only[lAy])
   refine jQ (i:=19) rfl (by kernel_rfl) (fun K hK=>?_)
   go_simp
   refine hK.out _ _ (.inl rfl) ?_;clear hK K;refine mS (by kernel_rfl) ?_ _
   go_wp2_with fail
   go_ret
   exact HR.o
  have e4:((ns.length:Int)==3)=false:=by simp;omega
  have hr:xW a i x=none:=by
   rw[HRD.o,hn]
   split
   ·rename_i hh
    simp at hh
    rw[hh] at g
    simp at g
   rfl
  have HR:=hId (HN1.o hr);clear HC hm hi hb1 hn HN1 hr g
  go_wp2_with fail
  go_ret
  exact HR.o
theorem zKX (W0:World) (G:Nat) (a:Au) (i:Nat) (x:List UInt8) (W:World) (g:PaM W0 G a W) (d:Inv a i) (m:i<=200000) (e:xR W) (h:x.length<=99999) (s:a.ss.length<200000):
  Calls Tryz.prog 99 #[(⟨G,0,none⟩:Addr),.int .i64 ((i:Int)+1),.string (sB x)] W (gQ W0 G (xW a i x)):=by
 match i,d with
 |0,d=>obtain rfl:a=qR:=d;exact zKd W0 G x W g e h
 |1,d=>exact zJp W0 G a x W g d.2.2 e h
 |2,d=>exact zKG W0 G a x W g d.1 (by rw[d.2.1];simp;have:=d.1;omega) e h
 |j+3,_=>exact zKn W0 G a (j+3) x W g (by omega) m e h s
def sC (w:World) (r:Au×Nat×Int) (e:Ending) (w':World):Prop:=∃A B C ca cb cc,e=.returned (.tuple #[.agg #[r.1.st,r.1.le,.slice A r.1.fs.length ca,.slice B r.1.gs.length cb,.slice C r.1.ss.length cc],(r.2.1:Int),r.2.2])/\zM w' 0 r.1 A B C ca cb cc/\Below w w w'
theorem zIl (w:World) (lo:Nat):zM w lo qR none none none 0 0 0:=⟨pO _ _,⟨nLe,by omega,by simp[qR],Rd.nil,Fz.no⟩,⟨nLe,by omega,by simp[qR],Rd.nil,Fz.no⟩⟩
theorem zDJ (w:World):zM w 0 qR none none none 0 0 0:=⟨pO _ _,⟨nLe,by omega,by simp[qR],Rd.nil,Fz.no⟩,⟨nLe,by omega,by simp[qR],Rd.nil,Fz.no⟩⟩
theorem PaM.rd {W0:World} {G:Nat} {a:Au} {W:World} (h:PaM W0 G a W):∃A B C ca cb cc,W.heap[G]?=some (.cells #[a.st,a.le,.slice A a.fs.length ca,.slice B a.gs.length cb,.slice C a.ss.length cc] 31 (0,0))/\zM W (G+1) a A B C ca cb cc:=by
 obtain⟨A,ca,gv,sv,base,i,J,K,m,N,s,u,O⟩:=h.obj;obtain⟨C,cc,j,d⟩:=SlE.of_own (enc:=Stp.cells) (bt:=24) u (by have:=h.sl;omega)
 obtain⟨rfl,rfl⟩:sv.1=C/\sv.2=cc:=by simpa using j
 have e:zE W (G+1) A ca a.fs:=m
 rcases s with⟨rfl,hg⟩|⟨g,rfl,hg1,_,hr⟩
 ·refine⟨A,none,sv.1,ca,0,sv.2,by rw[hg];exact i,e,?_,d.low (by omega)⟩
  rw[hg];exact⟨nLe,by omega,by simp,Rd.nil,Fz.no⟩
 exact⟨A,some ⟨g,0,none⟩,sv.1,ca,a.gs.length,sv.2,i,e,(hr.bools (by have:=h.gl;omega)).low (by omega),d.low (by omega)⟩
theorem zB8 {d:Func} (h:d.results=#[.cell 2 31,.tmp 3,.tmp 4]) (tmps:Array Value) (w:World) (V:Nat) {e g i j m x y:Value} (u:tmps[2]?=some (.pointer (some ⟨V,0,none⟩))) (J:tmps[3]?=some x) (K:tmps[4]?=some y)
  (s:w.heap[V]?=some (.cells #[e,g,i,j,m] 31 (0,0))):(results d tmps).run Tryz.prog w=.ok (.tuple #[.agg #[e,g,i,j,m],x,y]) w:=by
 obtain⟨N,O,U,r3,r4,_⟩:=zZ s
 simp[results,h,go_sem,u,J,K,N,O,U,r3,r4]
theorem zLa {a a':Au} {i:Nat} {x:List UInt8} (d:Inv a i) (h:xW a i x=some a'):a'.ss.length<=a.ss.length+1:=by
 match i,d with
 |0,_=>
  change gG x=some a' at h;unfold gG at h
  split at h
  ·split at h
   ·split at h
    ·split at h
     ·obtain rfl:=Option.some.inj h;simp
     cases h
    cases h
   cases h
  cases h
 |1,_=>
  change(xP kZ x).map _=some a' at h;obtain⟨m,_,rfl⟩:=Option.map_eq_some_iff.1 h
  simp
 |2,_=>
  change(match xP vP x with|none=>none|some l=>(yV a.st a.gs (-1) l).map fun g=>{a with gs:=g})=some a' at h
  split at h
  ·cases h
  obtain⟨m,_,rfl⟩:=Option.map_eq_some_iff.1 h
  simp
 |j+3,_=>
  change(match jR (zH 32 x) with|some [f,l,t]=>some {a with ss:=a.ss++[⟨f,l,t⟩]}|_=>none)=some a' at h
  split at h
  ·obtain rfl:=Option.some.inj h;simp
  cases h
theorem zCD {s:List UInt8} {n:Nat} (h:¬100000<s.length) (d:tH qR 0 (zH 10 s)=.inl n):gZ s=(qR,n,1):=by unfold gZ;rw[if_neg h,d]
theorem zGj {s:List UInt8} {a:Au} (h:¬100000<s.length) (d:tH qR 0 (zH 10 s)=.inr a):gZ s=if ckA a=0 then(a,0,0) else(qR,0,ckA a):=by unfold gZ;rw[if_neg h,d]
theorem zII (s:List UInt8) (w:World) (hL:xR w):Calls Tryz.prog 55 #[.string (sB s)] w (sC w (gZ s)):=by
 have h0:Below w w (w.alloc (.cells #[(0:Int),(0:Int),(),(),()] 31)):=bLa
 have HL0:=hId (hL.below h0 nLe)
 have N:(w.alloc (.cells #[(0:Int),(0:Int),(),(),()] 31)).heap[w.heap.size]?=some (.cells #[(0:Int),(0:Int),(),(),()] 31 (0,0)):=by
  show(w.heap.push _)[w.heap.size]?=_
  simp
 have hsz:(w.alloc (.cells #[(0:Int),(0:Int),(),(),()] 31)).heap.size=w.heap.size+1:=by simp
 go_enter Tryz.func55,Tryz.ntmps55
 go_upto_region 1 with fail
 obtain⟨R,hR⟩:∃R,R=w.heap.size:=⟨_,rfl⟩;rw[<-hR] at N h0 hsz ⊢;have HRR:=hId hR;generalize w.alloc (.cells #[(0:Int),(0:Int),(),(),()] 31)=W0 at *
 have HZ:Hid (∀ W,Below W0 W0 W->W.heap[R]?=some (.cells #[(0:Int),(0:Int),(),(),()] 31 (0,0))):=fun W h=>(h.block R (by omega)).trans N
 have HE:Hid (∀ W,Below W0 W0 W->∀v0 v1 v2 v3 v4,Below R w (set5 W R v0 v1 v2 v3 v4)):=fun W h v0 v1 v2 v3 v4=>zS (zA h0 h (by omega)) nLe _ _ _ _ _
 have j:Hid (∀ W,Below W0 W0 W->∀(n:Nat) (e:Int),gZ s=(qR,n,e)->sC w (gZ s) (.returned (.tuple #[dS,n,e])) (set5 W R (.int .i64 0) (.int .i64 0) () () ())):=fun W h n e hr=>by
  rw[hr];exact⟨none,none,none,0,0,0,rfl,zDJ _,by rw[<-HRR.o];exact HE.o _ h _ _ _ _ _⟩
 have u:Hid (∀ W,Below W0 W0 W->∀v0 v1 v2 v3 v4,(set5 W R v0 v1 v2 v3 v4).heap[R]?=some (.cells #[v0,v1,v2,v3,v4] 31 (0,0))):=fun W h v0 v1 v2 v3 v4=>zW (HZ.o W h) _ _ _ _ _
 have HSZ:=hId hsz;clear hR h0 N hsz
 by_cases hlen:100000<s.length
 ·have q1:(100000:Int)<((sB s).size:Int):=by rw[qQ];omega
  have U:Hid (sC w (gZ s) (.returned (.tuple #[dS,(0:Int),(2:Int)])) _):=j.o W0 bRf 0 2 (by unfold gZ;rw[if_pos hlen])
  have i:=hId (u.o W0 bRf (.int .i64 0) (.int .i64 0) () () ());obtain⟨c0,c1,c2,c3,c4,f0,f1,f2,f3,f4⟩:=zZ (HZ.o W0 bRf);clear hlen
  go_wp2_with fail
  exact bodyPost_ret (zB8 Tryz.results55 _ _ R rfl rfl rfl i.o) rfl U.o
 have q1:¬(100000:Int)<((sB s).size:Int):=by rw[qQ];omega
 have hP0:=PaM.new W0;obtain⟨G,hG⟩:∃G,G=W0.heap.size:=⟨_,rfl⟩
 go_upto_block 0 with fail
 rw[<-hG] at hP0 HZ HE j u HSZ ⊢;have HG:=hId hG;have HP0:=hId hP0;have HLL:Hid (∀ W,Below G W0 W->xR W):=fun W h=>HL0.o.below h (by rw[hG];exact nLe)
 clear hG hP0;generalize W0.alloc (.cells #[(0:Int),(0:Int),(),(),()] 31)=W1 at *;have HLE:=hId hlen;have hsl:s.length<=100000:=by omega
 clear hlen q1
 go_wp2_with fail
 go_loopw [0,6,7,8,9] (fun v0 v6 _ _ _ wr=>∃(k:Nat) (a:Au) (r:List UInt8),v0=.string (sB r)/\v6=(k:Int)/\k+r.length<=100000/\a.ss.length<=k/\Hid (PaM W0 G a wr)/\Hid (Inv a k)/\Hid (tH qR 0 (zH 10 s)=tH a k (zH 10 r))) (fun _ v6 _ _ _ _=>100002-(intOf v6).toNat)
 case atStart=>exact⟨0,qR,s,rfl,rfl,by omega,by simp[qR],HP0.o,rfl,rfl⟩
 obtain⟨k,a,r,rfl,rfl,hk,hak,O,HI,K⟩:=hrel;obtain⟨A,B,C,ca,cb,cc,ho,hrd⟩:=O.o.rd
 by_cases hex:3<=k/\r=[]
 ·obtain⟨h3,rfl⟩:=hex
  have q2:¬(k:Int)<3:=by omega
  have m:Hid (tH qR 0 (zH 10 s)=.inr a):=K.o.trans (if_pos ⟨h3,rfl⟩)
  have HRA:=hId (zGj HLE.o m.o);have HRD:=hId hrd;have HO:=hId ho;obtain⟨c0,c1,c2,c3,c4,f0,f1,f2,f3,f4⟩:=zZ ho;clear hrd ho K m;have e1:(sB []).toList.isEmpty=true:=by rw[gE];rfl
  have HCK:=hId (kQ a A B C ca cb cc wr (HRD.o.low (Nat.zero_le _)))
  go_wp2_with fail
  refine HCK.o.mono ?_;rintro e J ⟨rfl,d⟩;have g:=hId (zA O.o.below d (Nat.le_of_lt O.o.lt));have hGl:=O.o.lt;clear c0 c1 c2 c3 c4 f0 f1 f2 f3 f4
  by_cases hck:ckA a=0
  ·have hck1:(ckA a !=0)=false:=by simp[hck]
   obtain⟨c0,c1,c2,c3,c4,f0,f1,f2,f3,f4⟩:=zZ ((d.block G hGl).trans HO.o);obtain⟨d0,d1,d2,d3,d4,g0,g1,g2,g3,g4⟩:=zZ (HZ.o J g.o)
   have U:Hid (sC w (gZ s) (.returned (.tuple #[.agg #[a.st,a.le,.slice A a.fs.length ca,.slice B a.gs.length cb,.slice C a.ss.length cc],(0:Int),(0:Int)])) (set5 J R a.st a.le (.slice A a.fs.length ca) (.slice B a.gs.length cb) (.slice C a.ss.length cc))):=by
    rw[HRA.o,if_pos hck];exact⟨A,B,C,ca,cb,cc,rfl,((HRD.o.below d).set5_ (by have:=HSZ.o;omega) _ _ _ _ _).low (Nat.zero_le _),by rw[<-HRR.o];exact HE.o _ g.o _ _ _ _ _⟩
   have i:=hId (u.o J g.o a.st a.le (.slice A a.fs.length ca) (.slice B a.gs.length cb) (.slice C a.ss.length cc));clear d hck;generalize ckA a=ck at *
   go_wp2_with fail
   exact bodyPost_ret (zB8 Tryz.results55 _ _ R rfl rfl rfl i.o) rfl U.o
  have hck1:(ckA a !=0)=true:=by simp[hck]
  obtain⟨d0,d1,d2,d3,d4,g0,g1,g2,g3,g4⟩:=zZ (HZ.o J g.o);have U:Hid (sC w (gZ s) (.returned (.tuple #[dS,(0:Int),(ckA a)])) _):=j.o J g.o 0 (ckA a) (by rw[HRA.o,if_neg hck])
  have i:=hId (u.o J g.o (.int .i64 0) (.int .i64 0) () () ());clear d hck;generalize ckA a=ck at *
  go_wp2_with fail
  exact bodyPost_ret (zB8 Tryz.results55 _ _ R rfl rfl rfl i.o) rfl U.o
 have HEX:=hId hex;clear ho hrd
 have hkk:(k:Int)<3\/(¬ (k:Int)<3)/\(sB r).toList.isEmpty=false:=by
  rcases Nat.lt_or_ge k 3 with h|h
  ·exact .inl (by omega)
  refine .inr ⟨by omega,?_⟩
  rw[gE];have:r≠[]:=fun e=>hex ⟨h,e⟩
  cases r with
  |nil=>exact absurd rfl this
  |cons x y=>rfl
 have HL2:=hId (HLL.o _ O.o.below);clear hex
 rcases jI 10 r with hno|⟨p,q,rfl,hp⟩
 ·have HCU:Hid (Calls Tryz.prog 98 #[.string (sB r),.string ⟨#[10]⟩] wr fun e w'=>e=.returned (.tuple #[.string (sB r),.string (sB []),false])/\Below wr wr w'):=by
   have:=zJk r [10] wr HL2.o (by omega)
   rwa[zHc hno] at this
  have m:Hid (tH qR 0 (zH 10 s)=.inl (k+1)):=K.o.trans (by rw[xF hno];exact if_neg HEX.o)
  clear hno
  rcases hkk with q2|⟨q2,e1⟩
  all_goals
   go_wp2_with fail
   refine HCU.o.mono ?_;rintro e J ⟨rfl,d⟩;have g:=hId (zA O.o.below d (Nat.le_of_lt O.o.lt));obtain⟨d0,d1,d2,d3,d4,g0,g1,g2,g3,g4⟩:=zZ (HZ.o J g.o)
   have U:Hid (sC w (gZ s) (.returned (.tuple #[dS,.int .i64 ((k:Int)+1),(1:Int)])) _):=j.o J g.o (k+1) 1 (zCD HLE.o m.o)
   have i:=hId (u.o J g.o (.int .i64 0) (.int .i64 0) () () ());clear d
   go_wp2_with fail
   exact bodyPost_ret (zB8 Tryz.results55 _ _ R rfl rfl rfl i.o) rfl U.o
 have HCU:Hid (Calls Tryz.prog 98 #[.string (sB (p++10::q)),.string ⟨#[10]⟩] wr fun e w'=>e=.returned (.tuple #[.string (sB p),.string (sB q),true])/\Below wr wr w'):=by
  have:=zJk (p++10::q) [10] wr HL2.o (by omega)
  rwa[zJx hp] at this
 have HSP:Hid (zH 10 (p++10::q)=p::zH 10 q):=yN q hp
 have hpl:p.length+1+q.length+k<=100000:=by simp at hk;omega
 clear hp hk
 rcases hkk with q2|⟨q2,e1⟩
 all_goals
  go_wp2_with fail
  refine HCU.o.mono ?_;rintro e J ⟨rfl,d⟩;have HP2:=hId (O.o.on d);have HT:Hid (Calls _ _ _ _ _):=zKX W0 G a k p J HP2.o HI.o (by omega) (HLL.o _ HP2.o.below) (by omega) (by omega)
  clear d O
  go_wp2_with fail
  refine HT.o.mono ?_;rintro e w3 ⟨hb3,b,rfl,hm⟩;have HB3:Hid (Below G W0 w3):=hb3;clear hb3
  cases hd:xW a k p with
  |none=>
   rw[hd] at hm;have hbf:b=false:=hm;subst hbf;have m:Hid (tH qR 0 (zH 10 s)=.inl (k+1)):=K.o.trans (by rw[HSP.o];exact zFk hd (uF _ _))
   obtain⟨d0,d1,d2,d3,d4,g0,g1,g2,g3,g4⟩:=zZ (HZ.o w3 HB3.o);have U:Hid (sC w (gZ s) (.returned (.tuple #[dS,.int .i64 ((k:Int)+1),(1:Int)])) _):=j.o w3 HB3.o (k+1) 1 (zCD HLE.o m.o)
   have i:=hId (u.o w3 HB3.o (.int .i64 0) (.int .i64 0) () () ());clear hm hd
   go_wp2_with fail
   exact bodyPost_ret (zB8 Tryz.results55 _ _ R rfl rfl rfl i.o) rfl U.o
  |some a'=>
   rw[hd] at hm;obtain⟨hbt,hPM⟩:b=true/\PaM W0 G a' w3:=hm;subst hbt;have HPM:=hId hPM;have HI2:Hid (Inv a' (k+1)):=(zIL HI.o hd).1;have hss:=zLa HI.o hd
   have HG1:Hid (tH qR 0 (zH 10 s)=tH a' (k+1) (zH 10 q)):=K.o.trans (by rw[HSP.o];exact dP hd (uF _ _))
   clear hPM hd
   go_wp2_with fail
   go_roundw
   case rel=>exact⟨k+1,a',q,rfl,by go_num,by omega,by omega,HPM.o,HI2.o,HG1.o⟩
   case measure=>simp[intOf];omega
end
section
open Go Go.RowKit Go.Sort Go.Shelf
theorem zDV:Enters Tryz.prog 91:=enters_of Tryz.func91 (by kernel_rfl) rfl
theorem zCy (s:Stp) (n:Int) (w:World):Calls Tryz.prog 91 #[.agg #[s.f,s.l,s.t],n] w fun e w'=>e=.returned (fE s.f n)/\Below w w w':=by
 go_enter Tryz.func91,Tryz.ntmps91
 go_wp2_with (go_at_call 92;refine(iT _ _ _).mono ?_;rintro e w' ⟨rfl,rfl⟩)
 go_ret
 exact⟨rfl,by go_grown⟩
theorem zHR (x y:Int):fE x y<0↔x<y:=by
 unfold fE
 split
 ·simp[*]
 split<;>simp[*]
structure zFe (ss:List Stp) (n:Int) (i:Nat):Prop where
 le:i<=ss.length
 lo:∀j,(h:j<ss.length)->j<i->ss[j].f<n
 hi:∀j,(h:j<ss.length)->i<=j->n<=ss[j].f
def zDm (w:World) (ss:List Stp) (n:Int) (e:Ending) (w':World):Prop:=∃(i:Nat) (f:Bool),e=.returned (.tuple #[i,f])/\zFe ss n i/\Below w w w'
theorem zDL (C:Option Addr) (cc:Nat) (ss:List Stp) (n:Int) (w:World) (hs:jZ w 0 C cc ss) (ho:xV ss) (hl:ss.length<=1000000):
  Calls Tryz.prog 90 #[.slice C ss.length cc,n,.func (.func 91) #[] #[]] w (zDm w ss n):=by
 have hgr:∀(args:Array Value) (w:World),(callFunc 91 args).run Tryz.prog w=.ok (.enter 91 args) w:=zDV
 have HSS:=hId hs
 have HMO:Hid (∀ i j,(hi:i<ss.length)->(hj:j<ss.length)->i<=j->ss[i].f<=ss[j].f):=by
  intro i j hi hj hij
  rcases Nat.eq_or_lt_of_le hij with rfl|h
  ·exact Int.le_refl _
  have:=List.pairwise_iff_getElem.1 ho i j hi hj h;rw[jX] at this;omega
 have hle:=hs.le;clear hs ho
 go_enter Tryz.func90,Tryz.ntmps90
 go_wp2_with fail
 go_loopw [9,10,11] (fun i j _ wr=>∃a b:Nat,a<=b/\b<=ss.length/\i=.int .i64 a/\j=.int .i64 b/\Below w w wr/\Hid ((∀ k,(h:k<ss.length)->k<a->ss[k].f<n)/\∀k,(h:k<ss.length)->b<=k->n<=ss[k].f)) (fun i j _ _=>(intOf j).toNat-(intOf i).toNat)
 case atStart=>exact⟨0,ss.length,Nat.zero_le _,nLe,rfl,rfl,bRf,fun k _ h=>absurd h (by omega),fun k K U=>absurd K (by omega)⟩
 obtain⟨a,b,hab,hb,rfl,rfl,d,u⟩:=hrel;have HB:=hId d
 by_cases hlt:a<b
 ·have h0:(a+b)/2<ss.length:=by omega
  have hm2:a<=(a+b)/2:=by omega
  have hm3:(a+b)/2<b:=by omega
  obtain⟨bb,o,rfl,_,hbl,q1,q2,q3⟩:=jZ.at_ (HSS.o.below d) h0;obtain⟨s,hs⟩:∃s,s=ss[(a+b)/2]:=⟨_,rfl⟩;rw[<-hs] at q1 q2 q3;have HS:=hId hs;obtain⟨cv,g⟩:∃c,c=fE s.f n:=⟨_,rfl⟩
  have HC:=hId (fun W=>zCy s n W)
  rw[<-g] at HC;have HCV:Hid (cv<0↔s.f<n):=by show _↔_;rw[g];exact zHR _ _
  clear hs g d
  go_wp2_with fail
  refine(HC.o _).mono ?_;rintro e w2 ⟨rfl,m⟩;have J:Hid (Below w w w2):=zA HB.o m HB.o.size;clear m
  by_cases hc0:cv<0
  ·have O:Hid ((∀ k,(h:k<ss.length)->k<(a+b)/2+1->ss[k].f<n)/\∀k,(h:k<ss.length)->b<=k->n<=ss[k].f):=by
    refine⟨fun k K U=>?_,u.o.2⟩
    have h3:=HMO.o k _ K h0 (by omega)
    have h4:=HCV.o.1 hc0;rw[HS.o] at h4;omega
   go_wp2_with fail
   go_roundw
   case rel=>exact⟨(a+b)/2+1,b,by omega,hb,by go_num,rfl,J.o,O.o⟩
   case measure=>simp[intOf];omega
  have O:Hid ((∀ k,(h:k<ss.length)->k<a->ss[k].f<n)/\∀k,(h:k<ss.length)->(a+b)/2<=k->n<=ss[k].f):=by
   refine⟨u.o.1,fun k K U=>?_⟩
   have h3:=HMO.o _ k h0 K U;have h4:¬s.f<n:=fun h=>hc0 (HCV.o.2 h)
   rw[HS.o] at h4;omega
  go_wp2_with fail
  go_roundw
  case rel=>exact⟨a,(a+b)/2,hm2,by omega,rfl,by go_num,J.o,O.o⟩
  case measure=>simp[intOf];omega
 obtain rfl:a=b:=by omega
 have HLB:Hid (zFe ss n a):=⟨hb,fun k K U=>u.o.1 k K U,fun k K U=>u.o.2 k K U⟩
 by_cases hal:a<ss.length
 ·obtain⟨bb,o,rfl,_,hbl,q1,q2,q3⟩:=jZ.at_ (HSS.o.below d) hal
  generalize ss[a]=s at *;obtain⟨cv,g⟩:∃c,c=fE s.f n:=⟨_,rfl⟩;have HC:=hId (fun W=>zCy s n W)
  rw[<-g] at HC;obtain⟨fb,N⟩:∃f,f=(cv==0):=⟨_,rfl⟩;clear g d
  go_wp2_with fail
  refine(HC.o _).mono ?_;rintro e w2 ⟨rfl,m⟩;have J:Hid (Below w w w2):=zA HB.o m HB.o.size;have HP:Hid (zDm w ss n (.returned (.tuple #[a,.bool (cv==0)])) w2):=⟨a,_,rfl,HLB.o,J.o⟩;clear m
  rw[<-N] at HP;have HFB:=hId N;have hfb2:(cv==0)=fb:=N.symm;clear N
  go_wp2_with fail
  go_ret2
  exact HP.o
 have HP:Hid (zDm w ss n (.returned (.tuple #[a,false])) wr):=⟨a,_,rfl,HLB.o,HB.o⟩
 clear d
 go_wp2_with fail
 go_ret2
 exact HP.o
def zG (a:Au) (n:Int):List Stp:=a.ss.filter fun s=>s.f==n
theorem zGe {n:Int}:∀(d:List Stp),(∀ s∈d,n<=s.f)->d.Pairwise (fun s t=>s.f<=t.f)->∃m,m<=d.length/\d.filter (fun s=>s.f==n)=d.take m/\(∀ j,(h:j<d.length)->j<m->d[j].f=n)/\∀(h:m<d.length),d[m].f≠n
 |[],_,_=>⟨0,nLe,rfl,fun j h=>absurd h (by simp),fun h=>absurd h (by simp)⟩
 |x::r,hge,hp=>by
  have e:=List.pairwise_cons.1 hp
  by_cases hx:x.f=n
  ·obtain⟨m,g,i,u,J⟩:=zGe r (fun s hs=>hge s (List.mem_cons_of_mem _ hs)) e.2
   refine⟨m+1,by simpa using g,?_,fun j K N=>?_,fun h=>?_⟩
   ·rw[List.filter_cons,if_pos (by simp[hx]),i];rfl
   ·cases j with
    |zero=>exact hx
    |succ j=>exact u j (by simpa using K) (by omega)
   exact J (by simpa using h)
  refine⟨0,Nat.zero_le _,?_,fun j _ h=>absurd h (by omega),fun _=>hx⟩
  rw[List.take_zero,List.filter_eq_nil_iff];intro s hs
  have O:n<x.f:=by
   have:=hge x (List.mem_cons_self ..);omega
  rcases List.mem_cons.1 hs with rfl|hs
  ·simp;omega
  have:=e.1 s hs
  simp
  omega
theorem zEw {ss:List Stp} {n:Int} {i:Nat} (h:zFe ss n i) (ho:xV ss):∃m,i+m<=ss.length/\ss.filter (fun s=>s.f==n)=(ss.drop i).take m/\(∀ j,(h:j<ss.length)->i<=j->j<i+m->ss[j].f=n)/\∀(h:i+m<ss.length),ss[i+m].f≠n:=by
 obtain⟨m,u,J,K,N⟩:=zGe (n:=n) (ss.drop i) (fun s g=>by
  obtain⟨j,e,rfl⟩:=List.getElem_of_mem g;rw[List.getElem_drop];exact h.hi _ _ (by omega)) (by
  have:=ho.sublist (List.drop_sublist i ss);exact this.imp (fun{s t} hst=>by rw[jX] at hst;omega))
 rw[List.length_drop] at u;refine⟨m,by have:=h.le;omega,?_,fun j e O U=>?_,fun h0=>?_⟩
 ·rw[<-J]
  conv=>lhs;rw[<-List.take_append_drop i ss,List.filter_append]
  have:(ss.take i).filter (fun s=>s.f==n)=[]:=by
   rw[List.filter_eq_nil_iff];intro s g;obtain⟨j,e,rfl⟩:=List.getElem_of_mem g;rw[List.getElem_take];have d:j<i/\j<ss.length:=by rw[List.length_take] at e;omega
   have:=h.lo j d.2 d.1
   simp
   omega
  rw[this,List.nil_append]
 ·have:=K (j-i) (by rw[List.length_drop];omega) (by omega)
  rw[List.getElem_drop] at this
  simpa[show i+(j-i)=j by omega] using this
 have:=N (by rw[List.length_drop];omega)
 rw[List.getElem_drop] at this;exact this
def zFV (w:World) (a:Au) (A B C:Option Addr) (ca cb cc:Nat) (e:Ending) (w':World):Prop:=
 ∃V,e=.returned (.func (.func 89) #[] #[(⟨V,0,none⟩:Addr)])/\w.heap.size<=V/\yG w' V a A B C ca cb cc/\Below w w w'
theorem zCq (a:Au) (A B C:Option Addr) (ca cb cc:Nat) (w:World):
  Calls Tryz.prog 50 #[.agg #[a.st,a.le,.slice A a.fs.length ca,.slice B a.gs.length cb,.slice C a.ss.length cc]] w (zFV w a A B C ca cb cc):=by
 have d:=hId (jN w a A B C ca cb cc)
 go_enter Tryz.func50,Tryz.ntmps50
 go_wp2_with fail
 go_ret
 exact⟨w.heap.size,rfl,nLe,d.o.at,d.o.below⟩
structure zJs (W:World) (V X Y:Nat) (a:Au) (A B C:Option Addr) (ca cb cc:Nat) (n:Int) (i:Nat):Prop where
 au:yG W V a A B C ca cb cc
 lx:X<W.heap.size
 ly:Y<W.heap.size
 x:W.cell? ⟨X,0,none⟩=some (.int .i64 i)
 y:W.cell? ⟨Y,0,none⟩=some (.int .i64 n)
def eO (w:World) (V:Nat) (a:Au) (A B C:Option Addr) (ca cb cc:Nat) (n:Int) (e:Ending) (w':World):Prop:=
 ∃X Y i,e=.returned (.func (.func 93) #[] #[(⟨V,0,none⟩:Addr),(⟨X,0,none⟩:Addr),(⟨Y,0,none⟩:Addr)])/\w.heap.size<=X/\w.heap.size<=Y/\zJs w' V X Y a A B C ca cb cc n i/\zFe a.ss n i/\Below w w w'
theorem zCg (a:Au) (A B C:Option Addr) (ca cb cc V:Nat) (n:Int) (w:World) (hV:yG w V a A B C ca cb cc) (hs:jZ w 0 C cc a.ss) (ho:xV a.ss) (hl:a.ss.length<=1000000):
  Calls Tryz.prog 89 #[n,(⟨V,0,none⟩:Addr)] w (eO w V a A B C ca cb cc n):=by
 obtain⟨m,K,N,O,U,c4⟩:=hV;have HV:Hid (yG w V a A B C ca cb cc):=⟨m,K,N,O,U,c4⟩;have s:=hId (fun W (hW:Below w w W)=>zDL C cc a.ss n W (hs.below hW) ho hl)
 clear hs ho K N O U
 go_enter Tryz.func89,Tryz.ntmps89
 go_wp2_with fail
 refine(s.o _ (bLa)).mono ?_;rintro e h ⟨i,f,rfl,j,d⟩;have g:Below w w h:=(bLa).trans (d.mono (by simp))
 have hy:h.cell? ⟨w,0,none⟩=some (.int .i64 n):=(zT d (b:=w.heap.size) (o:=0) (by simp)).trans (by go_simp)
 have J:w.heap.size<h.heap.size:=by have:=d.size;simp at this;omega
 have HP:Hid (eO w V a A B C ca cb cc n (.returned (.func (.func 93) #[] #[(⟨V,0,none⟩:Addr),(⟨h,0,none⟩:Addr),(⟨w,0,none⟩:Addr)])) (h.alloc (.cells #[i] 3))):=by
  have u:Below h h (h.alloc (.cells #[i] 3)):=bLa
  refine⟨h.heap.size,w.heap.size,i,rfl,by omega,nLe,⟨(HV.o.below g m).below u (by omega),by simp,by simp;omega,by go_simp,(zT u J).trans hy⟩,j,zA g u g.size⟩
 have HLB:=hId j;clear d g j
 go_wp2_with fail
 go_ret
 exact HP.o
end
section
open Go Go.RowKit Go.Shelf
attribute [local go_sem] Oper.semAt_some
theorem zCV (a:Au) (A B C:Option Addr) (ca cb cc V X Y i:Nat) (n:Int) (Ms Fs:List Nat) (w0 w:World) (hA:yG w0 V a A B C ca cb cc) (N:jZ w0 0 C cc a.ss) (h7:Below w0 w0 w)
  (hX0:w.cell? ⟨X,0,none⟩=some (.int .i64 i)) (hY0:w.cell? ⟨Y,0,none⟩=some (.int .i64 n)) (h5:X<w.heap.size) (h6:Y<w.heap.size) (hF:∀F∈Fs,F<w.heap.size) (hX2:¬Bad Ms Fs w X) (hY2:¬Bad Ms Fs w Y)
  (ho:xV a.ss) (hl:a.ss.length<=1000000) (h9:zFe a.ss n i) (m:Nat) (hm:1<=m):
  zGz m Tryz.prog 93 #[(⟨V,0,none⟩:Addr),(⟨X,0,none⟩:Addr),(⟨Y,0,none⟩:Addr)] (fun s:Stp=>#[Value.agg #[s.f,s.l,s.t]]) (KpO w0.heap.size Ms Fs) (kX w0.heap.size Ms Fs) (zG a n) w:=by
 intro l J Jx W hW d hJ hJx hY h0;obtain⟨q,hq1,hq2,hq3,hq4⟩:=zEw h9 ho;have HJ:=hId hJ;have HJX:=hId hJx;have HY:=hId hY;have H0:=hId h0;have h4:Hid (zG a n=(a.ss.drop i).take q):=hq2;have HQ3:=hId hq3
 have HQ4:=hId hq4;have HA:=hId hA;have HS:=hId N;have HSA:=hId d;have HBW:Hid (Below w0 w0 W):=zA h7 hW h7.size;have HGX:Hid (yC w0.heap.size Ms Fs W X):=(yC.mk h5 hX2).below hF hW
 have HGY:Hid (yC w0.heap.size Ms Fs W Y):=(yC.mk h6 hY2).below hF hW
 have HX0:Hid (W.cell? ⟨X,0,none⟩=some (.int .i64 i)):=(hW.cell (p:=⟨X,0,none⟩) h5).trans hX0
 have HY0:Hid (W.cell? ⟨Y,0,none⟩=some (.int .i64 n)):=(hW.cell (p:=⟨Y,0,none⟩) h6).trans hY0
 have hVn:=hA.lt;have hcc:=N.le
 have HAT:Hid (∀ wr,Off w0.heap.size Ms Fs W wr->Below w0 w0 wr/\wr.cell? ⟨X,0,none⟩=some (.int .i64 i)/\wr.cell? ⟨Y,0,none⟩=some (.int .i64 n)):=fun wr hr=>
  ⟨zA HBW.o (hr.below HSA.o HBW.o.size) nLe,(HGX.o.cell hr).trans HX0.o,(HGY.o.cell hr).trans HY0.o⟩
 obtain⟨hbW,cx,cy⟩:=HAT.o W (Off.refl d);obtain⟨_,c0,c1,c2,c3,c4⟩:=HA.o.below hbW hVn;have hil:=h9.le;clear hJ hJx hY h0 hq2 hq3 hq4 hA N d hW h9 ho hX0 hY0 h5 h6 hF hX2 hY2 hbW h7
 refine callsIn_of_wp Tryz.func93 rfl trivial ?_ rfl
 simp only[Tryz.ntmps93,List.size_toArray,List.length_cons,List.length_nil,Nat.reduceAdd,Nat.reduceSub,Array.replicate_succ,Array.replicate_zero,List.push_toArray,List.append_toArray,List.nil_append,List.cons_append]
 by_cases hlt:i<a.ss.length
 ·obtain⟨b,o,hCC,_,hbl,_,_,_⟩:=jZ.at_ HS.o hlt
  subst hCC;have hcl:i<cc:=by omega
  have K:Hid ((zG a n).length=q):=by show _=_;rw[h4.o,List.length_take,List.length_drop];omega
  have HPRE:Hid (∀ k,(h:k<a.ss.length-i)->k<q->(zG a n).take k++[a.ss[i+k]]<+:zG a n/\(zG a n).take k++[a.ss[i+k]]=(zG a n).take (k+1)):=by
   intro k h1 h2
   have e:(zG a n).take k++[a.ss[i+k]'(by omega)]=(zG a n).take (k+1):=by
    rw[List.take_succ_eq_append_getElem (by rw[K.o];exact h2)]
    congr 2
    have:(zG a n)[k]?=some (a.ss[i+k]'(by omega)):=by
     rw[h4.o,List.getElem?_take_of_lt h2,List.getElem?_drop,List.getElem?_eq_getElem]
    rw[List.getElem?_eq_getElem (by rw[K.o];exact h2)] at this
    exact(Option.some.inj this).symm
   exact⟨by rw[e];exact List.take_prefix _ _,e⟩
  clear c0 c1 c2 c3
  gi_wp2
  gi_loopw [6,12] (fun _ s wr=>∃k:Nat,k<=q/\s=.int .i64 k/\Off w0.heap.size Ms Fs W wr/\Hid (J ((zG a n).take k) wr)) (fun _ s _=>a.ss.length-i-(intOf s).toNat)
  case atStart=>exact⟨0,Nat.zero_le _,rfl,Off.refl HSA.o,H0.o⟩
  obtain⟨k,hk,rfl,hb,h3⟩:=hrel;have HO:=hId hb;clear c4 cx cy;obtain⟨h8,cx,cy⟩:=HAT.o wr hb;have HB:=hId h8;obtain⟨_,c0,c1,c2,c3,c4⟩:=HA.o.below h8 hVn;have hYr:Y<wr.heap.size:=(HGY.o.off hb).lt
  clear hb c0 c1 c2 c3 h8
  by_cases hkl:k<a.ss.length-i
  ·obtain⟨b',o',O,_,hbl',q1,q2,q3⟩:=jZ.at_ (HS.o.below HB.o) (k:=i+k) (by omega)
   obtain⟨rfl,rfl⟩:b=b'/\o=o':=by simpa using O
   clear O;have HP:=HPRE.o k hkl;obtain⟨s,N⟩:∃s,s=a.ss[i+k]:=⟨_,rfl⟩;rw[<-N] at q1 q2 q3 HP;rw[show o+(i+k)*3=o+i*3+k*3 by omega] at q1 q2 q3
   have HPP:=hId HP;have hkl2:(k:Int)<(a.ss.length:Int)-(i:Int):=by omega
   by_cases hkq:k<q
   ·have g:s.f=n:=by rw[N];exact HQ3.o _ _ (by omega) (by omega)
    have hfn1:(s.f !=n)=false:=by simp[g]
    have HY2:=HY.o ((zG a n).take k) s (wr.alloc (.cells #[s.f,s.l,s.t] 80)) (HJ.o.alloc _ h3.o) (HPP.o hkq).1;obtain⟨fn,tmps,assign,body,hy,hR⟩:=HY2;have HRR:=hId hR;have HFN:=hId g
    have HPQ:=hId (HPP.o hkq);clear N HP hR g
    gi_wp2
    refine HRR.o.mono ?_;rintro e W3 (⟨rfl,u,hk3⟩|⟨rfl,u,_⟩)
    ·have U:Hid (J ((zG a n).take (k+1)) W3):=by
      show J _ _;rw[<-HPQ.o.2];exact u
     have HB3:Hid (Off w0.heap.size Ms Fs W W3):=by
      have h1:=HO.o.trans (Off.of_below (B:=wr.alloc (.cells #[s.f,s.l,s.t] 80)) HO.o.sane (bLa));exact h1.trans (hk3 h1.sane)
     clear u hk3
     gi_wp2
     go_roundw
     case rel=>exact⟨k+1,by omega,by go_num,HB3.o,U.o⟩
     case measure=>simp[intOf];omega
    have U:Hid (Jx ((zG a n).take k++[s]) W3):=u
    clear u
    gi_wp2
    refine bodyPost_ret (results_none rfl _ _ _) rfl ?_;exact⟨⟨_,rfl⟩,.inr ⟨_,HPQ.o.1,U.o⟩⟩
   obtain rfl:k=q:=by omega
   have g:s.f≠n:=by rw[N];exact HQ4.o (by omega)
   have hfn1:(s.f !=n)=true:=by simpa using g
   have j:Hid (J (zG a n) (wr.alloc (.cells #[s.f,s.l,s.t] 80))):=by
    have:=HJ.o.alloc (.cells #[s.f,s.l,s.t] 80) h3.o
    rwa[List.take_of_length_le (by rw[K.o];exact nLe)] at this
   clear N HP g
   gi_wp2
   refine⟨fun _ h=>(by cases h),?_⟩
   gi_wp2
   refine bodyPost_ret (results_none rfl _ _ _) rfl ?_;exact⟨⟨_,rfl⟩,.inl j.o⟩
  have j:Hid (J (zG a n) wr):=by
   have:=h3.o
   rwa[List.take_of_length_le (by rw[K.o];omega)] at this
  have hkl2:¬(k:Int)<(a.ss.length:Int)-(i:Int):=by omega
  gi_wp2
  go_end0
  exact⟨⟨_,rfl⟩,.inl j.o⟩
 have hz:a.ss.length-i=0:=by omega
 have j:Hid (J (zG a n) W):=by
  have e:zG a n=[]:=by rw[h4.o,List.drop_of_length_le (by omega)];simp
  show J _ _;rw[e];exact H0.o
 clear c0 c1 c2 c3
 gi_wp2
 all_goals
  gi_loopw [12] (fun s wr=>s=.int .i64 0/\wr=W) (fun _ _=>0)
  case atStart=>exact⟨rfl,rfl⟩
  obtain⟨rfl,rfl⟩:=hrel
  gi_wp2
  go_end0
  exact⟨⟨_,rfl⟩,.inl j.o⟩
attribute [local go_sem] Oper.semAt_some
theorem pP (a:Au) (A B C:Option Addr) (ca cb cc V X Y i:Nat) (n:Int) (Ms Fs:List Nat) (w0 w:World) (hA:yG w V a A B C ca cb cc) (hV2:¬Bad Ms Fs w V) (U:jZ w0 0 C cc a.ss) (hb0:Below w0 w0 w)
  (hX0:w.cell? ⟨X,0,none⟩=some (.int .i64 i)) (hY0:w.cell? ⟨Y,0,none⟩=some (.int .i64 n)) (hX1:X<w.heap.size) (hY1:Y<w.heap.size) (hF:∀F∈Fs,F<w.heap.size) (hX2:¬Bad Ms Fs w X) (hY2:¬Bad Ms Fs w Y)
  (ho:xV a.ss) (hl:a.ss.length<=1000000) (hlb:zFe a.ss n i) (m:Nat) (hm:1<=m):
  zGz m Tryz.prog 93 #[(⟨V,0,none⟩:Addr),(⟨X,0,none⟩:Addr),(⟨Y,0,none⟩:Addr)] (fun s:Stp=>#[Value.agg #[s.f,s.l,s.t]]) (KpO w0.heap.size Ms Fs) (kX w0.heap.size Ms Fs) (zG a n) w:=by
 intro l J Jx W hW d hJ hJx hY h0;obtain⟨q,hq1,hq2,hq3,hq4⟩:=zEw hlb ho;have HJ:=hId hJ;have HJX:=hId hJx;have HY:=hId hY;have H0:=hId h0;have HQ2:Hid (zG a n=(a.ss.drop i).take q):=hq2;have HQ3:=hId hq3
 have HQ4:=hId hq4;have HA:Hid (yG W V a A B C ca cb cc):=hA.below hW hA.lt;have g:Hid (yC w0.heap.size Ms Fs W V):=(yC.mk hA.lt hV2).below hF hW;have HS:=hId U;have HSA:=hId d
 have HBW:Hid (Below w0 w0 W):=zA hb0 hW hb0.size
 have HGX:Hid (yC w0.heap.size Ms Fs W X):=(yC.mk hX1 hX2).below hF hW
 have HGY:Hid (yC w0.heap.size Ms Fs W Y):=(yC.mk hY1 hY2).below hF hW
 have HX0:Hid (W.cell? ⟨X,0,none⟩=some (.int .i64 i)):=(hW.cell (p:=⟨X,0,none⟩) hX1).trans hX0
 have HY0:Hid (W.cell? ⟨Y,0,none⟩=some (.int .i64 n)):=(hW.cell (p:=⟨Y,0,none⟩) hY1).trans hY0
 have hcc:=U.le
 have HAT:Hid (∀ wr,Off w0.heap.size Ms Fs W wr->Below w0 w0 wr/\wr.cell? ⟨X,0,none⟩=some (.int .i64 i)/\wr.cell? ⟨Y,0,none⟩=some (.int .i64 n)/\yG wr V a A B C ca cb cc):=fun wr O=>
  ⟨zA HBW.o (O.below HSA.o HBW.o.size) nLe,(HGX.o.cell O).trans HX0.o,(HGY.o.cell O).trans HY0.o,(g.o.off O).lt,(g.o.cell O).trans HA.o.c0,(g.o.cell O).trans HA.o.c1,(g.o.cell O).trans HA.o.c2,(g.o.cell O).trans HA.o.c3,(g.o.cell O).trans HA.o.c4⟩
 obtain⟨hbW,cx,cy,⟨_,c0,c1,c2,c3,c4⟩⟩:=HAT.o W (Off.refl d);have hil:=hlb.le;clear hJ hJx hY h0 hq2 hq3 hq4 hA U d hW hlb ho hX0 hY0 hX1 hY1 hF hX2 hY2 hbW hb0 hV2;refine callsIn_of_wp Tryz.func93 rfl trivial ?_ rfl
 simp only[Tryz.ntmps93,List.size_toArray,List.length_cons,List.length_nil,Nat.reduceAdd,Nat.reduceSub,Array.replicate_succ,Array.replicate_zero,List.push_toArray,List.append_toArray,List.nil_append,List.cons_append]
 by_cases hlt:i<a.ss.length
 ·obtain⟨b,o,hCC,_,hbl,_,_,_⟩:=jZ.at_ HS.o hlt
  subst hCC;have hcl:i<cc:=by omega
  have N:Hid ((zG a n).length=q):=by show _=_;rw[HQ2.o,List.length_take,List.length_drop];omega
  have HPRE:Hid (∀ k,(h:k<a.ss.length-i)->k<q->(zG a n).take k++[a.ss[i+k]]<+:zG a n/\(zG a n).take k++[a.ss[i+k]]=(zG a n).take (k+1)):=by
   intro k h1 h2
   have e:(zG a n).take k++[a.ss[i+k]'(by omega)]=(zG a n).take (k+1):=by
    rw[List.take_succ_eq_append_getElem (by rw[N.o];exact h2)]
    congr 2
    have:(zG a n)[k]?=some (a.ss[i+k]'(by omega)):=by
     rw[HQ2.o,List.getElem?_take_of_lt h2,List.getElem?_drop,List.getElem?_eq_getElem]
    rw[List.getElem?_eq_getElem (by rw[N.o];exact h2)] at this
    exact(Option.some.inj this).symm
   exact⟨by rw[e];exact List.take_prefix _ _,e⟩
  clear c0 c1 c2 c3
  gi_wp2
  gi_loopw [6,12] (fun _ s wr=>∃k:Nat,k<=q/\s=.int .i64 k/\Off w0.heap.size Ms Fs W wr/\Hid (J ((zG a n).take k) wr)) (fun _ s _=>a.ss.length-i-(intOf s).toNat)
  case atStart=>exact⟨0,Nat.zero_le _,rfl,Off.refl HSA.o,H0.o⟩
  obtain⟨k,hk,rfl,hb,HJK⟩:=hrel;have HO:=hId hb;clear c4 cx cy;obtain⟨hbr,cx,cy,hAr⟩:=HAT.o wr hb;have HB:=hId hbr;obtain⟨_,c0,c1,c2,c3,c4⟩:=hAr;have hYr:Y<wr.heap.size:=(HGY.o.off hb).lt
  clear hb c0 c1 c2 c3 hbr
  by_cases hkl:k<a.ss.length-i
  ·obtain⟨b',o',h3,_,hbl',q1,q2,q3⟩:=jZ.at_ (HS.o.below HB.o) (k:=i+k) (by omega)
   obtain⟨rfl,rfl⟩:b=b'/\o=o':=by simpa using h3
   clear h3;have HP:=HPRE.o k hkl;obtain⟨s,U⟩:∃s,s=a.ss[i+k]:=⟨_,rfl⟩;rw[<-U] at q1 q2 q3 HP;rw[show o+(i+k)*3=o+i*3+k*3 by omega] at q1 q2 q3
   have HPP:=hId HP;have hkl2:(k:Int)<(a.ss.length:Int)-(i:Int):=by omega
   by_cases hkq:k<q
   ·have j:s.f=n:=by rw[U];exact HQ3.o _ _ (by omega) (by omega)
    have hfn1:(s.f !=n)=false:=by simp[j]
    have HY2:=HY.o ((zG a n).take k) s (wr.alloc (.cells #[s.f,s.l,s.t] 80)) (HJ.o.alloc _ HJK.o) (HPP.o hkq).1;obtain⟨fn,tmps,assign,body,hy,hR⟩:=HY2;have HRR:=hId hR;have HFN:=hId j
    have HPQ:=hId (HPP.o hkq);clear U HP hR j
    gi_wp2
    refine HRR.o.mono ?_;rintro e W3 (⟨rfl,K,hk3⟩|⟨rfl,K,_⟩)
    ·have HJ3:Hid (J ((zG a n).take (k+1)) W3):=by
      show J _ _;rw[<-HPQ.o.2];exact K
     have HB3:Hid (Off w0.heap.size Ms Fs W W3):=by
      have h1:=HO.o.trans (Off.of_below (B:=wr.alloc (.cells #[s.f,s.l,s.t] 80)) HO.o.sane (bLa));exact h1.trans (hk3 h1.sane)
     clear K hk3
     gi_wp2
     go_roundw
     case rel=>exact⟨k+1,by omega,by go_num,HB3.o,HJ3.o⟩
     case measure=>simp[intOf];omega
    have HJ3:Hid (Jx ((zG a n).take k++[s]) W3):=K
    clear K
    gi_wp2
    refine bodyPost_ret (results_none rfl _ _ _) rfl ?_;exact⟨⟨_,rfl⟩,.inr ⟨_,HPQ.o.1,HJ3.o⟩⟩
   obtain rfl:k=q:=by omega
   have j:s.f≠n:=by rw[U];exact HQ4.o (by omega)
   have hfn1:(s.f !=n)=true:=by simpa using j
   have u:Hid (J (zG a n) (wr.alloc (.cells #[s.f,s.l,s.t] 80))):=by
    have:=HJ.o.alloc (.cells #[s.f,s.l,s.t] 80) HJK.o
    rwa[List.take_of_length_le (by rw[N.o];exact nLe)] at this
   clear U HP j
   gi_wp2
   refine⟨fun _ h=>(by cases h),?_⟩
   gi_wp2
   refine bodyPost_ret (results_none rfl _ _ _) rfl ?_;exact⟨⟨_,rfl⟩,.inl u.o⟩
  have u:Hid (J (zG a n) wr):=by
   have:=HJK.o
   rwa[List.take_of_length_le (by rw[N.o];omega)] at this
  have hkl2:¬(k:Int)<(a.ss.length:Int)-(i:Int):=by omega
  gi_wp2
  go_end0
  exact⟨⟨_,rfl⟩,.inl u.o⟩
 have hz:a.ss.length-i=0:=by omega
 have u:Hid (J (zG a n) W):=by
  have e:zG a n=[]:=by rw[HQ2.o,List.drop_of_length_le (by omega)];simp
  show J _ _;rw[e];exact H0.o
 clear c0 c1 c2 c3
 gi_wp2
 all_goals
  gi_loopw [12] (fun s wr=>s=.int .i64 0/\wr=W) (fun _ _=>0)
  case atStart=>exact⟨rfl,rfl⟩
  obtain⟨rfl,rfl⟩:=hrel
  gi_wp2
  go_end0
  exact⟨⟨_,rfl⟩,.inl u.o⟩
def xD (W:World) (lo:Nat) (v:Value) (xs:List Int):Prop:=W.ownsRow lo 3 1 v xs.length (xs.flatMap fun n:Int=>[Value.int .i64 n])
theorem xD.pop {W:World} {lo n c:Nat} {A:Option Addr} {xs:List Int} {y:Int} (h:xD W lo (.slice A n c) (xs++[y])):xD W lo (.slice A xs.length c) xs:=by
 obtain⟨j,e⟩:=h;refine⟨zN (sz:=1) (fun _=>rfl) xs,?_⟩
 rcases e with⟨_,e⟩|⟨g,cap,cur,hv,hg,hh,hn,hc,hs,ht⟩
 ·simp at e
 simp at hv
 obtain⟨rfl,rfl,rfl⟩:=hv;rw[List.length_append] at hn ht;refine .inr ⟨g,c,cur,rfl,hg,hh,by simp at hn;omega,hc,hs,?_⟩
 have d:=zN (enc:=fun n:Int=>[Value.int .i64 n]) (sz:=1) (fun _=>rfl) xs
 have i:=congrArg (List.take (xs.length*1)) ht;rw[List.take_take,Nat.min_eq_left (by simp),List.flatMap_append,<-d,List.take_left] at i
 rw[<-d];exact i
theorem pG {W:World} {lo:Nat} {v:Value} {xs:List Int} {y:Int} {B:Nat} (O:TypeId) (e:xD W lo v xs) (U:W.heap[B]?=some (.cells #[y] 3 (0,0))) (hl:xs.length<=10000000) (m:lo<=W.heap.size):
  ∃v' W',(Builtin.append_ #[22,22] O #[v,.slice (some ⟨B,0,none⟩) 1 1]).run Tryz.prog W=.ok v' W'/\xD W' lo v' (xs++[y])/\W.grownBy W' v.ownBlock/\(v'.ownBlock=v.ownBlock\/v'.ownBlock=some W.heap.size):=by
 obtain⟨i0,i,J,K,N⟩:=info_parts qX
 have d:∀j u,[Value.int .i64 y][j]?=some u->W.cell? ((⟨B,0,none⟩:Addr).add j)=some u:=fun j u s=>by
  rw[qI];simp only[World.cell?,U,Nat.zero_add]
  match j,s with
  |0,s=>simpa using s
 obtain⟨v',W',g,ho,hg,_,h⟩:=run_append_own_at (P:=Tryz.prog) W lo 22 O 3 i0 _ 1 8 Tryz.underlying22 i J K N rfl (by decide) v xs.length _ e ⟨B,0,none⟩ 1 1 [.int .i64 y] rfl d (by simp[Value.oneCell']) (by unfold maxLen;omega) (by omega) m
 refine⟨v',W',g,?_,hg,h⟩;unfold xD;rw[List.length_append,List.flatMap_append]
 simpa using ho
theorem uR {W:World} {lo:Nat} {v:Value} {xs:List Int} {Fn:Fence} {n:Nat} {ops:Array Oper} {d:List Oper} {o:Oper} {a:Act} {Q:Exit->Act->World->Prop} (m:o.guard=none) (s x:Operand)
  (J:o.op=.call {callee:=.builtin .append,args:=#[s,x],argTypes:=#[22,22]}) {y:Int} {B:Nat} (hs:a.eval s=v) (hx:a.eval x=.slice (some ⟨B,0,none⟩) 1 1)
  (e:xD W lo v xs) (U:W.heap[B]?=some (.cells #[y] 3 (0,0))) (hl:xs.length<=10000000) (u:lo<=W.heap.size)
  (h:∀v' W',xD W' lo v' (xs++[y])->W.grownBy W' v.ownBlock->(v'.ownBlock=v.ownBlock\/v'.ownBlock=some W.heap.size)->wpListIn Fn n Tryz.prog ops Q d (a.put o.dst v') W'):
  wpListIn Fn n Tryz.prog ops Q (o::d) a W:=by
 refine wpListIn_plain m fun K' i=>?_
 obtain⟨v',W',g,K,N,O⟩:=pG o.type e U hl u;unfold Oper.wpIn;refine⟨by simp[Oper.about,J,resolve,Target.leads,Sem.run_pure],?_⟩
 rw[Oper.semAt_plain Fn _ _ (by rw[J];intro c j;cases j)]
 simp[execOp,J,resolve,invoke,builtin,hs,hx,g,Result.andThen]
 exact i _ _ (h v' W' K N O)
def lP (w:World) (xs:List Int) (e:Ending) (w':World):Prop:=∃v,e=.returned v/\xD w' w.heap.size v xs/\Below w w w'
theorem zEx (A:Option Addr) (c:Nat) (xs:List Int) (w:World) (j:zE w 0 A c xs):
  Calls Tryz.prog 65 #[.slice A xs.length c] w (lP w xs):=by
 obtain⟨i0,u,K,N,O⟩:=info_parts qX;have e:=j.max
 have q24:∀(w:World) (a:Option Addr) (n c U s:Nat),(binOp .eql 22 (.slice a n c) (.slice none U s)).run Tryz.prog w=.ok (.bool a.isNone) w:=fun w a n c U s=>Lib.run_eql_slice_nil w _ _ a n c U s Tryz.underlying22
 cases A with
 |none=>
  have J:xs=[]:=by
   cases xs with
   |nil=>rfl
   |cons x r=>
    obtain⟨b,off,h,_⟩:=j.rd (by simp)
    cases h
  subst J;have m:Hid (lP w [] (.returned ()) w):=⟨_,rfl,World.ownsRow_nil _ _ _ _,bRf⟩
  go_enter Tryz.func65,Tryz.ntmps65
  go_wp2_with fail
  go_ret
  exact m.o
 |some a=>
  have HX:=hId (j.rd.below (w':=w.alloc (.cells #[] 3)) (bLa) nLe);have HO:=hId (wP (w:=w) (base:=w.heap.size) 3 1 nLe);have m2:(0+xs.length)*8<=140737488355328:=by omega
  have m3:0+xs.length<=maxLen:=by simp only[maxLen];omega
  have m4:w.heap.size<=(w.alloc (.cells #[] 3)).heap.size:=by simp
  have HM:=hId e;clear j e
  go_enter Tryz.func65,Tryz.ntmps65
  go_wp2_with (at_builtin;refine qE _ rfl (.tmp 5) (.tmp 6) _ rfl w.heap.size 3 i0 _ 1 8 Tryz.underlying22 u K N O rfl (by decide) (.slice (some ⟨w,0,none⟩) 0 0) 0 [] rfl HO.o (some a) xs.length c _ rfl (zN (sz:=1) (fun _=>rfl) _) HX.o (jK _) m3 m2 m4 ?_;intro v2 w2 d i g)
  have m:Hid (lP w xs (.returned v2) w2):=by
   refine⟨v2,rfl,?_,qV (bLa) i HO.o nLe (by simp)⟩
   unfold xD
   simpa using d
  clear d i g
  go_wp2_with fail
  go_ret
  exact m.o
structure xM (w:World) (F G T n:Nat) (out:List Bool) (left:List Int) (v:Value) (W:World):Prop where
 below:Below w w W
 box:Boxed W F 22 v
 fr:xD W w.heap.size v left
 row:zU W G out
 t5:Boxed W T 28 (.slice (some ⟨G,0,none⟩) n n)
 lF:w.heap.size<=F
 lG:w.heap.size<=G
section
variable {F G T n:Nat} {w W W':World} {v:Value} {out:List Bool} {left:List Int}
theorem xM.FG (h:xM w F G T n out left v W):F≠G:=by
 rintro rfl;have e:W.heap[F]?=_:=h.box;have d:W.heap[F]?=_:=h.row;rw[e] at d
 simp at d
theorem xM.FT (h:xM w F G T n out left v W):F≠T:=by
 rintro rfl;have e:W.heap[F]?=_:=h.box;have d:W.heap[F]?=_:=h.t5;rw[e] at d
 simp at d
theorem xM.GT (h:xM w F G T n out left v W):T≠G:=by
 rintro rfl;have e:W.heap[T]?=_:=h.t5;have d:W.heap[T]?=_:=h.row;rw[e] at d
 simp at d
theorem xM.nG (h:xM w F G T n out left v W):v.ownBlock≠some G:=fun e=>by
 obtain⟨g,i⟩:∃g,v.ownBlock=some g:=⟨_,e⟩
 rcases h.fr.2 with⟨rfl,_⟩|⟨g',cap,cur,rfl,_,hh,_⟩
 ·cases e
 obtain rfl:g'=G:=by simpa[Value.ownBlock] using e
 have d:W.heap[g']?=_:=h.row
 rw[hh] at d
 simp at d
theorem xM.on (h:xM w F G T n out left v W) (d:Below W W W'):xM w F G T n out left v W':=by
 have e:W.grownBy W' none:=⟨d.os,d.tape,d.output,d.size,fun k g _=>d.block k g⟩
 exact⟨zA h.below d h.below.size,h.box.kept e (by simp),zD h.fr d,h.row.below d h.row.lt,h.t5.kept e (by simp),h.lF,h.lG⟩
theorem xM.own {m:Nat} (K:w.heap.size<=m) {row:Option Nat} (h:xM w F G T n out left v W) (d:W.grownBy W' row) (u:∀r,row=some r->m<=r/\∃o:Obj,W.heap[r]?=some o/\o.isCells=false):xM w F G T n out left v W':=by
 have g:∀{k:Nat} {o:Obj},W.heap[k]?=some o->o.isCells=true->some k≠row:=fun s J e=>by
  obtain⟨_,N,i,j⟩:=u _ e.symm;rw[s] at i;rw[<-Option.some.inj i,J] at j;cases j
 refine⟨h.below.grown d h.below.size (fun k s=>by have:=(u k s).1;omega),h.box.kept d (g h.box rfl),World.ownsRow.kept h.fr d ?_,h.row.grown d (g h.row rfl),h.t5.kept d (g h.t5 rfl),h.lF,h.lG⟩
 cases hv:v.ownBlock with
 |none=>exact .inl rfl
 |some r=>
  obtain⟨O,i,j⟩:=qA h.fr hv;exact .inr (g i j)
theorem xM.set {u:Value} {left':List Int} (h:xM w F G T n out left v W) (g:xD W w.heap.size u left'):xM w F G T n out left' u (W.setCell ⟨F,0,none⟩ u):=by
 have d:=grownBy_setCell' W F u
 exact⟨h.below.setCell (p:=⟨F,0,none⟩) h.lF _,h.box.set u,World.ownsRow.kept g d (.inr (h.box.not_row (by decide) g).symm),h.row.set_far (by exact fun e=>h.FG e.symm) _,h.t5.kept d (by simpa using h.FT.symm),h.lF,h.lG⟩
theorem xM.mark (h:xM w F G T n out left v W) (i:Nat):xM w F G T n (out.set i true) left v (W.setCell ⟨G,i,none⟩ (.bool true)):=by
 have d:W.grownBy (W.setCell ⟨G,i,none⟩ (.bool true)) (some G):=⟨rfl,rfl,rfl,by simp[World.setCell],fun k _ g=>Below.heap_setCell _ _ _ _ (fun e=>g (by rw[show k=G from e]))⟩
 exact⟨h.below.setCell (p:=⟨G,i,none⟩) h.lG _,h.box.kept d (by simpa using h.FG),World.ownsRow.kept h.fr d (.inr h.nG),h.row.set_ i true,h.t5.kept d (by simpa using h.GT),h.lF,h.lG⟩
theorem xM.app {m:Value} {g:World} {y:Int} (h:xM w F G T n out left v W) (i:xD g w.heap.size m (left++[y])) (s:W.grownBy g v.ownBlock):
  Boxed g F 22 v/\xM w F G T n out (left++[y]) m (g.setCell ⟨F,0,none⟩ m):=by
 have d:Boxed g F 22 v:=h.box.kept s (h.box.not_row (by decide) h.fr)
 have j:=grownBy_setCell' g F m;have u:=h.row.grown s (fun e=>h.nG e.symm)
 exact⟨d,⟨(h.below.grown s h.below.size (fun k J=>(h.fr.lt k J).1)).setCell (p:=⟨F,0,none⟩) h.lF _,d.set m,World.ownsRow.kept i j (.inr (d.not_row (by decide) i).symm),u.set_far (by exact fun e=>h.FG e.symm) _,
  (h.t5.kept s (h.t5.not_row (by decide) h.fr)).kept j (by simpa using h.FT.symm),h.lF,h.lG⟩⟩
theorem xM.sane (h:xM w F G T n out left v W) {Ms:List Nat} (d:∀k∈Ms,w.heap.size<=k/\k<W.heap.size):kX w.heap.size Ms [F] W:=eD h.box h.fr h.lF d
theorem xM.sane1 (h:xM w F G T n out left v W):kX w.heap.size [G] [F] W:=h.sane fun k d=>by rw[List.mem_singleton.1 d];exact⟨h.lG,h.row.lt⟩
theorem xM.off {v':Value} {i:List Bool} {left':List Int} {Ms:List Nat} (h:xM w F G T n out left v W) (J:xM w F G T n i left' v' W') (U:∀k∈Ms,w.heap.size<=k/\k<W.heap.size) (j:G∈Ms)
  (s:W'.os=W.os) (d:W'.tape=W.tape) (g:W'.output=W.output) (u:W.heap.size<=W'.heap.size)
  (hb:∀k,k<W.heap.size->k≠G->k≠F->v.ownBlock≠some k->W'.heap[k]?=W.heap[k]?) (m:v'.ownBlock=v.ownBlock\/∀r,v'.ownBlock=some r->W.heap.size<=r):Off w.heap.size Ms [F] W W':=
 zEG h.box J.box J.fr h.lF U s d g u (fun k hk K N O=>hb k hk (fun e=>K (by rw[e];exact j)) N O) m
def vI (lo:Nat) (Ms Fs:List Nat) (W:World) (ds:List Deferred):Prop:=∃Ds:List Nat,ds=Ds.map (fun D=>{target:=.collected D,args:=#[]})/\Ds.Nodup/\∀D∈Ds,lo<=D/\yC lo Ms Fs W D/\W.heap[D]?=some (.deferred (some []))
theorem vI.nil (lo:Nat) (Ms Fs:List Nat) (W:World):vI lo Ms Fs W []:=⟨[],rfl,.nil,fun D h=>by cases h⟩
theorem vI.off {lo:Nat} {Ms Fs:List Nat} {W W':World} {e:List Deferred} (h:vI lo Ms Fs W e) (g:Off lo Ms Fs W W'):vI lo Ms Fs W' e:=by
 obtain⟨i,s,u,J⟩:=h;exact⟨i,s,u,fun D K=>by obtain⟨j,d,m⟩:=J D K;exact⟨j,d.off g,(g.block D d.lt d.not).trans m⟩⟩
theorem vI.marks {lo:Nat} {Ms Fs:List Nat} {W:World} {d:List Deferred} (h:vI lo Ms Fs W d):zBH lo W d:=by
 obtain⟨i,j,m,e⟩:=h;exact⟨i,j,m,fun D g=>⟨(e D g).1,(e D g).2.2⟩⟩
theorem yG.off {lo:Nat} {Ms Fs:List Nat} {W W':World} {V:Nat} {a:Au} {A B C:Option Addr} {ca cb cc:Nat} (h:yG W V a A B C ca cb cc) (d:yC lo Ms Fs W V) (e:Off lo Ms Fs W W'):yG W' V a A B C ca cb cc:=
 ⟨(d.off e).lt,(d.cell e).trans h.c0,(d.cell e).trans h.c1,(d.cell e).trans h.c2,(d.cell e).trans h.c3,(d.cell e).trans h.c4⟩
structure zDt (a:Au) (A B C:Option Addr) (ca cb cc V:Nat) (w:World) (F G T N n:Nat) (op:Option Int) (ds:List Deferred) (out:List Bool) (left:List Int) (v:Value) (W:World):Prop where
 mem:xM w F G T N out left v W
 met:RcM a out left n op
 marks:vI w.heap.size [G] [F] W ds
 au:yG W V a A B C ca cb cc
 gd:yC w.heap.size [G] [F] W V
theorem zDt.on {a:Au} {A B C:Option Addr} {ca cb cc V:Nat} {w:World} {F G T N n:Nat} {i:Option Int} {e:List Deferred} {out:List Bool} {left:List Int} {v:Value} {W W':World} (h:zDt a A B C ca cb cc V w F G T N n i e out left v W) (g:Below W W W'):zDt a A B C ca cb cc V w F G T N n i e out left v W':=by
 have d:Off w.heap.size [G] [F] W W':=Off.of_below (h.mem.sane fun k j=>by rw[List.mem_singleton.1 j];exact⟨h.mem.lG,h.mem.row.lt⟩) g
 exact⟨h.mem.on g,h.met,h.marks.off d,h.au.off h.gd d,h.gd.off d⟩
structure RcR (a:Au) (w:World) (F G T N n:Nat) (x:Int) (w3:World) (out:List Bool) (left:List Int) (v:Value) (pre:List Stp) (W:World):Prop where
 mem:xM w F G T N out left v W
 met:RcM a out left n (some x)
 off:Off w.heap.size [G] [F] w3 W
 pre:∀s∈pre,kp out s.t=true
end
end
end Go.Proofs.YtoglgeaiiipchaaGreatDoor

import Derived.Test.YtoglgeaiiipchaaGreatDoorLRY12
import Derived.Deep.AppendSrc
import Derived.Maps.OwnIn
import Derived.Maps.Ext
import Derived.DeepKeys4
import Derived.ChangeKeysEq
set_option linter.unusedSimpArgs false
set_option linter.unusedVariables false
set_option maxRecDepth 100000
set_option maxHeartbeats 8000000
namespace Go.Proofs.YtoglgeaiiipchaaGreatDoor
section
open Go Go.RowKit Go.Sort
def gW (a b:Au):Int:=if jE a b=0 then(if 300<3*a.st*b.st\/6000<jP a b then 2 else 0) else jE a b
noncomputable def gH (a b:Au):Au:=if gW a b=0 then fO a b (dd (zR (rG a b))) else zAf
theorem zJd (a b:Au) (A B C D E F:Option Addr) (ca cb cc cd ce cf:Nat) (w:World) (ha:zM w 0 a A B C ca cb cc) (hb:zM w 0 b D E F cd ce cf):
  Calls Tryz.prog 22 #[.agg #[a.st,a.le,.slice A a.fs.length ca,.slice B a.gs.length cb,.slice C a.ss.length cc],.agg #[b.st,b.le,.slice D b.fs.length cd,.slice E b.gs.length ce,.slice F b.ss.length cf]] w (dC w (gH a b) (gW a b)):=by
 have i:=zEz w a b A B C D E F ca cb cc cd ce cf;unfold bT auW at i
 go_enter Tryz.func22,Tryz.ntmps22
 go_upto_region 1 with fail
 obtain⟨V,hV⟩:∃V,V=w.heap.size:=⟨_,rfl⟩;rw[<-hV] at i;rw[show w.heap.size+1+1=V+2 by omega,show w.heap.size+1=V+1 by omega,<-hV]
 generalize ((w.alloc (.cells #[a.st,a.le,.slice A a.fs.length ca,.slice B a.gs.length cb,.slice C a.ss.length cc] 31)).alloc (.cells #[b.st,b.le,.slice D b.fs.length cd,.slice E b.gs.length ce,.slice F b.ss.length cf] 31)).alloc (.cells #[(0:Int),(0:Int),(),(),()] 31)=W0 at *
 have hi:=hId i.below;have HSZ:=hId i.size;have HV1:Hid (∀ W,Below W0 W0 W->yG W V a A B C ca cb cc):=fun W h=>i.at1.below h i.at1.lt
 have HV2:Hid (∀ W,Below W0 W0 W->yG W (V+1) b D E F cd ce cf):=fun W h=>i.at2.below h i.at2.lt
 have HOB:=hId i.obj;have hh:Hid (∀ W,Below W0 W0 W->zM W 0 a A B C ca cb cc):=fun W h=>(ha.below i.below).below h
 have hk:Hid (∀ W,Below W0 W0 W->zM W 0 b D E F cd ce cf):=fun W h=>(hb.below i.below).below h
 have HVV:=hId hV
 have N:Hid (∀ W,Below W0 W0 W->W.heap[V+2]?=some (.cells #[(0:Int),(0:Int),(),(),()] 31 (0,0))):=fun W h=>(h.block _ (by have:=i.size;omega)).trans i.obj
 have HBF:Hid (∀ W,Below W0 W0 W->∀u0 u1 u2 u3 u4,Below w w (set5 W (V+2) u0 u1 u2 u3 u4)):=fun W h u0 u1 u2 u3 u4=>
  zS (zA hi.o h hi.o.size) (by rw[<-hV];omega) _ _ _ _ _
 have u:Hid (∀ W,Below W0 W0 W->∀n,gW a b=n->n≠0->dC w (gH a b) (gW a b) (.returned (.tuple #[.agg #[(0:Int),(0:Int),(),(),()],n])) (set5 W (V+2) (.int .i64 0) (.int .i64 0) () () ())):=fun W h n hn h0=>by
  unfold gH;rw[if_neg (by rw[hn];exact h0),hn]
  exact⟨none,none,none,0,0,0,rfl,zCM _ _,HBF.o _ h _ _ _ _ _⟩
 have K:Hid (∀ W,Below W0 W0 W->∀v0 v1 v2 v3 v4,(set5 W (V+2) v0 v1 v2 v3 v4).heap[V+2]?=some (.cells #[v0,v1,v2,v3,v4] 31 (0,0))):=fun W h v0 v1 v2 v3 v4=>zW (N.o W h) _ _ _ _ _
 obtain⟨_,c0,c1,c2,c3,c4⟩:=i.at1;obtain⟨_,d0,d1,d2,d3,d4⟩:=i.at2;have HRY:=hId (zHt a b A B C D E F ca cb cc cd ce cf W0 (hh.o _ bRf) (hk.o _ bRf));clear i ha hb hV
 go_wp2_with fail
 refine HRY.o.mono ?_;rintro e w1 ⟨rfl,hb1⟩;have d:=hId hb1;clear hb1 HRY c0 c1 c2 c3 c4 d0 d1 d2 d3 d4;obtain⟨r0,r1,r2,r3,r4,h4,h5,h7,h8,h9⟩:=zZ (N.o _ d.o)
 by_cases hr0:jE a b=0
 ·have hr1:(jE a b !=0)=false:=by simp[hr0]
  obtain⟨hka,hkb,hle⟩:=bH.1 hr0;obtain⟨m,hf⟩:=yP.1 hka;obtain⟨s,hg⟩:=yP.1 hkb;have HFA:=hId (m.fit hf);have HFB:=hId (s.fit hg);have HR0:=hId hr0;have sa1:=m.st1;have sa2:=m.st2;have sb1:=s.st1
  have sb2:=s.st2;have la:=m.sl;have lb:=s.sl;obtain⟨NA,hNA⟩:=Int.eq_ofNat_of_zero_le (show 0<=a.st by omega)
  obtain⟨NB,hNB⟩:=Int.eq_ofNat_of_zero_le (show 0<=b.st by omega)
  have he:a.st*b.st=((NA*NB:Nat):Int):=by rw[hNA,hNB];simp
  have hM:NA*NB<=300*300:=Nat.mul_le_mul (by omega) (by omega)
  obtain⟨P,hP⟩:∃P:Int,P=3*a.st*b.st:=⟨_,rfl⟩;have hP2:P=3*((NA*NB:Nat):Int):=by rw[hP,Int.mul_assoc,he]
  have hPb:0<=P/\P<=1000000:=by rw[hP2];omega
  have q1:IntKind.i64.wrap (3*a.st)=3*a.st:=zFG (by omega) (by omega)
  have q2:IntKind.i64.wrap (3*a.st*b.st)=P:=by rw[zFG (by omega) (by omega),hP]
  have HSN:=hId (nT a b)
  have hsn:jP a b<=6000*(3*6000):=by
   rw[<-nT];exact Nat.le_trans (rA a b _) (Nat.mul_le_mul la (by omega))
  have HST:=hId (fun W (hW:Below W0 W0 W)=>zD3 a b A B C D E F ca cb cc cd ce cf W (hh.o W hW) (hk.o W hW) m s hle)
  have hd:=hId (fun(hsn6:jP a b<=6000) W (hW:Below W0 W0 W)=>zKW a b A B C D E F ca cb cc cd ce cf W (hh.o W hW) (hk.o W hW) HFA.o HFB.o (by omega) (by omega) (by omega) (by omega))
  have hl:Hid (∀ W,Below W0 W0 W->(300<P\/6000<jP a b)->dC w (gH a b) (gW a b) (.returned (.tuple #[.agg #[(0:Int),(0:Int),(),(),()],(2:Int)])) (set5 W (V+2) (.int .i64 0) (.int .i64 0) () () ())):=fun W h hc=>u.o W h 2 (by unfold gW;rw[if_pos HR0.o,if_pos (by rw[<-hP];exact hc)]) (by decide)
  have HYE:Hid (¬ (300<P\/6000<jP a b)->gW a b=0/\gH a b=fO a b (dd (zR (rG a b)))):=fun hc=>by
   have h1:gW a b=0:=by unfold gW;rw[if_pos HR0.o,if_neg (by rw[<-hP];exact hc)]
   exact⟨h1,by unfold gH;rw[if_pos h1]⟩
  obtain⟨_,c0,c1,c2,c3,c4⟩:=HV1.o _ d.o;obtain⟨_,d0,d1,d2,d3,d4⟩:=HV2.o _ d.o;clear hr0 hka hkb hle u m s hf hg he hM hP2 hP hNA hNB
  by_cases h3:300<P
  ·have HP:=hId (hl.o _ d.o (.inl h3))
   have j:=hId (K.o _ d.o (.int .i64 0) (.int .i64 0) () () ())
   go_wp2_with fail
   exact bodyPost_ret (pX Tryz.results22 _ _ (V+2) rfl rfl j.o) rfl HP.o
  go_wp2_with fail
  refine(HST.o _ d.o).mono ?_;rintro e w2 ⟨rfl,hb2⟩;have g:=hId (zA d.o hb2 d.o.size);clear hb2 HST c0 c1 c2 c3 c4 d0 d1 d2 d3 d4 r0 r1 r2 r3 r4 h4 h5 h7 h8 h9;obtain⟨r0,r1,r2,r3,r4,h4,h5,h7,h8,h9⟩:=zZ (N.o _ g.o)
  by_cases h6:6000<jP a b
  ·have HP:=hId (hl.o _ g.o (.inr h6))
   have j:=hId (K.o _ g.o (.int .i64 0) (.int .i64 0) () () ());have h6':(6000:Int)<((jP a b:Nat):Int):=by omega
   generalize jP a b=sn at *
   go_wp2_with fail
   exact bodyPost_ret (pX Tryz.results22 _ _ (V+2) rfl rfl j.o) rfl HP.o
  obtain⟨hz,hv⟩:=HYE.o (by omega)
  have HZ2:=hId hz;have HVV2:=hId hv;have h6':¬(6000:Int)<((jP a b:Nat):Int):=by omega
  obtain⟨_,c0,c1,c2,c3,c4⟩:=HV1.o _ g.o;obtain⟨_,d0,d1,d2,d3,d4⟩:=HV2.o _ g.o;have J:=hId (hd.o (by omega))
  clear hz hv hl HYE hd;generalize jP a b=sn at *
  go_wp2_with fail
  refine(J.o _ g.o).mono ?_;rintro e w3 ⟨A',B',C',O,U,h2,rfl,hrd,hb3⟩;have hj:=hId (zA g.o hb3 g.o.size);have HRD:=hId hrd;have HS3:=hId hb3.size
  clear hb3 hrd J c0 c1 c2 c3 c4 d0 d1 d2 d3 d4 r0 r1 r2 r3 r4 h4 h5 h7 h8 h9;obtain⟨r0,r1,r2,r3,r4,h4,h5,h7,h8,h9⟩:=zZ (N.o _ hj.o);generalize fO a b (dd (zR (rG a b)))=p at *
  have HP:Hid (dC w (gH a b) (gW a b) (.returned (.tuple #[.agg #[p.st,p.le,.slice A' p.fs.length O,.slice B' p.gs.length U,.slice C' p.ss.length h2],(0:Int)])) (set5 w3 (V+2) p.st p.le (.slice A' p.fs.length O) (.slice B' p.gs.length U) (.slice C' p.ss.length h2))):=by
   rw[HZ2.o,HVV2.o];exact⟨A',B',C',O,U,h2,rfl,(HRD.o.set5_ (by have:=HSZ.o;have:=g.o.size;omega) _ _ _ _ _).low (by have:=hi.o.size;have:=g.o.size;omega),HBF.o _ hj.o _ _ _ _ _⟩
  have j:=hId (K.o _ hj.o p.st p.le (.slice A' p.fs.length O) (.slice B' p.gs.length U) (.slice C' p.ss.length h2))
  go_wp2_with fail
  exact bodyPost_ret (pX Tryz.results22 _ _ (V+2) rfl rfl j.o) rfl HP.o
 have hr1:(jE a b !=0)=true:=by simp[hr0]
 have HP:=hId (u.o _ d.o (jE a b) (by unfold gW;rw[if_neg hr0]) hr0)
 have j:=hId (K.o _ d.o (.int .i64 0) (.int .i64 0) () () ());clear hr0;generalize jE a b=rd at *
 go_wp2_with fail
 exact bodyPost_ret (pX Tryz.results22 _ _ (V+2) rfl rfl j.o) rfl HP.o
end
section
open Go Go.RowKit Go.Shelf
def vH (W:World) (lo:Nat) (v:Value) (xs:List Int):Prop:=
 (v=.slice none 0 0/\xs=[])\/∃g off cap cur,v=.slice (some ⟨g,off,none⟩) xs.length cap/\lo<=g/\W.heap[g]?=some (.cells cur 3 (0,0))/\xs.length<=cap/\off+cap<=cur.size/\cap<=maxLen/\
  ∀j (h:j<xs.length),cur[off+j]?=some (.int .i64 xs[j])
section
variable {W W':World} {lo:Nat} {v:Value} {xs:List Int}
theorem vH.lt (h:vH W lo v xs):∀k,v.ownBlock=some k->lo<=k/\k<W.heap.size:=by
 intro k d
 rcases h with⟨rfl,_⟩|⟨g,off,cap,cur,rfl,h1,h2,_⟩
 ·cases d
 obtain rfl:g=k:=by simpa[Value.ownBlock] using d
 exact⟨h1,(gLt h2)⟩
theorem vH.cells (h:vH W lo v xs) {r:Nat} (e:v.ownBlock=some r):∃d,W.heap[r]?=some (.cells d 3 (0,0)):=by
 rcases h with⟨rfl,_⟩|⟨g,off,cap,d,rfl,_,h2,_⟩
 ·cases e
 obtain rfl:g=r:=by simpa[Value.ownBlock] using e
 exact⟨d,h2⟩
theorem vH.heap (h:vH W lo v xs) (d:∀k,v.ownBlock=some k->W'.heap[k]?=W.heap[k]?):vH W' lo v xs:=by
 rcases h with⟨rfl,h0⟩|⟨g,off,cap,cur,rfl,h1,h2,h3⟩
 ·exact .inl ⟨rfl,h0⟩
 exact .inr ⟨g,off,cap,cur,rfl,h1,(d g rfl).trans h2,h3⟩
theorem vH.low {lo':Nat} (h:vH W lo v xs) (d:lo'<=lo):vH W lo' v xs:=by
 rcases h with h|⟨g,off,cap,cur,e,h1,h2⟩
 ·exact .inl h
 exact .inr ⟨g,off,cap,cur,e,Nat.le_trans d h1,h2⟩
theorem vH.form (h:vH W lo v xs):∃A c,v=.slice A xs.length c/\xs.length<=c/\c<=9223372036854775807:=by
 rcases h with⟨rfl,rfl⟩|⟨g,off,cap,cur,rfl,_,_,h3,_,h5,_⟩
 ·exact⟨none,0,rfl,nLe,by omega⟩
 exact⟨_,_,rfl,h3,by unfold maxLen at h5;omega⟩
theorem vH.of (h:xD W lo v xs):vH W lo v xs:=by
 obtain⟨u,e⟩:=h
 rcases e with⟨rfl,hn⟩|⟨g,cap,cur,rfl,hg,hh,hn,hc,hs,ht⟩
 ·exact .inl ⟨rfl,List.eq_nil_of_length_eq_zero hn⟩
 refine .inr ⟨g,0,cap,cur,rfl,hg,hh,hn,by omega,hc,fun j s=>?_⟩
 have d:∀l:List Int,(l.flatMap fun n:Int=>[Value.int .i64 n])=l.map (Value.int .i64):=by
  intro l
  induction l with
  |nil=>rfl
  |cons x l ih=>rw[List.flatMap_cons,ih];rfl
 rw[d] at ht
 have i:cur.toList[j]?=some (.int .i64 xs[j]):=by
  have m:(cur.toList.take (xs.length*1))[j]?=some (.int .i64 xs[j]):=by rw[ht,List.getElem?_map,List.getElem?_eq_getElem s];rfl
  rwa[List.getElem?_take,if_pos (by omega)] at m
 rw[Nat.zero_add]
 simpa using i
theorem vH.pop {x:Int} (h:vH W lo v (x::xs)):∃g off d,v=.slice (some ⟨g,off,none⟩) (xs.length+1) d/\xs.length+1<=d/\d<=9223372036854775807/\W.cell? ⟨g,off,none⟩=some (.int .i64 x)/\
  vH W lo (.slice (if d=1 then some ⟨g,off,none⟩ else some ⟨g,off+1,none⟩) xs.length (d-1)) xs:=by
 rcases h with⟨_,h⟩|⟨g,off,d,cur,rfl,h1,h2,h3,h4,h5,h6⟩
 ·cases h
 rw[List.length_cons] at h3;refine⟨g,off,d,rfl,h3,by unfold maxLen at h5;omega,?_,?_⟩
 ·have:=h6 0 (by simp)
  rw[Nat.add_zero] at this;simp only[World.cell?,h2]
  simpa using this
 by_cases hc:d=1
 ·rw[if_pos hc]
  have i:xs=[]:=List.eq_nil_of_length_eq_zero (by omega)
  subst i;exact .inr ⟨g,off,d-1,cur,rfl,h1,h2,by simp,by omega,by omega,fun j e=>by simp at e⟩
 rw[if_neg hc];refine .inr ⟨g,off+1,d-1,cur,rfl,h1,h2,by omega,by omega,by omega,fun j e=>?_⟩
 have:=h6 (j+1) (by simpa using e)
 rw[show off+(j+1)=off+1+j by omega] at this
 simpa using this
theorem zBr {y:Int} {B:Nat} (ty:TypeId) (U:vH W lo v xs) (hB:W.heap[B]?=some (.cells #[y] 3 (0,0))) (hl:xs.length<=10000000) (O:lo<=W.heap.size):
  ∃v' W',(Builtin.append_ #[22,22] ty #[v,.slice (some ⟨B,0,none⟩) 1 1]).run Tryz.prog W=.ok v' W'/\vH W' lo v' (xs++[y])/\W.grownBy W' v.ownBlock/\(v'.ownBlock=v.ownBlock\/v'.ownBlock=some W.heap.size):=by
 rcases U with⟨rfl,rfl⟩|⟨g,off,cap,cur,rfl,h1,h2,h3,h4,h5,h6⟩
 ·obtain⟨v',W',a1,a2,a3,a4⟩:=pG (W:=W) (lo:=lo) (v:=.slice none 0 0) (xs:=[]) (y:=y) (B:=B) ty (World.ownsRow_nil _ _ _ _) hB (by simp) O
  exact⟨v',W',a1,vH.of a2,a3,a4⟩
 obtain⟨i0,N,hz0,d,hz2⟩:=info_parts qX;have s:W.cell? ⟨B,0,none⟩=some (.int .i64 y):=by simp[World.cell?,hB]
 have h:∀j u,[Value.int .i64 y][j]?=some u->W.cell? ((⟨B,0,none⟩:Addr).add j)=some u:=fun j u hu=>by
  cases j with
  |zero=>
   obtain rfl:Value.int .i64 y=u:=by simpa using hu
   exact s
  |succ j=>simp at hu
 by_cases hr:xs.length+1<=cap
 ·have h0:Src Tryz.prog i0.size 22 (.slice (some ⟨B,0,none⟩) 1 1) 1 [.int .i64 y] W:=Src.ofSlice W Tryz.underlying22 ⟨B,0,none⟩ 1 1 _ (by rw[d];rfl) h (by simp[Value.oneCell'])
  have i:=run_append_room_src (P:=Tryz.prog) W 22 22 ty 3 i0 Tryz.underlying22 N g off xs.length cap (.slice (some ⟨B,0,none⟩) 1 1) 1 [.int .i64 y] h0 hr
   (fun j m=>by
    have:j=0:=by simpa using m
    subst this;rw[d];simp only[World.cell?,h2];have:off+xs.length*1+0<cur.size:=by omega
    have h7:off+xs.length<cur.size:=by omega
    simp[Array.getElem?_eq_getElem this,h7])
   (fun j _=>by simp[World.frozen?,h2])
  refine⟨_,_,i,?_,?_,.inl rfl⟩
  ·rw[d]
   refine .inr ⟨g,off,cap,cur.setIfInBounds (off+xs.length) y,by simp,h1,?_,by simpa using hr,by simpa using h4,h5,fun j m=>?_⟩
   ·simp only[World.setCells,Nat.mul_one]
    simp[World.setCell,Array.getElem?_modify,h2]
   rw[Array.getElem?_setIfInBounds]
   by_cases hjl:j=xs.length
   ·subst hjl
    rw[if_pos rfl,if_pos (by omega)]
    simp
   rw[List.length_append] at m
   simp at m
   rw[if_neg (by omega),h6 j (by omega),List.getElem_append_left (by omega)]
  rw[d];simp only[World.setCells];exact⟨rfl,rfl,rfl,by simp[World.setCell],fun k _ hk=>Below.heap_setCell _ _ _ _ (fun e=>hk (by simp[Value.ownBlock];exact e))⟩
 have J:∀j u,(xs.map (Value.int .i64))[j]?=some u->W.cell? ((⟨g,off,none⟩:Addr).add j)=some u:=fun j u hu=>by
  rw[List.getElem?_map] at hu;obtain⟨x,hx,rfl⟩:=Option.map_eq_some_iff.1 hu;obtain⟨m,rfl⟩:=List.getElem?_eq_some_iff.1 hx;rw[qI];simp only[World.cell?,h2];exact h6 j m
 have hcx:cap=xs.length:=by omega
 have K:Builtin.nextslicecap (xs.length+1) cap*i0.bytes<=281474976710656:=by
  rw[hz2];exact growslice_fits (by omega) (by omega)
 have i:=run_append_grow (P:=Tryz.prog) W 22 ty 3 i0 _ Tryz.underlying22 N hz0 ⟨g,off,none⟩ xs.length cap (xs.map (Value.int .i64)) (by rw[d];simp) J ⟨B,0,none⟩ 1 1 [.int .i64 y] (by rw[d];rfl) h (by omega) (by omega) K
 refine⟨_,_,i,?_,⟨rfl,rfl,rfl,by simp,fun k hk _=>by
  rw[Below.heap_alloc _ _ _ (by simpa using hk)]
  rfl⟩,.inr (by simp[Value.ownBlock])⟩
 have hgc:=grownCap_ge W (xs.length+1) cap 3;have hgm:=grownCap_le_maxLen W (xs.length+1) cap 3 (by unfold maxLen;omega)
 refine .inr ⟨W.heap.size,0,_,_,by simp,O,World.alloc_heap_new W.drew _,by simpa using hgc,?_,hgm,fun j m=>?_⟩
 ·simp[Value.cells,size_zeroCells]
  omega
 rw[Nat.zero_add,Array.getElem?_append_left (by simpa using m),List.append_toArray,List.getElem?_toArray]
 by_cases hjl:j=xs.length
 ·subst hjl
  simp
 rw[List.length_append] at m
 simp at m
 rw[List.getElem?_append_left (by simp;omega),List.getElem_append_left (by omega),List.getElem?_map,List.getElem?_eq_getElem (by omega)]
 rfl
end
end
section
open Go Go.RowKit Go.Maps
def spC (y:Int×Nat):List Value:=[.int .i64 y.1,.int .i64 y.2]
def yZ (y:Int×Nat):Lit:=.string (keyBytes [.int .i64 y.1,.int .i64 y.2])
def SpW (y:Int×Nat):Prop:=(Lit.int .i64 y.1).wf=true/\(Lit.int .i64 (y.2:Int)).wf=true
theorem zKg:laidOutB Tryz.prog=true:=by kernel_rfl
theorem zKB:(match Tryz.prog.underlying 90 with|some (.array _ _)|some (.struct _)=>true|_=>false)=true:=by kernel_rfl
theorem zJi:(90:TypeId)<Tryz.prog.types.size:=of_decide_eq_true (by kernel_rfl)
theorem iA:Keyed Tryz.prog 90:=Keyed.of_law (deep_law_laid zKg (m:=2) (by decide) zJi (by kernel_rfl) zKB)
theorem zIS {n m:Nat} (h:m<n):∃k,n=k+1:=⟨n-1,by omega⟩
theorem sH {y:Int×Nat} (h:SpW y):keyOf Tryz.prog 90 (.agg #[y.1,y.2])=some (yZ y):=by
 obtain⟨k,m⟩:∃k,Tryz.prog.types.size=k+1:=zIS zJi
 have e:∀(a:Int),(Lit.int .i64 a).wf=true->Tryz.prog.keyLits (k+1) 3 [.int .i64 a]=some [.int .i64 a]:=fun a i=>by
  simp[Program.keyLits,Tryz.underlying3,i]
 have g:Tryz.prog.cellsOf 90=2:=by kernel_rfl
 have d:Tryz.prog.cellsOf 3=1:=by kernel_rfl
 have u:Tryz.prog.keyType 90=true:=by kernel_rfl
 have j:(Value.agg #[y.1,(y.2:Int)]).formed Tryz.prog 90=true:=by simp[Value.formed,Tryz.underlying90,g]
 have s:Tryz.prog.keyLits (Tryz.prog.types.size+1) 90 [.int .i64 y.1,.int .i64 (y.2:Int)]=some [.int .i64 y.1,.int .i64 (y.2:Int)]:=by
  rw[m];unfold Program.keyLits;simp only[Tryz.underlying90,g]
  simp[d,e _ h.1,e _ h.2]
 unfold keyOf;simp only[Tryz.underlying90,u,j,Bool.and_self,if_true];show(Option.map _ (Tryz.prog.keyLits (Tryz.prog.types.size+1) 90 [.int .i64 y.1,.int .i64 (y.2:Int)]))=_;rw[s];rfl
theorem zAe {y z:Int×Nat} (d:SpW y) (e:SpW z) (h:yZ y=yZ z):y=z:=by
 unfold yZ at h
 have h:=keyBytes_inj (l:=[.int .i64 y.1,.int .i64 y.2]) (l':=[.int .i64 z.1,.int .i64 z.2]) ⟨rfl,rfl,trivial⟩ (fun a ha=>by rcases List.mem_cons.1 ha with rfl|ha;exact d.1;rw[List.mem_singleton.1 ha];exact d.2) (fun a ha=>by rcases List.mem_cons.1 ha with rfl|ha;exact e.1;rw[List.mem_singleton.1 ha];exact e.2) (by simpa using h)
 simp at h
 exact Prod.ext h.1 (by omega)
def gC:DataW Unit:=.lit (.int .i64 1)
def jH (W:World) (M:Nat) (L:List (Int×Nat)):Prop:=W.ownsMap Tryz.prog 90 (plainElem (H:=Unit) Tryz.prog 3) M L.length (setOf gC (L.map yZ))
theorem fZ (u z:DataW Unit) {k:Lit}:∀(d:List Lit) (m:DataW Unit),k∉d->(d.foldl (fun m x=>m.put x u) m).atKey k z=m.atKey k z
 |[],m,_=>rfl
 |x::r,m,h=>by
  rw[List.foldl_cons,fZ u z r (m.put x u) (fun g=>h (List.mem_cons_of_mem _ g)),atKey_put_other (fun e=>h (by rw[e];exact List.mem_cons_self ..))]
theorem tK (u z:DataW Unit) {k:Lit} (e:WideAt.IsKeyLit k):∀(d:List Lit) (m:DataW Unit),IsMap m->k∈d->(d.foldl (fun m x=>m.put x u) m).atKey k z=u
 |[],m,_,h=>by cases h
 |x::r,m,hm,h=>by
  rw[List.foldl_cons]
  by_cases hr:k∈r
  ·exact tK u z e r (m.put x u) (hm.put x u) hr
  obtain rfl:k=x:=(List.mem_cons.1 h).resolve_right hr
  rw[fZ u z r _ hr,atKey_put_same hm e]
theorem uP {L:List (Int×Nat)} (e:∀y∈L,SpW y) {y:Int×Nat} (i:SpW y):yZ y∈L.map yZ↔y∈L:=by
 constructor
 ·intro h
  obtain⟨z,d,g⟩:=List.mem_map.1 h;rw[<-zAe (e z d) i g];exact d
 exact fun h=>List.mem_map_of_mem h
theorem jH.at_ {L:List (Int×Nat)} (d:∀y∈L,SpW y) {y:Int×Nat} (e:SpW y):(setOf gC (L.map yZ)).atKey (yZ y) (.lit (.int .i64 0))=.lit (.int .i64 (if y∈L then 1 else 0)):=by
 unfold setOf
 by_cases h:y∈L
 ·rw[tK gC _ (show WideAt.IsKeyLit (yZ y) from trivial) _ _ isMap_empty ((uP d e).2 h),if_pos h];rfl
 rw[fZ gC _ _ _ (fun g=>h ((uP d e).1 g)),if_neg h];rfl
theorem jH.has {L:List (Int×Nat)} (e:∀y∈L,SpW y) {y:Int×Nat} (i:SpW y):Maps.has (setOf gC (L.map yZ)) (yZ y)=true↔y∈L:=by
 rw[has_setOf gC _ _ (fun x d=>by obtain⟨z,_,rfl⟩:=List.mem_map.1 d;exact trivial),List.any_eq_true]
 constructor
 ·rintro⟨x,d,g⟩
  rw[WideAt.sameKey_eq g] at d;exact(uP e i).1 d
 exact fun h=>⟨yZ y,List.mem_map_of_mem h,WideAt.sameKey_self trivial⟩
theorem jH.made (w:World):jH (w.alloc (.map #[] 0)) w.heap.size []:=World.ownsMap_made _ _ _ _
theorem jH.below {W W':World} {M:Nat} {L:List (Int×Nat)} (h:jH W M L) (d:Below W W W'):jH W' M L:=
 World.ownsMap.kept (row:=none) h ⟨d.os,d.tape,d.output,d.size,fun k e _=>d.block k e⟩ (by simp)
theorem jH.lt {W:World} {M:Nat} {L:List (Int×Nat)} (h:jH W M L):M<W.heap.size:=World.ownsMap.lt h
theorem jH.step {L:List (Int×Nat)} {y:Int×Nat} {W:World} {M:Nat} (h:W.ownsMap Tryz.prog 90 (plainElem (H:=Unit) Tryz.prog 3) M (L.length+1) ((setOf gC (L.map yZ)).put (yZ y) gC)):jH W M (L++[y]):=by
 unfold jH;rw[List.map_append,List.map_cons,List.map_nil,setOf_snoc,List.length_append];exact h
def qT (W:World) (lo:Nat) (v:Value) (fr:List (Int×Nat)):Prop:=W.ownsRow lo 90 2 v fr.length (fr.flatMap spC)
theorem zCO:(Tryz.prog.info? 90).map (fun i=>(i.zero,i.size,i.bytes))=some (some (.agg #[(0:Int),(0:Int)]),2,16):=by kernel_rfl
theorem wE (y:Int×Nat):(spC y).length=2:=rfl
theorem qT.pop {W:World} {lo n c:Nat} {A:Option Addr} {d:List (Int×Nat)} {y:Int×Nat} (h:qT W lo (.slice A n c) (d++[y])):qT W lo (.slice A d.length c) d:=by
 obtain⟨j,e⟩:=h;refine⟨zN wE d,?_⟩
 rcases e with⟨_,e⟩|⟨g,cap,cur,hv,hg,hh,hn,hc,hs,ht⟩
 ·simp at e
 simp at hv
 obtain⟨rfl,rfl,rfl⟩:=hv;rw[List.length_append] at hn ht;refine .inr ⟨g,c,cur,rfl,hg,hh,by simp at hn;omega,hc,hs,?_⟩
 have i:=congrArg (List.take (d.length*2)) ht;rw[List.take_take,Nat.min_eq_left (by simp;omega),List.flatMap_append,<-zN wE d,List.take_left] at i
 rw[<-zN wE d];exact i
def jJ (W:World) (r n:Nat) (S:Int×Nat->Prop):Prop:=
 ∃cur,W.heap[r]?=some (.cells cur 90 (0,0))/\n*2<=cur.size/\∀j,j<n->∃y,S y/\cur.toList[j*2]?=some (.int .i64 y.1)/\cur.toList[j*2+1]?=some (.int .i64 (y.2:Int))
theorem jJ.mono {W:World} {r n:Nat} {S S':Int×Nat->Prop} (h:jJ W r n S) (u:∀y,S y->S' y):jJ W r n S':=by
 obtain⟨d,e,g,i⟩:=h;exact⟨d,e,g,fun j s=>by obtain⟨y,J,m⟩:=i j s;exact⟨y,u y J,m⟩⟩
theorem jJ.heap {W W':World} {r n:Nat} {S:Int×Nat->Prop} (h:jJ W r n S) (i:W'.heap[r]?=W.heap[r]?):jJ W' r n S:=by
 obtain⟨d,e,g⟩:=h;exact⟨d,i.trans e,g⟩
theorem jJ.lt {W:World} {r n:Nat} {S:Int×Nat->Prop} (h:jJ W r n S):r<W.heap.size:=by
 obtain⟨d,e,_⟩:=h;exact(gLt e)
theorem jJ.of_from {W:World} {lo n r c:Nat} {d:List (Int×Nat)} (h:qT W lo (.slice (some ⟨r,0,none⟩) n c) d):jJ W r d.length (·∈d):=by
 obtain⟨N,m⟩:=h
 rcases m with⟨m,_⟩|⟨g,cap,cur,hv,hg,hh,hn,hc,hs,ht⟩
 ·simp at m
 simp at hv
 obtain⟨rfl,rfl,rfl⟩:=hv;have J:=Nat.mul_le_mul_right 2 hn;refine⟨cur,hh,by omega,fun j s=>⟨d[j],List.getElem_mem s,?_⟩⟩
 have e:∀i u,(spC d[j])[i]?=some u->cur.toList[j*2+i]?=some u:=fun i u K=>by
  have:=qJ wE d j s i u K;rw[<-ht] at this;rw[List.getElem?_take] at this
  split at this
  ·exact this
  cases this
 exact⟨e 0 _ rfl,e 1 _ rfl⟩
theorem oJ {W:World} {lo:Nat} {v:Value} {d:List (Int×Nat)} {y:Int×Nat} {B:Nat} (ty:TypeId) (J:qT W lo v d) (hB:W.heap[B]?=some (.cells #[y.1,(y.2:Int)] 90 (0,0))) (hl:d.length<=10000000) (hlo:lo<=W.heap.size):
  ∃v' W',(Builtin.append_ #[88,88] ty #[v,.slice (some ⟨B,0,none⟩) 1 1]).run Tryz.prog W=.ok v' W'/\qT W' lo v' (d++[y])/\W.grownBy W' v.ownBlock/\
   (v'.ownBlock=v.ownBlock\/v'.ownBlock=some W.heap.size)/\∀r n S,jJ W r n S->S y->jJ W' r n S:=by
 obtain⟨i0,U,hz0,m,hz2⟩:=info_parts zCO
 have i:∀j u,(spC y)[j]?=some u->W.cell? ((⟨B,0,none⟩:Addr).add j)=some u:=fun j u N=>by
  rw[qI];simp only[World.cell?,hB,Nat.zero_add]
  match j,N with
  |0,N=>simpa[spC] using N
  |1,N=>simpa[spC] using N
 have h1:∀u∈spC y,u.oneCell'=true:=by
  intro u N;simp only[spC,List.mem_cons,List.not_mem_nil,or_false] at N
  rcases N with rfl|rfl<;>rfl
 obtain⟨v',W',K,ho,hg,_,hat⟩:=run_append_own_at (P:=Tryz.prog) W lo 88 ty 90 i0 _ 2 16 Tryz.underlying88 U hz0 m hz2 rfl (by decide) v d.length _ J ⟨B,0,none⟩ 1 1 (spC y) rfl i h1 (by unfold maxLen;omega) (by omega) hlo
 refine⟨v',W',K,?_,hg,hat,fun r n S hr hy=>?_⟩
 ·unfold qT
  rw[List.length_append,List.flatMap_append]
  simpa using ho
 by_cases hrv:v.ownBlock=some r
 ·rcases J.2 with⟨rfl,_⟩|⟨g,cap,cur,rfl,hgl,hh,hn,hc,hs,ht⟩
  ·cases hrv
  obtain rfl:g=r:=by simpa[Value.ownBlock] using hrv
  obtain⟨h,O,hn2,s⟩:=hr;obtain rfl:h=cur:=by rw[hh] at O;injection O with e;injection e with e1;exact e1.symm
  by_cases hroom:d.length+1<=cap
  ·have hR:=run_append_room (P:=Tryz.prog) W 88 ty 90 i0 Tryz.underlying88 U g d.length cap h hh ⟨B,0,none⟩ 1 1 (spC y) (by rw[m];rfl) i h1 hroom (by rw[m,hs,wE];omega)
   rw[K] at hR;injection hR with _ hW;rw[m] at hW;subst hW;refine⟨_,setRow_heap W g h _ _ _ hh,?_,fun j hj=>?_⟩
   ·simp only[List.size_toArray,List.length_append,List.length_take,List.length_drop,Array.length_toList,wE]
    omega
   have hL:(h.toList.take (d.length*2)).length=d.length*2:=by simp;omega
   rcases Nat.lt_trichotomy j d.length with h2|h2|h2
   ·obtain⟨z,hz,z1,z2⟩:=s j hj
    refine⟨z,hz,?_,?_⟩
    ·rw[List.append_assoc,List.getElem?_append_left (by omega),List.getElem?_take_of_lt (by omega)];exact z1
    rw[List.append_assoc,List.getElem?_append_left (by omega),List.getElem?_take_of_lt (by omega)];exact z2
   ·subst h2
    refine⟨y,hy,?_,?_⟩
    ·rw[List.append_assoc,List.getElem?_append_right (by omega),hL,Nat.sub_self];rfl
    rw[List.append_assoc,List.getElem?_append_right (by omega),hL,show d.length*2+1-d.length*2=1 by omega];rfl
   obtain⟨z,hz,z1,z2⟩:=s j hj;have h3:(h.toList.take (d.length*2)++spC y).length=d.length*2+2:=by rw[List.length_append,hL,wE]
   refine⟨z,hz,?_,?_⟩
   ·rw[List.getElem?_append_right (by omega),h3,List.getElem?_drop,wE,show d.length*2+2+(j*2-(d.length*2+2))=j*2 by omega];exact z1
   rw[List.getElem?_append_right (by omega),h3,List.getElem?_drop,wE,show d.length*2+2+(j*2+1-(d.length*2+2))=j*2+1 by omega];exact z2
  have h0:∀j u,(d.flatMap spC)[j]?=some u->W.cell? ((⟨g,0,none⟩:Addr).add j)=some u:=World.ownsRow.cells J (g:=g) rfl
  have hR:=run_append_grow (P:=Tryz.prog) W 88 ty 90 i0 _ Tryz.underlying88 U hz0 ⟨g,0,none⟩ d.length cap (d.flatMap spC) (by rw[m];exact zN wE d) h0 ⟨B,0,none⟩ 1 1 (spC y) (by rw[m];rfl) i (by omega) (by omega) (growslice_fits (by omega) (by rw[hz2];omega))
  rw[K] at hR;injection hR with _ hW;subst hW;refine jJ.heap ⟨h,O,hn2,s⟩ ?_;exact Below.heap_alloc W.drew _ _ (gLt hh)
 exact hr.heap (hg.block r hr.lt fun e=>hrv e.symm)
theorem mA {e:Value} {K:Lit} (h:keyOf Tryz.prog 90 e=some K):∃z:Int×Int,e=.agg #[z.1,z.2]/\K=.string (keyBytes [.int .i64 z.1,.int .i64 z.2])/\(Lit.int .i64 z.1).wf=true/\(Lit.int .i64 z.2).wf=true:=by
 have J:Tryz.prog.cellsOf 90=2:=by kernel_rfl
 have g:Tryz.prog.cellsOf 3=1:=by kernel_rfl
 have ht:Tryz.prog.keyType 90=true:=by kernel_rfl
 unfold keyOf at h;simp only[Tryz.underlying90,ht,Bool.true_and] at h
 split at h
 ·rename_i hf
  cases e<;>simp only[Value.formed,Tryz.underlying90,Bool.false_eq_true] at hf
  rename_i cs
  rw[J] at hf;obtain⟨U⟩:=cs
  match U,hf with
  |[c0,c1],_=>
   simp only[Value.cells] at h;obtain⟨ls,d,rfl⟩:=Option.map_eq_some_iff.1 h;unfold Program.keyLits at d;simp only[Tryz.underlying90,J] at d
   simp[g] at d
   obtain⟨l0,s,d⟩:=Option.bind_eq_some_iff.1 d;obtain⟨N,e0,rfl⟩:=keyLits_int' Tryz.underlying3 s;obtain⟨l1,d,i⟩:=Option.map_eq_some_iff.1 d;obtain⟨l2,j,d⟩:=Option.bind_eq_some_iff.1 d
   obtain⟨l3,u,m⟩:=Option.bind_eq_some_iff.1 j;obtain⟨O,e1,rfl⟩:=keyLits_int' Tryz.underlying3 u;obtain rfl:c0=.int .i64 N:=by simpa using e0
   obtain rfl:c1=.int .i64 O:=by simpa using e1
   have w0:=keyLits_wf s _ (List.mem_singleton.2 rfl);have w1:=keyLits_wf u _ (List.mem_singleton.2 rfl);obtain rfl:=Option.some.inj m;obtain rfl:=Option.some.inj d;subst i;exact⟨(N,O),rfl,rfl,w0,w1⟩
 cases h
theorem zCN {z:Int×Int} {y:Int×Nat} (e:(Lit.int .i64 z.1).wf=true/\(Lit.int .i64 z.2).wf=true) (d:SpW y) (h:(Lit.string (keyBytes [.int .i64 z.1,.int .i64 z.2]))=yZ y):z=(y.1,(y.2:Int)):=by
 unfold yZ at h
 have h:=keyBytes_inj (l:=[.int .i64 z.1,.int .i64 z.2]) (l':=[.int .i64 y.1,.int .i64 y.2]) ⟨rfl,rfl,trivial⟩ (fun a ha=>by rcases List.mem_cons.1 ha with rfl|ha;exact e.1;rw[List.mem_singleton.1 ha];exact e.2) (fun a ha=>by rcases List.mem_cons.1 ha with rfl|ha;exact d.1;rw[List.mem_singleton.1 ha];exact d.2) (by simpa using h)
 simp at h
 exact Prod.ext h.1 h.2
theorem zId {L:List (Int×Nat)} {e:Lit} (h:Maps.has (setOf gC (L.map yZ)) e=true):∃y∈L,e=yZ y:=by
 rw[has_setOf gC _ _ (fun x d=>by obtain⟨z,_,rfl⟩:=List.mem_map.1 d;exact trivial),List.any_eq_true] at h
 obtain⟨x,d,g⟩:=h;obtain⟨y,i,rfl⟩:=List.mem_map.1 d;exact⟨y,i,(WideAt.sameKey_eq g).symm⟩
end
section
open Go Go.RowKit Go.Maps Go.Shelf
instance:Coe Int Lit:=⟨fun n=>.int .i64 n⟩
def stV (s:Stp):Value:=.agg #[s.f,s.l,s.t]
def stD (s:Stp):DataW Unit:=.agg [.lit s.f,.lit s.l,.lit s.t]
def stE (v:Value):Option (DataW Unit×List MemPlace):=
 match v with
 | .agg ⟨[.int .i64 f,.int .i64 l,.int .i64 t]⟩=>some (stD ⟨f,l,t⟩,[])
 |_=>none
theorem zAE (s:Stp):stE (stV s)=some (stD s,[]):=rfl
theorem zI4 {s t:Stp} (h:stD s=stD t):s=t:=by
 obtain⟨f,l,g⟩:=s;obtain⟨d,e,i⟩:=t
 simp[stD] at h
 obtain⟨rfl,rfl,rfl⟩:=h;rfl
theorem zGo {v:Value} {z:DataW Unit×List MemPlace} (h:stE v=some z):∃s,v=stV s/\z=(stD s,[]):=by
 unfold stE at h
 split at h
 ·rename_i f l t
  exact⟨⟨f,l,t⟩,rfl,(Option.some.inj h).symm⟩
 cases h
theorem zA4 {v:Value} {s:Stp} {ps:List MemPlace} (h:stE v=some (stD s,ps)):v=stV s:=by
 obtain⟨e,rfl,d⟩:=zGo h;simp only[Prod.mk.injEq] at d;rw[zI4 d.1]
def byD (D:List (Int×Stp)):DataW Unit:=D.foldl (fun m p=>m.put p.1 (stD p.2)) (.map [])
theorem zGa (D:List (Int×Stp)) (p:Int×Stp):byD (D++[p])=(byD D).put p.1 (stD p.2):=by unfold byD;rw[List.foldl_append];rfl
theorem aQ (z:DataW Unit) {k:Int}:∀(D:List (Int×Stp)) (m:DataW Unit),k∉D.map Prod.fst->(D.foldl (fun m p=>m.put p.1 (stD p.2)) m).atKey k z=m.atKey k z
 |[],m,_=>rfl
 |p::D,m,h=>by
  rw[List.map_cons,List.mem_cons] at h;rw[List.foldl_cons,aQ z D _ (fun d=>h (.inr d)),atKey_put_other (fun e=>h (.inl (by simpa using e)))]
theorem zAS (z:DataW Unit) {k:Int} {s:Stp}:∀(D:List (Int×Stp)) (m:DataW Unit),IsMap m->(D.map Prod.fst).Nodup->(k,s)∈D->(D.foldl (fun m p=>m.put p.1 (stD p.2)) m).atKey k z=stD s
 |[],m,_,_,h=>by cases h
 |p::D,m,hm,hn,h=>by
  rw[List.map_cons,List.nodup_cons] at hn;rw[List.foldl_cons]
  rcases List.mem_cons.1 h with h1|h1
  ·subst h1
   rw[aQ z D _ hn.1,atKey_put_same hm (show WideAt.IsKeyLit k from trivial)]
  exact zAS z D _ (hm.put _ _) hn.2 h1
def jL (W:World) (M:Nat) (D:List (Int×Stp)):Prop:=W.ownsMap Tryz.prog 3 stE M D.length (byD D)
theorem jL.made (w:World):jL (w.alloc (.map #[] 0)) w.heap.size []:=World.ownsMap_made _ _ _ _
theorem jL.kept {W W':World} {M:Nat} {D:List (Int×Stp)} {row:Option Nat} (h:jL W M D) (d:W.grownBy W' row) (e:some M≠row):jL W' M D:=World.ownsMap.kept h d e
theorem jL.on {W W':World} {M:Nat} {D:List (Int×Stp)} (h:jL W M D) (d:Below W W W'):jL W' M D:=
 h.kept (row:=none) ⟨d.os,d.tape,d.output,d.size,fun k e _=>d.block k e⟩ (by simp)
theorem jL.lt {W:World} {M:Nat} {D:List (Int×Stp)} (h:jL W M D):M<W.heap.size:=World.ownsMap.lt h
theorem jL.block {W:World} {M:Nat} {D:List (Int×Stp)} (h:jL W M D):∃es c,W.heap[M]?=some (.map es c):=by
 obtain⟨es,c,d,_⟩:=h;exact⟨es,c,d⟩
theorem jL.step {W:World} {M:Nat} {D:List (Int×Stp)} {s:Stp} (h:W.ownsMap Tryz.prog 3 stE M (D.length+1) ((byD D).put s.t (stD s))):jL W M (D++[(s.t,s)]):=by
 unfold jL;rw[zGa,List.length_append];exact h
theorem zA2 (w:World):(zeroValue 80).run Tryz.prog w=.ok (stV ⟨0,0,0⟩) w:=by kernel_rfl
theorem cW:Keyed Tryz.prog 3:=int_keyed Tryz.underlying3
theorem zAC {k:Int} (h:(Lit.int .i64 k).wf=true):keyOf Tryz.prog 3 k=some (.int .i64 k):=keyOf_int_mk Tryz.underlying3 h
theorem jL.hit {W:World} {M:Nat} {D:List (Int×Stp)} (h:jL W M D) (e:(D.map Prod.fst).Nodup) {k:Int} {s:Stp} (j:(Lit.int .i64 k).wf=true) (g:(k,s)∈D):
  (Instr.lookup 159 (.map (some M)) k true).run Tryz.prog W=.ok (.tuple #[stV s,true]) W:=by
 obtain⟨v,ps,d,i⟩:=World.ownsMap.look_ok h cW Tryz.underlying159 (zA2 W) (zAE ⟨0,0,0⟩) (zAC j);rw[show(byD D).atKey k (stD ⟨0,0,0⟩)=stD s from zAS _ D _ isMap_empty e g] at i
 rw[d,zA4 i,has_true_of_atKey (D:=byD D) (y:=stD s) (fun z=>zAS z D _ isMap_empty e g)]
theorem jL.miss {W:World} {M:Nat} {D:List (Int×Stp)} (h:jL W M D) {k:Int} (i:(Lit.int .i64 k).wf=true) (e:k∉D.map Prod.fst):
  (Instr.lookup 159 (.map (some M)) k true).run Tryz.prog W=.ok (.tuple #[stV ⟨0,0,0⟩,false]) W:=by
 obtain⟨v,ps,d,g⟩:=World.ownsMap.look_ok h cW Tryz.underlying159 (zA2 W) (zAE ⟨0,0,0⟩) (zAC i);rw[show(byD D).atKey k (stD ⟨0,0,0⟩)=stD ⟨0,0,0⟩ from aQ _ D _ e] at g
 rw[d,zA4 g,has_false_of_atKey (D:=byD D) (fun z=>aQ z D _ e)]
theorem jL.get {W:World} {M:Nat} {D:List (Int×Stp)} (h:jL W M D) (i:(D.map Prod.fst).Nodup) {k:Int} {s:Stp} (g:(Lit.int .i64 k).wf=true) (j:(k,s)∈D):
  (Instr.lookup 159 (.map (some M)) k false).run Tryz.prog W=.ok (stV s) W:=by
 obtain⟨v,ps,d,e⟩:=World.ownsMap.lookup h cW Tryz.underlying159 (zA2 W) (zAE ⟨0,0,0⟩) (zAC g);rw[show(byD D).atKey k (stD ⟨0,0,0⟩)=stD s from zAS _ D _ isMap_empty i j] at e;rw[d,zA4 e]
theorem jL.put {W:World} {M:Nat} {D:List (Int×Stp)} (h:jL W M D) (j:D.length<=1000000) {s:Stp} (i:(Lit.int .i64 s.t).wf=true):
  ∃W',(Instr.mapUpdate 159 (.map (some M)) s.t (stV s)).run Tryz.prog W=.ok () W'/\jL W' M (D++[(s.t,s)])/\W.grownBy W' (some M):=by
 obtain⟨W',d,e,g⟩:=World.ownsMap.update h cW Tryz.underlying159 (by unfold maxLen;omega) (zAC i) (zAE s)
 exact⟨W',d,jL.step e,g⟩
structure FnC (lo Q M R:Nat) (D:List (Int×Stp)) (left:List Int) (v:Value) (W:World):Prop where
 box:Boxed W Q 22 v
 q:vH W lo v left
 by_:jL W M D
 res:∃r:Int,Boxed W R 3 r
 lQ:lo<=Q
 lM:lo<=M
 lR:lo<=R
 qr:v.ownBlock≠some R
section
variable {lo Q M R:Nat} {D D':List (Int×Stp)} {left left':List Int} {v v':Value} {W W':World}
theorem FnC.QM (h:FnC lo Q M R D left v W):Q≠M:=by
 rintro rfl;obtain⟨es,c,e⟩:=h.by_.block;have d:W.heap[Q]?=_:=h.box;rw[e] at d;cases d
theorem FnC.RM (h:FnC lo Q M R D left v W):R≠M:=by
 rintro rfl;obtain⟨es,c,e⟩:=h.by_.block;obtain⟨r,g⟩:=h.res;have d:W.heap[R]?=_:=g;rw[e] at d;cases d
theorem FnC.QR (h:FnC lo Q M R D left v W):Q≠R:=by
 rintro rfl;obtain⟨r,g⟩:=h.res;have d:W.heap[Q]?=_:=g;have e:W.heap[Q]?=_:=h.box;rw[e] at d;simp at d
theorem FnC.nM (h:FnC lo Q M R D left v W):v.ownBlock≠some M:=fun e=>by
 obtain⟨g,i⟩:=h.q.cells e;obtain⟨es,c,d⟩:=h.by_.block;rw[i] at d;cases d
theorem FnC.nQ (h:FnC lo Q M R D left v W):v.ownBlock≠some Q:=fun e=>by
 obtain⟨g,i⟩:=h.q.cells e;have d:W.heap[Q]?=_:=h.box;rw[i] at d;simp at d
theorem FnC.bad (h:FnC lo Q M R D left v W) {k:Nat}:Bad [M,R] [Q] W k↔k=M\/k=R\/k=Q\/v.ownBlock=some k:=by
 rw[bP h.box];simp only[List.mem_cons,List.not_mem_nil,or_false,or_assoc]
theorem FnC.sane (h:FnC lo Q M R D left v W):kX lo [M,R] [Q] W:=by
 refine⟨fun k s=>?_,fun u d o e m c j=>?_⟩
 ·rcases h.bad.1 s with rfl|rfl|rfl|h1
  ·exact⟨h.lM,h.by_.lt⟩
  ·obtain⟨r,i⟩:=h.res;exact⟨h.lR,i.lt⟩
  ·exact⟨h.lQ,h.box.lt⟩
  exact h.q.lt k h1
 obtain rfl:=List.mem_singleton.1 d;obtain⟨g,h1⟩:=h.q.cells (r:=e.block) (by rw[<-uS h.box j];rfl)
 exact⟨_,h1,rfl⟩
theorem FnC.off (h:FnC lo Q M R D left v W) (J:FnC lo Q M R D' left' v' W') (s:W'.os=W.os) (d:W'.tape=W.tape) (i:W'.output=W.output) (u:W.heap.size<=W'.heap.size)
  (K:∀k,k<W.heap.size->k≠M->k≠R->k≠Q->v.ownBlock≠some k->W'.heap[k]?=W.heap[k]?) (j:v'.ownBlock=v.ownBlock\/∀r,v'.ownBlock=some r->W.heap.size<=r):Off lo [M,R] [Q] W W':=by
 refine⟨s,d,i,u,fun k m g=>?_,fun k m=>?_,J.sane⟩
 ·rw[h.bad] at g
  exact K k m (fun e=>g (.inl e)) (fun e=>g (.inr (.inl e))) (fun e=>g (.inr (.inr (.inl e)))) (fun e=>g (.inr (.inr (.inr e))))
 rw[h.bad]
 rcases J.bad.1 m with h1|h1|h1|h1
 ·exact .inl (.inl h1)
 ·exact .inl (.inr (.inl h1))
 ·exact .inl (.inr (.inr (.inl h1)))
 rcases j with h2|h2
 ·exact .inl (.inr (.inr (.inr (by rw[<-h2];exact h1))))
 exact .inr (h2 k h1)
theorem FnC.heap (h:FnC lo Q M R D left v W) (g:W'.heap[M]?=W.heap[M]?) (j:W'.heap[R]?=W.heap[R]?) (i:W'.heap[Q]?=W.heap[Q]?) (m:∀k,v.ownBlock=some k->W'.heap[k]?=W.heap[k]?):FnC lo Q M R D left v W':=by
 obtain⟨r,e⟩:=h.res;refine⟨i.trans h.box,h.q.heap m,?_,⟨r,j.trans e⟩,h.lQ,h.lM,h.lR,h.qr⟩;obtain⟨es,c,b1,d⟩:=h.by_;exact⟨es,c,g.trans b1,d⟩
theorem FnC.on (h:FnC lo Q M R D left v W) (d:Below W W W'):FnC lo Q M R D left v W':=by
 obtain⟨r,e⟩:=h.res;exact h.heap (d.block _ h.by_.lt) (d.block _ e.lt) (d.block _ h.box.lt) (fun k g=>d.block k (h.q.lt k g).2)
theorem FnC.own {row:Option Nat} (h:FnC lo Q M R D left v W) (m:W.grownBy W' row) (s:∀r,row=some r->M<r/\∃o:Obj,W.heap[r]?=some o/\o.isCells=false):FnC lo Q M R D left v W':=by
 obtain⟨r,J⟩:=h.res
 have i:∀{k:Nat} {o:Obj},W.heap[k]?=some o->o.isCells=true->W'.heap[k]?=W.heap[k]?:=fun{k o} g ho=>m.block k (gLt g) (fun e=>by
  obtain⟨_,K,d,j⟩:=s k e.symm;rw[g] at d;rw[<-Option.some.inj d,ho] at j
  cases j)
 refine h.heap (m.block M h.by_.lt fun e=>by have:=(s M e.symm).1;omega) (i J rfl) (i h.box rfl) (fun k g=>?_)
 obtain⟨u,d⟩:=h.q.cells g;exact i d rfl
theorem FnC.set {u:Value} (h:FnC lo Q M R D left v W) (s:vH W lo u left') (i:u.ownBlock=v.ownBlock):FnC lo Q M R D left' u (W.setCell ⟨Q,0,none⟩ u):=by
 obtain⟨r,m⟩:=h.res;have d:∀k,k≠Q->(W.setCell ⟨Q,0,none⟩ u).heap[k]?=W.heap[k]?:=fun k g=>Below.heap_setCell _ _ _ _ g
 refine⟨h.box.set u,s.heap fun k g=>d k (fun e=>h.nQ (by rw[<-i,g,e])),?_,⟨r,(d R h.QR.symm).trans m⟩,h.lQ,h.lM,h.lR,by rw[i];exact h.qr⟩
 obtain⟨es,c,b1,j⟩:=h.by_;exact⟨es,c,(d M h.QM.symm).trans b1,j⟩
theorem FnC.put (h:FnC lo Q M R D left v W) (m:jL W' M D') (j:W.grownBy W' (some M)):FnC lo Q M R D' left v W':=by
 obtain⟨r,i⟩:=h.res;have d:∀k,k<W.heap.size->k≠M->W'.heap[k]?=W.heap[k]?:=fun k g s=>j.block k g (by simpa using s)
 exact⟨(d Q h.box.lt h.QM).trans h.box,h.q.heap fun k g=>d k (h.q.lt k g).2 (fun e=>h.nM (by rw[g,e])),m,⟨r,(d R i.lt h.RM).trans i⟩,h.lQ,h.lM,h.lR,h.qr⟩
theorem FnC.app {g:Value} {d:World} {y:Int} (h:FnC lo Q M R D left v W) (hq:vH d lo g (left++[y])) (hg:W.grownBy d v.ownBlock) (J:g.ownBlock=v.ownBlock\/g.ownBlock=some W.heap.size):
  Boxed d Q 22 v/\FnC lo Q M R D (left++[y]) g (d.setCell ⟨Q,0,none⟩ g):=by
 obtain⟨r,N⟩:=h.res;have kp:∀k,k<W.heap.size->v.ownBlock≠some k->d.heap[k]?=W.heap[k]?:=fun k j K=>hg.block k j (fun e=>K e.symm)
 have s:Boxed d Q 22 v:=(kp Q h.box.lt h.nQ).trans h.box
 have i:∀k,k≠Q->(d.setCell ⟨Q,0,none⟩ g).heap[k]?=d.heap[k]?:=fun k j=>Below.heap_setCell _ _ _ _ j
 have u:=h.box.lt;have m:=N.lt
 have O:∀k,k<W.heap.size->v.ownBlock≠some k->g.ownBlock≠some k:=fun k j K e=>by
  rcases J with h4|h4
  ·exact K (by rw[<-h4];exact e)
  rw[h4] at e;have:=Option.some.inj e;omega
 refine⟨s,s.set g,hq.heap fun k j=>i k (fun e=>O Q u h.nQ (by rw[j,e])),?_,⟨r,(i R h.QR.symm).trans ((kp R m h.qr).trans N)⟩,h.lQ,h.lM,h.lR,O R m h.qr⟩
 obtain⟨es,c,b1,U⟩:=h.by_;exact⟨es,c,(i M h.QM.symm).trans ((kp M (gLt b1) h.nM).trans b1),U⟩
theorem FnC.setR (h:FnC lo Q M R D left v W) (r:Int):FnC lo Q M R D left v (W.setCell ⟨R,0,none⟩ r)/\Boxed (W.setCell ⟨R,0,none⟩ r) R 3 r/\Off lo [M,R] [Q] W (W.setCell ⟨R,0,none⟩ r):=by
 obtain⟨K,g⟩:=h.res;have d:∀k,k≠R->(W.setCell ⟨R,0,none⟩ r).heap[k]?=W.heap[k]?:=fun k j=>Below.heap_setCell _ _ _ _ j
 have i:jL (W.setCell ⟨R,0,none⟩ r) M D:=by
  obtain⟨es,c,u,J⟩:=h.by_;exact⟨es,c,(d _ h.RM.symm).trans u,J⟩
 have m:FnC lo Q M R D left v (W.setCell ⟨R,0,none⟩ r):=⟨(d _ h.QR).trans h.box,h.q.heap fun k j=>d k (fun e=>h.qr (by rw[j,e])),i,⟨r,g.set _⟩,h.lQ,h.lM,h.lR,h.qr⟩
 exact⟨m,g.set _,h.off m rfl rfl rfl (by simp[World.setCell]) (fun k _ _ s _ _=>d k s) (.inl rfl)⟩
theorem FnC.good_obj {l:Nat} {o:Obj} (h:FnC lo Q M R D left v W) (g:W.heap[l]?=some o) (K:o.isCells=false) (J:l≠M):yC lo [M,R] [Q] W l:=by
 refine⟨(gLt g),fun u=>?_⟩
 obtain⟨r,s⟩:=h.res
 have d:∀{i:Obj},W.heap[l]?=some i->i.isCells=true->False:=fun h1 e=>by
  rw[g] at h1;rw[<-Option.some.inj h1,K] at e;cases e
 rcases h.bad.1 u with h1|rfl|rfl|h1
 ·exact J h1
 ·exact d s rfl
 ·exact d h.box rfl
 obtain⟨m,j⟩:=h.q.cells h1;exact d j rfl
end
def wO (lo b:Nat) (Ms Fs:List Nat) (W:World) (ds:List Deferred):Prop:=∃Ds:List Nat,ds=Ds.map (fun D=>{target:=.collected D,args:=#[]})/\Ds.Nodup/\∀D∈Ds,b<=D/\yC lo Ms Fs W D/\W.heap[D]?=some (.deferred (some []))
theorem wO.nil (lo b:Nat) (Ms Fs:List Nat) (W:World):wO lo b Ms Fs W []:=⟨[],rfl,.nil,fun D h=>by cases h⟩
theorem wO.off {lo b:Nat} {Ms Fs:List Nat} {W W':World} {e:List Deferred} (h:wO lo b Ms Fs W e) (g:Off lo Ms Fs W W'):wO lo b Ms Fs W' e:=by
 obtain⟨i,s,u,J⟩:=h;exact⟨i,s,u,fun D K=>by obtain⟨j,d,m⟩:=J D K;exact⟨j,d.off g,(g.block D d.lt d.not).trans m⟩⟩
theorem wO.marks {lo b:Nat} {Ms Fs:List Nat} {W:World} {d:List Deferred} (h:wO lo b Ms Fs W d):zBH b W d:=by
 obtain⟨i,j,m,e⟩:=h;exact⟨i,j,m,fun D g=>⟨(e D g).1,(e D g).2.2⟩⟩
theorem wO.cons {lo b d:Nat} {Ms Fs:List Nat} {W W':World} {g:List Deferred} (h:wO lo b Ms Fs W g) (j:Off lo Ms Fs W W') (U:W.heap.size<=d) (K:b<=d) (O:yC lo Ms Fs W' d) (N:W'.heap[d]?=some (.deferred (some []))):
  wO lo b Ms Fs W' ({target:=.collected d,args:=#[]}::g):=by
 obtain⟨m,rfl,J,i⟩:=h;refine⟨d::m,rfl,List.nodup_cons.2 ⟨fun hm=>?_,J⟩,fun D' hm=>?_⟩
 ·have:=(i d hm).2.1.lt
  omega
 rcases List.mem_cons.1 hm with rfl|hm
 ·exact⟨K,O,N⟩
 obtain⟨s,e,u⟩:=i D' hm;exact⟨s,e.off j,(j.block D' e.lt e.not).trans u⟩
end
section
open Go Go.RowKit Go.Sort
def bD (w:World) (b:Bool) (e:Ending) (w':World):Prop:=e=.returned (.bool b)/\w'=w
def zDH (w:World) (xs:List Int) (x:Int) (e:Ending) (w':World):Prop:=∃r:Int,e=.returned r/\(0<=r↔x∈xs)/\w'=w
theorem zJz (A:Option Addr) (c:Nat) (xs:List Int) (x:Int) (w:World) (h:zE w 0 A c xs):Calls Tryz.prog 125 #[.slice A xs.length c,x] w (zDH w xs x):=by
 have K:=h.le;have J:=h.cap;have s:=hId h;clear h
 go_enter Tryz.func125,Tryz.ntmps125
 go_wp2_with fail
 go_loopw [5,8] (fun _ i wr=>∃k:Nat,k<=xs.length/\i=(k:Int)/\Hid (wr=w)/\Hid (x∉xs.take k)) (fun _ i _=>xs.length-(intOf i).toNat)
 case atStart=>exact⟨0,Nat.zero_le _,rfl,rfl,by show _∉_;simp⟩
 obtain⟨k,O,rfl,u,j⟩:=hrel;obtain rfl:=u.o
 by_cases hkl:k<xs.length
 ·have N:(k:Int)<(xs.length:Int):=by omega
  obtain⟨b,o,rfl,_,_,U⟩:=zE.at_ s.o hkl
  by_cases hx:x=xs[k]
  ·have g:(x==xs[k])=true:=by simp[hx]
   have e:Hid (zDH wr xs x (.returned (k:Int)) wr):=⟨k,rfl,⟨fun _=>by rw[hx];exact List.getElem_mem hkl,fun _=>by omega⟩,rfl⟩
   clear hx;generalize xs[k]=y at *
   go_wp2_with fail
   go_ret
   exact e.o
  have g:(x==xs[k])=false:=by simp[hx]
  have d:Hid (x∉xs.take (k+1)):=by
   show _∉_;rw[List.take_succ_eq_append_getElem hkl,List.mem_append,List.mem_singleton];rintro(h|h)
   ·exact j.o h
   exact hx h
  have m:=hId hkl;clear hx;generalize xs[k]=y at *
  go_wp2_with fail
  go_roundw
  case rel=>exact⟨k+1,m.o,by go_num,trivial,d.o⟩
  case measure=>simp[intOf];have:=m.o;omega
 have N:¬(k:Int)<(xs.length:Int):=by omega
 have e:Hid (zDH wr xs x (.returned (.int .i64 (-1))) wr):=⟨-1,rfl,⟨fun h=>by omega,fun h=>absurd h (by have:=j.o;rwa[List.take_of_length_le (by omega)] at this)⟩,rfl⟩
 go_wp2_with fail
 go_ret
 exact e.o
theorem zFA (A:Option Addr) (c:Nat) (xs:List Int) (x:Int) (w:World) (h:zE w 0 A c xs):Calls Tryz.prog 78 #[.slice A xs.length c,x] w (bD w (decide (x∈xs))):=by
 have i:=hId (zJz A c xs x w h)
 go_enter Tryz.func78,Tryz.ntmps78
 go_wp2_with fail
 refine i.o.mono ?_;rintro e g ⟨r,rfl,d,rfl⟩;have j:Hid (bD g (decide (x∈xs)) (.returned (.bool (decide (0<=r)))) g):=⟨by rw[decide_eq_decide.2 d],rfl⟩
 clear d
 go_wp2_with fail
 go_ret
 exact j.o
theorem zGw (a:Au) (A B C:Option Addr) (ca cb cc V:Nat) (n:Int) (w:World) (K:yG w V a A B C ca cb cc) (g:zE w 0 A ca a.fs):Calls Tryz.prog 106 #[n,(⟨V,0,none⟩:Addr)] w (bD w (decide (n∈a.fs))):=by
 have d:=hId (zFA A ca a.fs n w g);obtain⟨_,j,m,s,u,J⟩:=K;clear g
 go_enter Tryz.func106,Tryz.ntmps106
 go_wp2_with fail
 refine d.o.mono ?_;rintro e h ⟨rfl,rfl⟩;clear j m s u J d;have i:Hid (bD h (decide (n∈a.fs)) (.returned (.bool (decide (n∈a.fs)))) h):=⟨rfl,rfl⟩
 go_wp2_with fail
 go_ret
 exact i.o
theorem is_ (n k:Int) (X:Nat) (w:World) (e:w.cell? ⟨X,0,none⟩=some (.int .i64 n)):Calls Tryz.prog 107 #[k,(⟨X,0,none⟩:Addr)] w (bD w (k==n)):=by
 have d:Hid (bD w (k==n) (.returned (.bool (k==n))) w):=⟨rfl,rfl⟩
 generalize hb:(k==n)=b at *
 go_enter Tryz.func107,Tryz.ntmps107
 go_wp2_with fail
 go_ret
 exact d.o
end
end Go.Proofs.YtoglgeaiiipchaaGreatDoor

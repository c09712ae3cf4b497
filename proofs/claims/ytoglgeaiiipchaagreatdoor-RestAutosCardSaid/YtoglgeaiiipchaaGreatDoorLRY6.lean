import Derived.Test.YtoglgeaiiipchaaGreatDoorLRY5
set_option linter.unusedSimpArgs false
set_option linter.unusedVariables false
set_option maxRecDepth 100000
set_option maxHeartbeats 8000000
namespace Go.Proofs.YtoglgeaiiipchaaGreatDoor
section
open Go Go.RowKit Go.Sort
theorem zKE (s:List UInt8) (a b:Nat):(sB s).extract a b=sB ((s.drop a).take (b-a)):=by
 apply ByteArray.ext
 simp[sB,ByteArray.extract,ByteArray.copySlice]
theorem bM (c:UInt8):∀(s:List UInt8),(zH c s).length<=s.length+1
 |[]=>by simp[zH]
 |x::r=>by
  have d:=bM c r;rw[nU]
  split
  ·simp;omega
  split<;>simp_all<;>omega
theorem vN (l:List UInt8):(sB l).toList=l:=by rw[Lib.toList_data,qY]
def zAo (w:World) (B:Option Addr) (c:Nat) (xs:List (List UInt8)):Prop:=xs.length<=c/\c<=9223372036854775807/\Rd w 0 B (xs.flatMap fun x=>[Value.string (sB x)])
theorem zAo.below {w w':World} {B:Option Addr} {c:Nat} {xs:List (List UInt8)} (h:zAo w B c xs) (i:Below w w w'):zAo w' B c xs:=by
 refine⟨h.1,h.2.1,fun g=>?_⟩
 obtain⟨b,off,m,e,d,s⟩:=h.2.2 g;exact⟨b,off,m,e,Nat.lt_of_lt_of_le d i.size,fun j u J=>(i.cell (p:=⟨b,off+j,none⟩) d).trans (s j u J)⟩
theorem zAo.at_ {w:World} {B:Option Addr} {c:Nat} {xs:List (List UInt8)} (h:zAo w B c xs) {k:Nat} (d:k<xs.length):∃b o,B=some ⟨b,o,none⟩/\b<w.heap.size/\w.cell? ⟨b,o+k,none⟩=some (.string (sB xs[k])):=by
 have i:(xs.flatMap fun x=>[Value.string (sB x)])≠[]:=by
  rw[cZ];intro e;have:=congrArg List.length e
  simp at this
  rw[this] at d
  simp at d
 obtain⟨b,off,j,s,g,m⟩:=h.2.2 i;exact⟨b,off,j,g,m k _ (by rw[cZ,List.getElem?_map,List.getElem?_eq_getElem d];rfl)⟩
theorem zFo {l:List (List UInt8)} {k:Nat} {d:List Int} {n:Int} (e:k<l.length) (h:jR (l.take k)=some d) (g:und l[k]=some n):jR (l.take (k+1))=some (d++[n]):=by
 rw[List.take_succ_eq_append_getElem e,mI,h,vQ,g];rfl
theorem zF5 {l:List (List UInt8)} {k:Nat} (d:k<l.length) (g:und l[k]=none):jR l=none:=by
 have e:l=l.take k++(l[k]::l.drop (k+1)):=by rw[<-List.drop_eq_getElem_cons d,List.take_append_drop]
 rw[e,mI,vQ,g]
 cases jR (l.take k)<;>rfl
theorem zCe {s:List UInt8} {c:UInt8} (h:∀x∈s,x≠c):Lib.index s [c]=-1:=Lib.index_none fun j g=>by
 cases ho:Lib.occAt s [c] j with
 |false=>rfl
 |true=>
  have:=Lib.occAt_head (c:=c) (t:=[]) rfl ho;obtain⟨d,e⟩:=List.getElem?_eq_some_iff.1 this;exact absurd e (h _ (List.getElem_mem d))
theorem zB4 {s:List UInt8} {c:UInt8} (h:∀x∈s,x≠c):s.count c=0:=List.count_eq_zero.2 fun d=>h c d rfl
theorem zAc {p r:List UInt8} {c:UInt8} (h:∀x∈p,x≠c):(p++c::r).count c=r.count c+1:=by
 rw[List.count_append,zB4 h,List.count_cons_self];omega
theorem sO (c:UInt8):∀(f:Nat) (s:List UInt8),s.length<f->Lib.countFrom [c] f s=s.count c
 |0,s,h=>absurd h (by omega)
 |f+1,s,h=>by
  unfold Lib.countFrom
  rcases jI c s with h1|⟨p,r,rfl,h1⟩
  ·rw[zCe h1,zB4 h1];rfl
  rw[oH h1,zAc h1];have:¬(((p.length:Nat):Int)==-1)=true:=by simp
  rw[if_neg this,Int.toNat_natCast];have e:(p++c::r).drop (p.length+[c].length)=r:=by simp
  rw[e,sO c f r (by simp at h;omega)]
  omega
theorem zAh (c:UInt8):∀(k:Nat) (s:List UInt8),s.count c<=k->Lib.splitK [c] 0 k s=zH c s
 |0,s,h=>by
  have:∀x∈s,x≠c:=fun x g d=>by
   have:=List.count_pos_iff.2 (d▸g);omega
  rw[xF this];rfl
 |k+1,s,h=>by
  unfold Lib.splitK
  rcases jI c s with h1|⟨p,r,rfl,h1⟩
  ·rw[zCe h1,xF h1];rfl
  rw[oH h1,yN r h1];have:¬(((p.length:Nat):Int)==-1)=true:=by simp
  rw[zAc h1] at h;rw[if_neg this,Int.toNat_natCast];have e:(p++c::r).drop (p.length+[c].length)=r:=by simp
  rw[e,zAh c k r (by omega)]
  simp
theorem zGK (c:UInt8) (s:List UInt8):(Lib.splitB (sB [c]) 0 (Lib.countB (sB s) (sB [c])) (sB s)).map (fun b=>b.data.toList)=zH c s:=by
 rw[Lib.splitB_data,qY,qY];refine zAh c _ s ?_;show _<=Lib.count (sB s).data.toList (sB [c]).data.toList;rw[qY,qY];unfold Lib.count;rw[sO c _ _ (by omega)]
 exact nLe
theorem zEI (s:List UInt8) (c:UInt8) (w:World) (K:xR w) (O:s.length<=1000000):
  Calls Tryz.prog 161 #[.string (sB s),.string (sB [c])] w fun e w'=>e=.returned (.slice (some ⟨w,0,none⟩) (zH c s).length (zH c s).length)/\zAo w' (some ⟨w,0,none⟩) (zH c s).length (zH c s)/\Below w w w':=by
 obtain⟨m,N⟩:=K.ml;have i:=bM c s;refine(Tryz.strings_Split (sB s) (sB [c]) m w (by rw[qQ];omega) N (by rw[qQ];simp)).mono fun e w' ⟨h,d⟩=>?_
 have j:=Lib.splitB_all (sB [c]) (by rw[qQ];simp) 0 _ (sB s) rfl
 have g:=zGK c s;have u:Lib.countB (sB s) (sB [c])+1=(zH c s).length:=by rw[<-g,List.length_map,j]
 have J:(Lib.splitB (sB [c]) 0 (Lib.countB (sB s) (sB [c])) (sB s)).map Value.string=(zH c s).flatMap fun x=>[Value.string (sB x)]:=by
  rw[cZ,<-g,List.map_map];exact List.map_congr_left fun b _=>congrArg Value.string (zJU b)
 rw[u] at h;rw[J] at d;refine⟨h,⟨nLe,by omega,?_⟩,by rw[d];exact bLa⟩
 have:=Rd.new w ((zH c s).flatMap fun x=>[Value.string (sB x)]).toArray 9
 rw[d]
 simpa using this
def kM (word x:List UInt8):Option (List Int):=if word=[] then jR (zH 32 x) else xP word x
theorem zAO {d x:List UInt8} {r:List (List UInt8)} (h:zH 32 x=d::r):d<+:x:=by
 have:=vZ 32 _ x nLe;rw[h] at this
 cases r with
 |nil=>exact⟨[],by simpa[dZ] using this⟩
 |cons y r=>exact⟨32::dZ 32 (y::r),this⟩
theorem zHy {d x:List UInt8} (h:Lib.hasPrefix x d=false):xP d x=none:=by
 unfold xP
 split
 ·rfl
 rename_i p r hs
 split
 ·rename_i hp
  subst hp;have:=zAO hs;unfold Lib.hasPrefix at h;rw[List.isPrefixOf_iff_prefix.2 this] at h;cases h
 rfl
theorem zEK {d:List UInt8} (e:∀x∈d,x≠32):xP d d=some []:=by
 unfold xP;rw[xF e];simp only;rw[if_pos trivial];rfl
theorem zEM {d r:List UInt8} {g:UInt8} (m:∀x∈d,x≠32) (j:g≠32):xP d (d++g::r)=none:=by
 unfold xP
 rcases jI 32 r with h|⟨p,q,rfl,h⟩
 ·rw[xF (by intro x i;rcases List.mem_append.1 i with h1|h1;exact m x h1;rcases List.mem_cons.1 h1 with rfl|h1;exact j;exact h x h1)]
  simp only;rw[if_neg];intro e;have:=congrArg List.length e
  simp at this
 have:d++g::(p++32::q)=(d++g::p)++32::q:=by simp
 rw[this,yN q (by intro x i;rcases List.mem_append.1 i with h1|h1;exact m x h1;rcases List.mem_cons.1 h1 with rfl|h1;exact j;exact h x h1)]
 simp only;rw[if_neg];intro e;have:=congrArg List.length e
 simp at this
theorem zHl {d r:List UInt8} (e:∀x∈d,x≠32):xP d (d++32::r)=jR (zH 32 r):=by
 unfold xP;rw[yN r e];simp only;rw[if_pos trivial]
def dA (w:World) (o:Option (List Int)) (e:Ending) (w':World):Prop:=∃(A:Option Addr) (c:Nat) (ns:List Int) (b:Bool),e=.returned (.tuple #[.slice A ns.length c,.bool b])/\zE w' w.heap.size A c ns/\Below w w w'/\(match o with|some m=>ns=m/\b=true|none=>b=false)
theorem pO (w:World) (lo:Nat):zE w lo none 0 []:=⟨nLe,by omega,by simp,Rd.nil,Fz.no⟩
theorem zJ4 (x:List UInt8) (w:World) (K:xR w) (U:x.length<=1000000):
  Calls Tryz.prog 163 #[.string (sB x)] w fun e w'=>(∃ (n:Int) (v:Value),e=.returned (.tuple #[n,v])/\-9223372036854775808<=n/\n<=9223372036854775807/\((v=.nilIface/\Lib.atoiAll x=.ok n)\/(∃ t p,v=.iface t p)/\∀m,Lib.atoiAll x≠.ok m))/\Below w w w':=by
 cases h:Lib.atoiAll x with
 |ok n=>
  refine(Tryz.strconv_Atoi_ok (sB x) (by rw[qQ];omega) n (by rw[qY];exact h) w).mono fun e w' ⟨d,O⟩=>⟨⟨n,_,d,(Lib.atoiAll_bounds h).1,(Lib.atoiAll_bounds h).2,.inl ⟨rfl,rfl⟩⟩,?_⟩
  rcases O with rfl|⟨t,rfl⟩
  ·exact bRf
  exact Lib.bytesWorld_below _ _ _
 |range=>
  obtain⟨g,i,j⟩:=K.er
  exact(Tryz.strconv_Atoi_range (sB x) (by rw[qQ];omega) (by rw[qY];exact h) g w i j).mono fun e w' ⟨N,d,_,_,s⟩=>⟨⟨_,_,d,by rw[qY];exact(Lib.atoiSat_bounds x).1,by rw[qY];exact(Lib.atoiSat_bounds x).2,.inr ⟨⟨_,_,rfl⟩,fun m u=>by cases u⟩⟩,s⟩
 |_=>
  obtain⟨g,i,j⟩:=K.es
  exact(Tryz.strconv_Atoi_syntax (sB x) (by rw[qQ];omega) (by rw[qY,h];intro n J;cases J) (by rw[qY,h];intro J;cases J) g w i j).mono fun e w' ⟨N,d,_,_,s⟩=>⟨⟨0,_,d,by omega,by omega,.inr ⟨⟨_,_,rfl⟩,fun m u=>by cases u⟩⟩,s⟩
theorem zEQ {x:List UInt8} {n:Int} (h:Lib.atoiAll x=.ok n):und x=if x.length<=6/\Lib.itoa n=x/\0<=n then some n else none:=by
 rw[<-zCT];unfold zFj;rw[h];simp only
 by_cases hc:x.length<=6/\Lib.itoa n=x/\0<=n
 ·rw[if_pos hc,if_pos (by simp[hc])]
 rw[if_neg hc,if_neg (by simpa[and_assoc] using hc)]
theorem zE9 {x:List UInt8} (h:∀m,Lib.atoiAll x≠.ok m):und x=none:=by
 rw[<-zCT];unfold zFj
 split
 ·rename_i n hn
  exact absurd hn (h n)
 rfl
theorem gV (c:UInt8):∀(n:Nat) (s:List UInt8),s.length<=n->∀z∈zH c s,z.length<=s.length
 |n,s,hn,z,hz=>by
  rcases jI c s with h|⟨q,r,rfl,h⟩
  ·rw[xF h] at hz
   rw[List.mem_singleton.1 hz];exact nLe
  rw[yN r h] at hz
  rcases List.mem_cons.1 hz with rfl|hz
  ·simp
  cases n with
  |zero=>simp at hn
  |succ n=>
   have:=gV c n r (by simp at hn;omega) z hz
   simp
   omega
theorem sQ (d x:List UInt8) (w:World) (hL:xR w) (hx:x.length<=200000) (hw:∀y∈d,y≠32) (hwl:d.length<=10):
  Calls Tryz.prog 136 #[.string (sB x),.string (sB d)] w (dA w (kM d x)):=by
 obtain⟨i0,hi0,hz0,hz1,hz2⟩:=info_parts qX;have HL:=hId hL;have HWD:=hId hw;clear hL hw
 go_enter Tryz.func136,Tryz.ntmps136
 go_upto_if 15 with fail
 go_cut [6] (fun s6 wx=>∃y:List UInt8,s6=.string (sB y)/\wx=w/\y.length<=200000/\Hid (kM d x=jR (zH 32 y)))
 case first=>
  by_cases hwd:d=[]
  ·have e1:(sB d).toList.isEmpty=true:=by rw[gE,hwd];rfl
   have J:Hid (kM d x=jR (zH 32 x)):=by unfold Hid kM;rw[if_pos hwd]
   clear hwd;rw[e1]
   go_wp2_with fail
   go_meet
   exact⟨x,rfl,rfl,hx,J.o⟩
  have e1:(sB d).toList.isEmpty=false:=by rw[gE];simp[hwd]
  have J:Hid (kM d x=xP d x):=by unfold Hid kM;rw[if_neg hwd]
  have HCP:=hId (zI2 x d w);clear hwd;rw[e1]
  go_wp2_with fail
  refine HCP.o.mono ?_;rintro e w' ⟨rfl,rfl⟩
  cases hp:Lib.hasPrefix x d with
  |false=>
   have u:Hid (dA w' (kM d x) (.returned (.tuple #[(),false])) w'):=⟨none,0,[],false,rfl,pO _ _,bRf,by rw[J.o,zHy hp]⟩
   clear hp
   go_wp2_with fail
   go_ret2
   exact u.o
  |true=>
   have hpre:d<+:x:=List.isPrefixOf_iff_prefix.1 hp
   obtain⟨U,rfl⟩:=hpre;have htp:Lib.trimPrefix (d++U) d=U:=by unfold Lib.trimPrefix;rw[hp,if_pos rfl,List.drop_left]
   rw[htp];clear hp htp
   cases U with
   |nil=>
    have e2:(sB ([]:List UInt8)).toList.isEmpty=true:=by rw[gE];rfl
    have u:Hid (dA w' (kM d (d++[])) (.returned (.tuple #[(),true])) w'):=⟨none,0,[],true,rfl,pO _ _,bRf,by rw[J.o,List.append_nil,zEK HWD.o];exact⟨rfl,rfl⟩⟩
    clear J HCP
    go_wp2_with fail
    go_ret2
    exact u.o
   |cons s r=>
    have e2:(sB (s::r)).toList.isEmpty=false:=by rw[gE];rfl
    have HX1:Hid ((sB (s::r)).extract 1 (r.length+1)=sB r):=by
     show _=_;rw[zKE]
     simp
    have hsz:(sB (s::r)).size=r.length+1:=by rw[qQ];rfl
    have b0:0<(sB (s::r)).size:=by omega
    have g0:(sB (s::r))[0]'b0=s:=rfl
    have hrl:r.length<=200000:=by simp at hx;omega
    have HN:Hid (s≠32->xP d (d++s::r)=none):=fun h=>zEM HWD.o h
    have HON:Hid (s=32->xP d (d++s::r)=jR (zH 32 r)):=fun h=>by subst h;exact zHl HWD.o
    generalize sB (s::r)=S at *
    by_cases hc:s=32
    ·have e3:((s.toNat:Int) !=32)=false:=by rw[hc];rfl
     have HE2:Hid (kM d (d++s::r)=jR (zH 32 r)):=by show _=_;rw[J.o,HON.o hc]
     clear HCP HN HON hc J
     go_wp2_with fail
     go_meet
     exact⟨r,congrArg Value.string HX1.o,rfl,hrl,HE2.o⟩
    have e3:((s.toNat:Int) !=32)=true:=by
     simp
     intro h;exact hc (UInt8.toNat_inj.1 (by simpa using Int.ofNat.inj h))
    have u:Hid (dA w' (kM d (d++s::r)) (.returned (.tuple #[(),false])) w'):=⟨none,0,[],false,rfl,pO _ _,bRf,by rw[J.o,HN.o hc]⟩
    clear HCP HN HON hc J
    go_wp2_with fail
    go_ret2
    exact u.o
 obtain⟨y,rfl,rfl,hy,J⟩:=hcut;have HSP:Hid (Calls Tryz.prog 161 #[.string (sB y),.string ⟨#[32]⟩] wc _):=zEI y 32 wc HL.o (by omega)
 have hsl:=bM 32 y
 have HM:Hid (∀ z∈zH 32 y,z.length<=200000):=fun z hz=>by
  have:=gV 32 _ y nLe z hz;omega
 generalize zH 32 y=l at *
 go_wp2_with fail
 refine HSP.o.mono ?_;rintro e w1 ⟨rfl,hrd,hb1⟩;have HRD:=hId hrd;have HB1:=hId hb1;obtain⟨g,hg⟩:∃g,g=wc.heap.size:=⟨_,rfl⟩;rw[<-hg] at HRD ⊢;have hcp:=hrd.2.1;clear hrd hb1 HSP hg
 go_wp2_with fail
 go_loopw [8,10,11,12,40] (fun v _ _ _ i wr=>∃(k:Nat) (j:List Int),k<=l.length/\i=(k:Int)/\Hid (jR (l.take k)=some j)/\Hid (wr.ownsRow w1.heap.size 3 1 v j.length (j.flatMap fun n:Int=>[Value.int .i64 n]))/\Hid (Below w1 w1 wr)) (fun _ _ _ _ i _=>l.length-(intOf i).toNat)
 case atStart=>exact⟨0,[],Nat.zero_le _,rfl,rfl,World.ownsRow_nil _ _ _ _,bRf⟩
 obtain⟨k,j,hk,rfl,HU,HO,HB⟩:=hrel
 have hnl:j.length<=200001:=by
  have:=zFR HU.o;rw[List.length_take] at this;omega
 have HBW:Hid (Below wc wc wr):=zA HB1.o HB.o HB1.o.size
 by_cases hkl:k<l.length
 ·have q1:(k:Int)<(l.length:Int):=by omega
  obtain⟨b,o,hbo,_,y0⟩:=(HRD.o.below HB.o).at_ hkl;obtain⟨rfl,rfl⟩:b=g/\o=0:=by simp at hbo;exact⟨hbo.1.symm,hbo.2.symm⟩
  rw[Nat.zero_add] at y0;have hzl:=HM.o _ (List.getElem_mem hkl);have HS:Hid (∀ n,und l[k]=some n->jR (l.take (k+1))=some (j++[n])):=fun n hn=>zFo hkl HU.o hn
  have HN:Hid (und l[k]=none->jR l=none):=fun hn=>zF5 hkl hn
  have HAT:=hId (zJ4 l[k] wr (HL.o.below (n:=wc.heap.size) HBW.o nLe) (by omega))
  have HPS:=hId (fun n=>zEQ (x:=l[k]) (n:=n))
  have HPN:=hId (zE9 (x:=l[k]));generalize l[k]'hkl=x1 at *;obtain⟨vA,vc,rfl,hvl,hvc,_,_⟩:=zF HO.o;have hszx:(sB x1).size=x1.length:=qQ x1
  have m:Hid (∀ W,und x1=none->Below wc wc W->dA wc (kM d x) (.returned (.tuple #[(),false])) W):=fun W hu hb=>⟨none,0,[],false,rfl,pO _ _,hb,by rw[J.o,HN.o hu]⟩
  go_wp2_with fail
  refine HAT.o.mono ?_;rintro e w2 ⟨⟨n,v,rfl,hn0,hn1,hcase⟩,hb2⟩;have K:=hId (zA HBW.o hb2 HBW.o.size);have HBR2:=hId (zA HB.o hb2 HB.o.size)
  have HO2:Hid (w2.ownsRow w1.heap.size 3 1 (.slice vA j.length vc) j.length (j.flatMap fun n:Int=>[Value.int .i64 n])):=zD HO.o hb2
  clear hb2 HAT HO y0
  rcases hcase with⟨rfl,hok⟩|⟨⟨t,p,rfl⟩,hno⟩
  ·have hu:=HPS.o _ hok
   have HUU:=hId hu;clear hok hu HPN HPS
   by_cases h6:x1.length<=6
   ·have e1:¬(6:Int)<(x1.length:Int):=by omega
    have HIT:=hId (zFJ n hn0 hn1 w2 (HL.o.below (n:=wc.heap.size) K.o nLe))
    go_wp2_with fail
    refine HIT.o.mono ?_;rintro e w3 ⟨rfl,hb3⟩;have HB3:=hId (zA K.o hb3 K.o.size);have HBR3:=hId (zA HBR2.o hb3 HBR2.o.size)
    have HO3:Hid (w3.ownsRow w1.heap.size 3 1 (.slice vA j.length vc) j.length (j.flatMap fun n:Int=>[Value.int .i64 n])):=zD HO2.o hb3
    clear hb3 HIT HO2
    by_cases hit:Lib.itoa n=x1
    ·have e2:((sB (Lib.itoa n)).toList==(sB x1).toList)=true:=by rw[hit];simp
     by_cases hneg:n<0
     ·have u:=hId (m.o w3 (by rw[HUU.o,if_neg (by omega)]) HB3.o)
      clear hit
      go_wp2_with fail
      go_ret2
      exact u.o
     have HS2:=hId (HS.o n (by rw[HUU.o,if_pos ⟨h6,hit,by omega⟩]))
     have HO4:Hid ((w3.alloc (.cells #[n] 3)).ownsRow w1.heap.size 3 1 (.slice vA j.length vc) j.length (j.flatMap fun n:Int=>[Value.int .i64 n])):=zD HO3.o (bLa)
     have HRd:=hId (Rd.new w3 #[n] 3);have HB4:Hid (Below wc wc (w3.alloc (.cells #[n] 3))):=HB3.o.alloc HB3.o.size _
     have HBR4:Hid (Below w1 w1 (w3.alloc (.cells #[n] 3))):=HBR3.o.alloc HBR3.o.size _
     have hsz4:w1.heap.size<=(w3.alloc (.cells #[n] 3)).heap.size:=HBR4.o.size
     clear hit m HS HN
     go_wp2_with (at_builtin;refine qE _ rfl (.tmp 66) (.tmp 68) _ rfl w1.heap.size 3 i0 _ 1 8 Tryz.underlying22 hi0 hz0 hz1 hz2 rfl (by decide) (.slice vA j.length vc) j.length _ rfl HO4.o (some ⟨w3,0,none⟩) 1 1 [.int .i64 n] rfl rfl HRd.o (by simp[Value.oneCell']) (by simp only[maxLen];omega) (by omega) hsz4 ?_;intro v2 w2' O hg2 hat2)
     have HP':Hid (w2'.ownsRow w1.heap.size 3 1 v2 (j++[n]).length ((j++[n]).flatMap fun n:Int=>[Value.int .i64 n])):=by
      show World.ownsRow _ _ _ _ _ _ _;rw[List.length_append,List.flatMap_append];exact O
     have HB5:=hId (qV HBR4.o hg2 HO4.o nLe hsz4);clear O hg2 hat2
     go_wp2_with fail
     go_roundw
     case rel=>exact⟨k+1,j++[n],by omega,by go_num,HS2.o,HP'.o,HB5.o⟩
     case measure=>simp[intOf];omega
    have e2:((sB (Lib.itoa n)).toList==(sB x1).toList)=false:=by rw[vN,vN];simpa using hit
    have u:=hId (m.o w3 (by rw[HUU.o,if_neg (fun h=>hit h.2.1)]) HB3.o)
    clear hit
    go_wp2_with fail
    go_ret2
    exact u.o
   have e1:(6:Int)<(x1.length:Int):=by omega
   have u:=hId (m.o w2 (by rw[HUU.o,if_neg (by omega)]) K.o)
   go_wp2_with fail
   go_ret2
   exact u.o
  have u:=hId (m.o w2 (HPN.o hno) K.o);clear hno HPN HPS
  go_wp2_with fail
  go_ret2
  exact u.o
 have q1:¬(k:Int)<(l.length:Int):=by omega
 have hkk:l.take k=l:=List.take_of_length_le (by omega)
 rw[hkk] at HU;obtain⟨vA,vc,rfl,N⟩:=SlE.of_own (bt:=8) HO.o (by omega)
 have u:Hid (dA wc (kM d x) (.returned (.tuple #[.slice vA j.length vc,true])) wr):=⟨vA,vc,j,true,rfl,N.low HB1.o.size,HBW.o,by rw[J.o,HU.o];exact⟨rfl,rfl⟩⟩
 clear N hkk
 go_wp2_with fail
 go_ret2
 exact u.o
def zBk (w:World) (g:Nat) (o:Option (List Bool)) (e:Ending) (w':World):Prop:=∃b:Bool,e=.returned (.bool b)/\w.grownBy w' (some g)/\match o with
 |some gs=>b=true/\zU w' g gs
 |none=>b=false
theorem sK {st:Int} {gs d:List Bool}:∀{l:List Int} {k:Nat} {last:Int} {n:Int},yV st gs last (l.take k)=some d->(h:k<l.length)->l[k]=n->
  (if(if k=0 then last else l.getD (k-1) 0)<n/\n<st then yV st gs last (l.take (k+1))=some (d.set n.toNat true) else yV st gs last l=none)
 |[],k,last,n,_,h,_=>absurd h (by simp)
 |x::l,0,last,n,h1,h,hn=>by
  obtain rfl:x=n:=hn
  obtain rfl:=Option.some.inj (show some gs=some d from h1);rw[if_pos rfl]
  split
  ·rename_i hc
   show(if last<x/\x<st then yV st (gs.set x.toNat true) x [] else none)=_
   rw[if_pos hc];rfl
  rename_i hc
  show(if last<x/\x<st then _ else none)=_
  rw[if_neg hc]
 |x::l,k+1,last,n,h1,h,hn=>by
  change(if last<x/\x<st then yV st (gs.set x.toNat true) x (l.take k) else none)=some d at h1
  split at h1
  ·rename_i hc
   have g:=sK (l:=l) (k:=k) (last:=x) (n:=n) h1 (by simpa using h) (by simpa using hn)
   have e:(if k+1=0 then last else(x::l).getD (k+1-1) 0)=if k=0 then x else l.getD (k-1) 0:=by
    rw[if_neg (by omega)]
    cases k with
    |zero=>rfl
    |succ k=>rw[if_neg (by omega)];simp
   rw[e]
   by_cases hc2:(if k=0 then x else l.getD (k-1) 0)<n/\n<st
   ·rw[if_pos hc2] at g ⊢
    show(if last<x/\x<st then yV st (gs.set x.toNat true) x (l.take (k+1)) else none)=_
    rw[if_pos hc];exact g
   rw[if_neg hc2] at g ⊢;show(if last<x/\x<st then yV st (gs.set x.toNat true) x l else none)=_
   rw[if_pos hc];exact g
  cases h1
theorem mN {st:Int}:∀{l:List Int} {gs d:List Bool} {last:Int},yV st gs last l=some d->d.length=gs.length
 |[],gs,d,last,h=>by obtain rfl:=Option.some.inj h;rfl
 |n::r,gs,d,last,h=>by
  unfold yV at h
  split at h
  ·rw[mN h];simp
  cases h
theorem zLn (st le:Int) (s u:Value) (g n:Nat) (gs:List Bool) (B:Option Addr) (cl:Nat) (l:List Int) (w:World) (hg:zU w g gs) (hgl:gs.length=n) (hst:(n:Int)=st) (hl:zE w 0 B cl l) (hn:∀x∈l,0<=x) (hnn:n<=300):
  Calls Tryz.prog 137 #[.agg #[st,le,s,.slice (some ⟨g,0,none⟩) n n,u],.slice B l.length cl] w (zBk w g (yV st gs (-1) l)):=by
 have d:Below w w (w.alloc (.cells #[st,le,s,.slice (some ⟨g,0,none⟩) n n,u] 31)):=bLa
 have h0:=hg.lt;have J:=hId (hg.below d h0);have HL0:=hId (hl.below d);have j:=hId (eI (some g) d);have hle:=hl.le;have hcp:=hl.cap;have HN:=hId hn;clear hg hl hn d
 go_enter Tryz.func137,Tryz.ntmps137
 go_upto_region 1 with fail
 obtain⟨V,hV⟩:∃V,V=w.heap.size:=⟨_,rfl⟩;have c0:(w.alloc (.cells #[st,le,s,.slice (some ⟨g,0,none⟩) n n,u] 31)).cell? ⟨w,0,none⟩=some (.int .i64 st):=by go_simp
 have c3:(w.alloc (.cells #[st,le,s,.slice (some ⟨g,0,none⟩) n n,u] 31)).cell? ⟨w.heap.size,3,none⟩=some (.slice (some ⟨g,0,none⟩) n n):=by go_simp
 have O:w.heap.size<(w.alloc (.cells #[st,le,s,.slice (some ⟨g,0,none⟩) n n,u] 31)).heap.size:=by simp
 generalize w.alloc (.cells #[st,le,s,.slice (some ⟨g,0,none⟩) n n,u] 31)=W0 at *;rw[<-hV] at c0 c3 h0 O ⊢
 have HC:Hid (∀ W,W0.grownBy W (some g)->W.cell? ⟨V,0,none⟩=some (.int .i64 st)/\W.cell? ⟨V,3,none⟩=some (.slice (some ⟨g,0,none⟩) n n)):=fun W h=>by
  have e:=h.block V O (by simp;omega)
  exact⟨(World.cell?_of_block (w:=W0) (a:=⟨V,0,none⟩) e).trans c0,(World.cell?_of_block (w:=W0) (a:=⟨V,3,none⟩) e).trans c3⟩
 clear hV c0 c3
 go_wp2_with fail
 go_loopw [5,7,10] (fun s5 _ i wr=>∃(k:Nat) (xs:List Bool),k<=l.length/\i=(k:Int)/\s5=.int .i64 (if k=0 then -1 else l.getD (k-1) 0)/\Hid (yV st gs (-1) (l.take k)=some xs)/\Hid (zU wr g xs)/\Hid (W0.grownBy wr (some g))) (fun _ _ i _=>l.length-(intOf i).toNat)
 case atStart=>exact⟨0,gs,Nat.zero_le _,rfl,rfl,rfl,J.o,World.grownBy.refl _ _⟩
 obtain⟨k,xs,hk,rfl,rfl,HS,HB,m⟩:=hrel;obtain⟨c0,c3⟩:=HC.o _ m.o;have hxl:xs.length=n:=by rw[mN HS.o];exact hgl
 by_cases hkl:k<l.length
 ·have q1:(k:Int)<(l.length:Int):=by omega
  obtain⟨b,o,rfl,_,_,y0⟩:=zE.at_ (zE.grown_bool HL0.o J.o m.o) hkl;have HT:=hId (sK (n:=l[k]) HS.o hkl rfl);have h3:=HN.o _ (List.getElem_mem hkl)
  have K:Hid ((if k+1=0 then -1 else l.getD (k+1-1) 0)=l[k]):=by
   show _=_;rw[if_neg (by omega),Nat.add_sub_cancel,List.getD_eq_getElem?_getD,List.getElem?_eq_getElem hkl];rfl
  obtain⟨x,hx⟩:∃x,x=l[k]:=⟨_,rfl⟩;rw[<-hx] at y0 HT h3 K;clear hx;obtain⟨x,rfl⟩:=Int.eq_ofNat_of_zero_le h3;generalize (if k=0 then(-1:Int) else l.getD (k-1) 0)=last at *
  by_cases h1:(x:Int)<=last
  ·have N:Hid (zBk w g (yV st gs (-1) l) (.returned (.bool false)) wr):=⟨false,rfl,zO j.o m.o,by have:=HT.o;rw[if_neg (by omega)] at this;rw[this]⟩
   go_wp2_with fail
   go_ret
   exact N.o
  by_cases h2:(x:Int)<st
  ·have h2':¬st<=(x:Int):=by omega
   have HS2:Hid (yV st gs (-1) (l.take (k+1))=some (xs.set x true)):=by have:=HT.o;rw[if_pos ⟨by omega,h2⟩] at this;exact this
   have hxn:x<n:=by omega
   have hxn':(x:Int)<(n:Int):=by omega
   obtain⟨z1,z2⟩:=HB.o.getD_ (i:=x) (by omega) false
   have HB2:=hId (HB.o.set_ x true);have HW2:=hId (zO m.o (yQ wr g x (.bool true)))
   go_wp2_with fail
   go_roundw
   case rel=>exact⟨k+1,xs.set x true,by omega,by go_num,congrArg (Value.int .i64) K.o.symm,HS2.o,HB2.o,HW2.o⟩
   case measure=>simp[intOf];omega
  have h2':st<=(x:Int):=by omega
  have N:Hid (zBk w g (yV st gs (-1) l) (.returned (.bool false)) wr):=⟨false,rfl,zO j.o m.o,by have:=HT.o;rw[if_neg (by omega)] at this;rw[this]⟩
  go_wp2_with fail
  go_ret
  exact N.o
 have q1:¬(k:Int)<(l.length:Int):=by omega
 have U:l.take k=l:=List.take_of_length_le (by omega)
 rw[U] at HS;have N:Hid (zBk w g (yV st gs (-1) l) (.returned (.bool true)) wr):=⟨true,rfl,zO j.o m.o,by rw[HS.o];exact⟨rfl,HB.o⟩⟩
 clear U;generalize (if k=0 then(-1:Int) else l.getD (k-1) 0)=last at *
 go_wp2_with fail
 go_ret
 exact N.o
def rR (w:World) (o:Option Au) (e:Ending) (w':World):Prop:=Below w w w'/\match o with
 |some a=>∃g,e=.returned (.tuple #[.agg #[.int .i64 a.st,.int .i64 a.le,.slice none 0 0,.slice (some ⟨g,0,none⟩) a.gs.length a.gs.length,.slice none 0 0],.bool true])/\w.heap.size<=g/\zU w' g a.gs/\a.fs=[]/\a.ss=[]/\(a.gs.length:Int)=a.st/\a.st<=300
 |none=>e=.returned (.tuple #[dS,.bool false])
theorem zKq {x:List UInt8} {l:List (List UInt8)} (h:zH 32 x=l) (d:l.length≠4):gG x=none:=by
 unfold gG;rw[h]
 split
 ·simp at d
 rfl
theorem zIE {x p q r s:List UInt8} (h:zH 32 x=[p,q,r,s]):gG x=if p=pR/\r=gI then(match und q,und s with
  |some n,some m=>if 1<=n/\n<=300 then some ⟨n,m,[],List.replicate n.toNat false,[]⟩ else none
  |_,_=>none) else none:=by
 unfold gG;rw[h];rfl
theorem zLG {α:Type} {l:List α} (h:l.length=4):∃p q r s,l=[p,q,r,s]:=by
 match l,h with
 |[p,q,r,s],_=>exact⟨p,q,r,s,rfl⟩
theorem zHG {q s:List UInt8} (d:∀x∈q,x≠32) (e:∀x∈s,x≠32):kM [] (q++32::s)=match und q,und s with
  |some n,some m=>some [n,m]
  |_,_=>none:=by
 unfold kM;rw[if_pos rfl,yN _ d,xF e,vQ,vQ]
 cases und q<;>cases und s<;>rfl
theorem zK8 (x:List UInt8) (w:World) (hL:xR w) (hx:x.length<=99999):Calls Tryz.prog 135 #[.string (sB x)] w (rR w (gG x)):=by
 have hb0:Below w w (w.alloc (.cells #[(0:Int),(0:Int),(),(),()] 31)):=bLa
 have HL0:=hId (hL.below hb0 nLe);have HB0:=hId hb0;clear hL
 go_enter Tryz.func135,Tryz.ntmps135
 go_upto_region 1 with fail
 obtain⟨V,hV⟩:∃V,V=w.heap.size:=⟨_,rfl⟩
 have hobj:(w.alloc (.cells #[(0:Int),(0:Int),(),(),()] 31)).heap[w.heap.size]?=some (.cells #[(0:Int),(0:Int),(),(),()] 31 (0,0)):=by
  show(w.heap.push _)[w.heap.size]?=_
  simp
 clear hb0;generalize w.alloc (.cells #[(0:Int),(0:Int),(),(),()] 31)=W0 at *;rw[<-hV] at hobj ⊢;have HV:=hId hV;have hVl:V<W0.heap.size:=(gLt hobj)
 have u:Hid (∀ W,Below W0 W0 W->W.heap[V]?=some (.cells #[(0:Int),(0:Int),(),(),()] 31 (0,0))):=fun W h=>(h.block V hVl).trans hobj
 clear hV hobj;have HSP:Hid (Calls Tryz.prog 161 #[.string (sB x),.string ⟨#[32]⟩] W0 _):=zEI x 32 W0 HL0.o (by omega)
 have hsl:=bM 32 x;obtain⟨l,hl⟩:∃l,l=zH 32 x:=⟨_,rfl⟩;have HNO:Hid (∀ z∈l,∀y∈z,y≠32):=by rw[hl];exact iP _ x nLe
 have HPL:Hid (∀ z∈l,z.length<=99999):=fun z hz=>by rw[hl] at hz;have:=gV 32 _ x nLe z hz;omega
 rw[<-hl] at HSP hsl;have HSL:=hId hl.symm;clear hl
 go_wp2_with fail
 refine HSP.o.mono ?_;rintro e U ⟨rfl,hrd,hb1⟩;have HRD:=hId hrd;have i:=hId hb1;obtain⟨g,hg⟩:∃g,g=W0.heap.size:=⟨_,rfl⟩;rw[<-hg] at HRD ⊢;clear hrd hb1 HSP hg
 have K:Hid (∀ W,Below W0 W0 W->Below w w W):=fun W h=>zA HB0.o h HB0.o.size
 by_cases h4:l.length=4
 ·obtain⟨p,q,r,s,rfl⟩:=zLG h4
  have HH:=hId (zIE HSL.o);have HQ:=hId (HNO.o q (by simp))
  have HS:=hId (HNO.o s (by simp))
  have hql:=HPL.o q (by simp)
  have hsl2:=HPL.o s (by simp)
  have HR:Hid (∀ W,Below U U W->W.cell? ⟨g,0,none⟩=some (.string (sB p))/\W.cell? ⟨g,1,none⟩=some (.string (sB q))/\W.cell? ⟨g,2,none⟩=some (.string (sB r))/\W.cell? ⟨g,3,none⟩=some (.string (sB s))):=fun W h=>by
   have hh:=HRD.o.below h
   have at_:∀(k:Nat) (hk:k<4),W.cell? ⟨g,k,none⟩=some (.string (sB ([p,q,r,s][k]'hk))):=fun k hk=>by
    obtain⟨b,o,hbo,_,y⟩:=hh.at_ (k:=k) hk;obtain⟨rfl,rfl⟩:b=g/\o=0:=by simp at hbo;exact⟨hbo.1.symm,hbo.2.symm⟩
    rwa[Nat.zero_add] at y
   exact⟨at_ 0 (by decide),at_ 1 (by decide),at_ 2 (by decide),at_ 3 (by decide)⟩
  obtain⟨y0,y1,y2,y3⟩:=HR.o U bRf;obtain⟨a0,a1,a2,a3,a4,f0,f1,f2,f3,f4⟩:=zZ (u.o U i.o)
  by_cases hp:p=pR
  ·by_cases hr:r=gI
   ·have e1:((sB p).toList==[115,116,97,116,101,115])=true:=by rw[hp,vN];rfl
    have e2:((sB r).toList==[108,101,116,116,101,114,115])=true:=by rw[hr,vN];rfl
    rw[if_pos ⟨hp,hr⟩] at HH;have HNU:Hid (∀ W,Below U U W->Calls Tryz.prog 136 #[.string (sB q++⟨#[32]⟩++sB s),.string ⟨#[]⟩] W (dA W (match und q,und s with
  |some n,some m=>some [n,m]
  |_,_=>none))):=fun W h=>by
     have:=sQ [] (q++32::s) W (HL0.o.below (n:=W0.heap.size) (zA i.o h i.o.size) nLe) (by rw[List.length_append,List.length_cons];omega) (by simp) (by simp)
     rw[zHG HQ.o HS.o] at this;rw[show(⟨#[32]⟩:ByteArray)=sB [32] from rfl,zAM,zAM,show q++[32]++s=q++32::s by simp]
     exact this
    have z1:¬9223372036854775807<(sB q).size+1:=by rw[qQ];omega
    have z2:¬9223372036854775807<(sB q).size+1+(sB s).size:=by rw[qQ,qQ];omega
    clear hp hr
    go_wp2_with fail
    go_region_held3 (fun w'=>w'.cell? ⟨g,1,none⟩=some (.string (sB q))/\w'.cell? ⟨g,3,none⟩=some (.string (sB s)))
     (first|go_keep|exact⟨y1,y3⟩|exact⟨(HR.o _ HBN.o).2.1,(HR.o _ HBN.o).2.2.2⟩)
     (first
      |(go_at_call 136;refine(HNU.o _ bRf.drew).mono ?_;rintro e w2 ⟨A,c,ns,b,rfl,j,hbn,O⟩;have hcpp:=j.cap;have hlee:=j.le;have HBN:Hid (Below U U w2):=(Below.refl _ U).drew.trans hbn;clear hbn))
    clear y0 y1 y2 y3 a0 a1 a2 a3 a4 f0 f1 f2 f3 f4 z1 z2 e1 e2;have HB2:=hId (zA i.o HBN.o i.o.size);obtain⟨a0,a1,a2,a3,a4,f0,f1,f2,f3,f4⟩:=zZ (u.o w2 HB2.o)
    have hbad:(match und q,und s with|some n,some m=>if 1<=n/\n<=300 then some (⟨n,m,[],List.replicate n.toNat false,[]⟩:Au) else none|_,_=>none)=none/\b=false\/∃n m,und q=some n/\und s=some m/\ns=[n,m]/\b=true:=by
     cases hq:und q with
     |none=>rw[hq] at O;exact .inl ⟨rfl,O⟩
     |some n=>
      cases hs:und s with
      |none=>rw[hq,hs] at O;exact .inl ⟨rfl,O⟩
      |some m=>rw[hq,hs] at O;exact .inr ⟨n,m,rfl,rfl,O.1,O.2⟩
    have HINT:=hId j;clear O j
    have J:Hid (gG x=none->rR w (gG x) (.returned (.tuple #[dS,false])) (set5 w2 V (.int .i64 0) (.int .i64 0) () () ())):=fun h=>⟨zS (K.o _ HB2.o) (by rw[HV.o];exact nLe) _ _ _ _ _,by rw[h]⟩
    have d:=hId (zW (u.o w2 HB2.o) (.int .i64 0) (.int .i64 0) () () ())
    rcases hbad with⟨h0,rfl⟩|⟨n,m,hq,hs,rfl,rfl⟩
    ·have HP2:=hId (J.o (HH.o.trans h0))
     clear h0
     go_wp2_with fail
     exact bodyPost_ret (aF Tryz.results135 _ _ V rfl rfl d.o) rfl HP2.o
    rw[hq,hs] at HH;obtain⟨gb,go_,rfl,_,_,z0⟩:=zE.at_ HINT.o (k:=0) (by simp)
    obtain⟨gb',go',hgg,_,_,z1⟩:=zE.at_ HINT.o (k:=1) (by simp)
    obtain⟨rfl,rfl⟩:gb=gb'/\go_=go':=by simpa using hgg
    simp only[List.getElem_cons_zero,List.getElem_cons_succ,Nat.add_zero] at z0 z1;have HBT:=hId (fun W=>cL n 1 300 W)
    have HBV:=hId (xH n 1 300);have hce:=HINT.o.le;simp only[List.length_cons,List.length_nil,Nat.zero_add,Nat.reduceAdd] at hce ⊢;generalize btw n 1 300=bt at *;clear hq hs hgg
    go_wp2_with fail
    refine(HBT.o _).mono ?_;rintro e w3 ⟨rfl,hb3⟩;have h1:=hId (zA HB2.o hb3 HB2.o.size);clear a0 a1 a2 a3 a4 f0 f1 f2 f3 f4;obtain⟨a0,a1,a2,a3,a4,f0,f1,f2,f3,f4⟩:=zZ (u.o w3 h1.o)
    have y0:=(hb3.cell (p:=⟨gb,go_,none⟩) (World.block_lt_of_cell? _ _ z0)).trans z0
    have y1:=(hb3.cell (p:=⟨gb,go_+1,none⟩) (World.block_lt_of_cell? _ _ z1)).trans z1
    clear hb3 HBT z0 z1 J d
    cases bt with
    |false=>
     have hnn:¬(1<=n/\n<=300):=fun h=>by have:=HBV.o.2 h;cases this
     have h0:gG x=none:=HH.o.trans (if_neg hnn)
     have J:Hid (rR w (gG x) (.returned (.tuple #[dS,false])) (set5 w3 V (.int .i64 0) (.int .i64 0) () () ())):=⟨zS (K.o _ h1.o) (by rw[HV.o];exact nLe) _ _ _ _ _,by rw[h0]⟩
     have d:=hId (zW (u.o w3 h1.o) (.int .i64 0) (.int .i64 0) () () ());clear hnn h0
     go_wp2_with fail
     exact bodyPost_ret (aF Tryz.results135 _ _ V rfl rfl d.o) rfl J.o
    |true=>
     have hn:=HBV.o.1 rfl;obtain⟨N,rfl⟩:=Int.eq_ofNat_of_zero_le (show 0<=n by omega)
     have HMK:=jV (N:Int) N rfl (by omega)
     have HHS:Hid (gG x=some ⟨(N:Int),m,[],List.replicate N false,[]⟩):=by have h:=HH.o.trans (if_pos hn);rw[Int.toNat_natCast] at h;exact h
     clear HH HBV HINT HQ HS;have hVw:V<w3.heap.size:=World.block_lt_of_cell? _ _ a0;have hgw:gb<w3.heap.size:=World.block_lt_of_cell? _ _ y0
     obtain⟨w5,hw5⟩:∃w5,w5=set5 w3 V (.int .i64 (N:Int)) m () (.slice (some ⟨w3,0,none⟩) N N) ():=⟨_,rfl⟩
     have hs5:w5.heap.size=w3.heap.size:=by rw[hw5];simp[set5,World.setCell]
     have hB5:Below w w w5:=by rw[hw5];exact zS (K.o _ h1.o) (by rw[HV.o];exact nLe) _ _ _ _ _
     have hO5:w5.heap[V]?=some (.cells #[(N:Int),m,(),.slice (some ⟨w3,0,none⟩) N N,()] 31 (0,0)):=by rw[hw5];exact zW (u.o w3 h1.o) (.int .i64 (N:Int)) m () (.slice (some ⟨w3,0,none⟩) N N) ()
     have hal:Below w5 w5 (w5.alloc (.cells (madeCells #[Value.bool false] N) 4)).drew:=(bLa).drew
     have HOB5:=hId ((hal.block V (by omega)).trans hO5)
     have hG5:=zU.new w5 N;rw[hs5] at hG5
     have HPE:Hid (rR w (gG x) (.returned (.tuple #[.agg #[(N:Int),m,(),.slice (some ⟨w3,0,none⟩) N N,()],true])) (w5.alloc (.cells (madeCells #[Value.bool false] N) 4)).drew):=by
      refine⟨zA hB5 hal (by rw[hs5];exact Nat.le_trans HB0.o.size h1.o.size),?_⟩
      rw[HHS.o];exact⟨w3.heap.size,by simp,Nat.le_trans HB0.o.size (h1.o.size),hG5,rfl,rfl,by simp,hn.2⟩
     have HW5:=hId hw5;clear hs5 hB5 hO5 hal hG5 hw5
     go_wp2_with fail
     go_region
     all_goals
      go_wp2_with fail
      change bodyPost _ _ _ _ _ ((set5 w3 V (.int .i64 (N:Int)) m () (.slice (some ⟨w3,0,none⟩) N N) ()).alloc (.cells (madeCells #[Value.bool false] N) 4)).drew;rw[<-HW5.o]
      exact bodyPost_ret (aF Tryz.results135 _ _ V rfl rfl HOB5.o) rfl HPE.o
   ·have e1:((sB p).toList==[115,116,97,116,101,115])=true:=by rw[hp,vN];rfl
    have e2:((sB r).toList==[108,101,116,116,101,114,115])=false:=by rw[vN];exact beq_eq_false_iff_ne.2 hr
    have HN:Hid (gG x=none):=by show _=_;rw[HH.o,if_neg (fun h=>hr h.2)]
    clear hp hr;have d:=hId (zW (u.o U i.o) (.int .i64 0) (.int .i64 0) () () ())
    have J:Hid (rR w (gG x) (.returned (.tuple #[dS,false])) (set5 U V (.int .i64 0) (.int .i64 0) () () ())):=⟨zS (K.o _ i.o) (by rw[HV.o];exact nLe) _ _ _ _ _,by rw[HN.o]⟩
    go_wp2_with fail
    exact bodyPost_ret (aF Tryz.results135 _ _ V rfl rfl d.o) rfl J.o
  ·have e1:((sB p).toList==[115,116,97,116,101,115])=false:=by rw[vN];exact beq_eq_false_iff_ne.2 hp
   have HN:Hid (gG x=none):=by show _=_;rw[HH.o,if_neg (fun h=>hp h.1)]
   clear hp;have d:=hId (zW (u.o U i.o) (.int .i64 0) (.int .i64 0) () () ())
   have J:Hid (rR w (gG x) (.returned (.tuple #[dS,false])) (set5 U V (.int .i64 0) (.int .i64 0) () () ())):=⟨zS (K.o _ i.o) (by rw[HV.o];exact nLe) _ _ _ _ _,by rw[HN.o]⟩
   go_wp2_with fail
   exact bodyPost_ret (aF Tryz.results135 _ _ V rfl rfl d.o) rfl J.o
 have e0:((l.length:Int) !=4)=true:=by simp;omega
 obtain⟨a0,a1,a2,a3,a4,f0,f1,f2,f3,f4⟩:=zZ (u.o U i.o);have HN:=hId (zKq HSL.o h4);have d:=hId (zW (u.o U i.o) (.int .i64 0) (.int .i64 0) () () ())
 have J:Hid (rR w (gG x) (.returned (.tuple #[dS,false])) (set5 U V (.int .i64 0) (.int .i64 0) () () ())):=⟨zS (K.o _ i.o) (by rw[HV.o];exact nLe) _ _ _ _ _,by rw[HN.o]⟩
 go_wp2_with fail
 exact bodyPost_ret (aF Tryz.results135 _ _ V rfl rfl d.o) rfl J.o
structure PaM (W0:World) (G:Nat) (a:Au) (W:World):Prop where
 below:Below G W0 W
 obj:∃A ca gv sv base,W.heap[G]?=some (.cells #[a.st,a.le,.slice A a.fs.length ca,gv,.slice sv.1 a.ss.length sv.2] 31 (0,0))/\G<base/\base<=W.heap.size/\zE W (G+1) A ca a.fs/\(a.fs≠[]->∃b off,A=some ⟨b,off,none⟩/\G<b/\b<base)/\
  ((gv=.slice none 0 0/\a.gs=[])\/∃g,gv=.slice (some ⟨g,0,none⟩) a.gs.length a.gs.length/\G<g/\g<base/\zU W g a.gs)/\W.ownsRow base 80 3 (.slice sv.1 a.ss.length sv.2) a.ss.length (a.ss.flatMap Stp.cells)/\(a.ss=[]->sv=(none,0))
 gl:a.gs.length<=300
 sl:a.ss.length<=200000
theorem PaM.lt {W0:World} {G:Nat} {a:Au} {W:World} (h:PaM W0 G a W):G<W.heap.size:=by
 obtain⟨A,ca,gv,sv,base,d,_⟩:=h.obj;exact(gLt d)
theorem PaM.on {W0:World} {G:Nat} {a:Au} {W W':World} (h:PaM W0 G a W) (d:Below W W W'):PaM W0 G a W':=by
 have i:=h.lt;obtain⟨A,ca,gv,sv,base,m,s,u,J,K,j,N,O⟩:=h.obj;refine⟨zA h.below d (Nat.le_of_lt i),⟨A,ca,gv,sv,base,(d.block G i).trans m,s,Nat.le_trans u d.size,J.below d,K,?_,zD N d,O⟩,h.gl,h.sl⟩
 rcases j with j|⟨g,e,i1,i2,i3⟩
 ·exact .inl j
 exact .inr ⟨g,e,i1,i2,i3.below d i3.lt⟩
theorem PaM.new (W0:World):PaM W0 W0.heap.size qR (W0.alloc (.cells #[(0:Int),(0:Int),(),(),()] 31)):=by
 refine⟨bLa,⟨none,0,.slice none 0 0,(none,0),W0.heap.size+1,?_,by omega,by simp,pO _ _,fun h=>absurd rfl h,.inl ⟨rfl,rfl⟩,World.ownsRow_nil _ _ _ _,fun _=>rfl⟩,by simp[qR],by simp[qR]⟩
 show(W0.heap.push _)[W0.heap.size]?=_
 simp[qR]
theorem PaM.head {W0:World} {G:Nat} {a a':Au} {W W1:World} (h:PaM W0 G a W) (u:Below W W W1) {g:Nat} (N:W.heap.size<=g) (s:zU W1 g a'.gs) (i:a'.fs=[]) (m:a'.ss=[]) (j:a'.gs.length<=300):
  PaM W0 G a' (set5 W1 G a'.st a'.le () (.slice (some ⟨g,0,none⟩) a'.gs.length a'.gs.length) ()):=by
 have d:=h.on u;have J:=h.lt;obtain⟨A,ca,gv,sv,base,K,_⟩:=d.obj
 refine⟨zS d.below nLe _ _ _ _ _,⟨none,0,_,(none,0),W1.heap.size,?_,d.lt,by simp[set5,World.setCell],by rw[i];exact pO _ _,fun e=>absurd i e,.inr ⟨g,rfl,by omega,s.lt,?_⟩,by rw[m];exact World.ownsRow_nil _ _ _ _,fun _=>rfl⟩,j,by rw[m];simp⟩
 ·rw[i,m]
  exact zW K _ _ _ _ _
 unfold set5;exact((((s.set_far (by show g≠G;omega) _).set_far (by show g≠G;omega) _).set_far (by show g≠G;omega) _).set_far (by show g≠G;omega) _).set_far (by show g≠G;omega) _
theorem zE.set_far {W:World} {lo:Nat} {A:Option Addr} {c:Nat} {xs:List Int} (h:zE W lo A c xs) {G i:Nat} (U:xs≠[]->∃b off,A=some ⟨b,off,none⟩/\b≠G) (u:Value):zE (W.setCell ⟨G,i,none⟩ u) lo A c xs:=by
 refine⟨h.le,h.cap,h.max,fun m=>?_,h.fz.on h.rd fun _ _ _ _ _ _=>eU _ _ _ _⟩
 have hx:xs≠[]:=by rintro rfl;exact m rfl
 obtain⟨s,d,g,J⟩:=U hx;obtain⟨b,off,O,K,N,hc⟩:=h.rd m;obtain⟨rfl,rfl⟩:s=b/\d=off:=by rw[O] at g;simp at g;exact⟨g.1.symm,g.2.symm⟩
 refine⟨s,d,O,K,by simpa[World.setCell] using N,fun j u' hu=>?_⟩
 exact(World.cell?_setCell_other _ ⟨G,i,none⟩ ⟨s,d+j,none⟩ _ (fun e=>J (by have:=congrArg Addr.block e;simpa using this.symm))).trans (hc j u' hu)
theorem PaM.first {W0:World} {G:Nat} {a:Au} {W W1:World} (h:PaM W0 G a W) (O:a.ss=[]) (U:Below W W W1) {A:Option Addr} {c:Nat} {l:List Int} (s:zE W1 W.heap.size A c l):
  PaM W0 G {a with fs:=l} (W1.setCell ⟨G,2,none⟩ (.slice A l.length c)):=by
 have j:=h.on U;have J:=h.lt;obtain⟨A0,ca,gv,sv,base,o1,o2,o3,o4,o5,N,o7,o8⟩:=j.obj;have K:=o8 O;subst K
 refine⟨j.below.setCell (p:=⟨G,2,none⟩) nLe _,⟨A,c,gv,(none,0),W1.heap.size,mV o1 _,j.lt,by simp[World.setCell],?_,?_,?_,?_,fun _=>rfl⟩,h.gl,h.sl⟩
 ·refine zE.set_far (s.low J) (fun d=>?_) _
  obtain⟨b,off,m,u,_,_⟩:=s.rd (by cases l with|nil=>exact absurd rfl d|cons x r=>simp)
  exact⟨b,off,m,by omega⟩
 ·intro d
  obtain⟨b,off,m,u,i,_⟩:=s.rd (by cases l with|nil=>exact absurd rfl d|cons x r=>simp)
  exact⟨b,off,m,by omega,i⟩
 ·rcases N with N|⟨g,e,i1,i2,i3⟩
  ·exact .inl N
  exact .inr ⟨g,e,i1,i3.lt,i3.set_far (by show g≠G;omega) _⟩
 show World.ownsRow _ _ _ _ _ _ _;simp only[O];exact World.ownsRow_nil _ _ _ _
theorem PaM.good {W0:World} {G:Nat} {a:Au} {W W1:World} {g:Nat} {gs:List Bool} (h:PaM W0 G a W) (hG:G<g) (d:W.grownBy W1 (some g)) (hr:zU W1 g gs) (J:gs.length=a.gs.length)
  (i:∃A ca sv,W.heap[G]?=some (.cells #[a.st,a.le,.slice A a.fs.length ca,.slice (some ⟨g,0,none⟩) a.gs.length a.gs.length,sv] 31 (0,0))) (m:zU W g a.gs):PaM W0 G {a with gs:=gs} W1:=by
 have j:=h.lt;obtain⟨O,ca,gv,sv,base,K,o2,o3,o4,o5,o6,N,o8⟩:=h.obj;obtain⟨A',U,sv',s⟩:=i;rw[K] at s
 simp at s
 obtain⟨⟨_,_⟩,i,_⟩:=s;subst i
 have u:g<base:=by
  rcases o6 with⟨e,_⟩|⟨g',e,_,i2,_⟩
  ·cases e
  simp at e;omega
 refine⟨?_,⟨O,ca,_,sv,base,?_,o2,Nat.le_trans o3 d.size,o4.grown_bool m d,o5,.inr ⟨g,rfl,hG,u,hr⟩,?_,o8⟩,by simp[J];exact h.gl,h.sl⟩
 ·exact h.below.grown d (Nat.le_of_lt j) (fun k hk=>by simp at hk;omega)
 ·simp only[J]
  exact(d.block G j (by simp;omega)).trans K
 exact World.ownsRow.kept N d (.inr (fun e=>by have:=(N.lt g e).1;omega))
theorem PaM.step {W0:World} {G:Nat} {a:Au} {W:World} (h:PaM W0 G a W) (s:Stp) (hsl:a.ss.length<200000):∃A ca gv T c,W.heap[G]?=some (.cells #[a.st,a.le,.slice A a.fs.length ca,gv,.slice T a.ss.length c] 31 (0,0))/\a.ss.length<=c/\c<=9223372036854775807/\
  ∃J K m,(Builtin.append_ #[29,29] 29 #[.slice T a.ss.length c,.slice (some ⟨W,0,none⟩) 1 1]).run Tryz.prog (W.alloc (.cells #[s.f,s.l,s.t] 80))=.ok (.slice J (a.ss.length+1) K) m/\
   m.cell? ⟨G,4,none⟩=some (.slice T a.ss.length c)/\m.frozen? ⟨G,4,none⟩=false/\(W.alloc (.cells #[s.f,s.l,s.t] 80)).grownBy m (Value.slice T a.ss.length c).ownBlock/\(∀ k,(Value.slice T a.ss.length c).ownBlock=some k->k<W.heap.size)/\PaM W0 G {a with ss:=a.ss++[s]} (m.setCell ⟨G,4,none⟩ (.slice J (a.ss.length+1) K)):=by
 obtain⟨i0,hi0,hz0,hz1,hz2⟩:=info_parts rN;have hlt:=h.lt;obtain⟨A,ca,gv,sv,base,o1,o2,o3,o4,o5,o6,o7,o8⟩:=h.obj
 have hb:Below W W (W.alloc (.cells #[s.f,s.l,s.t] 80)):=bLa
 obtain⟨A1,c1,e1,hc1,hc2,_⟩:=zF o7;obtain⟨rfl,rfl⟩:sv.1=A1/\sv.2=c1:=by simpa using e1
 obtain⟨v3,m,hr,U,hg,_⟩:=jC (P:=Tryz.prog) (W.alloc (.cells #[s.f,s.l,s.t] 80)) base 29 29 80 i0 _ 3 24 Tryz.underlying29 hi0 hz0 hz1 hz2 rfl (by decide) _ a.ss.length _ (zD o7 hb) (some ⟨W,0,none⟩) 1 1 [.int .i64 s.f,.int .i64 s.l,.int .i64 s.t] rfl
  (Rd.new W #[s.f,s.l,s.t] 80) (by simp[Value.oneCell']) (by simp only[maxLen];omega) (by omega) (by simp;omega)
 obtain⟨J,K,rfl,_,_,_⟩:=zF U;have o1':=(hb.block G hlt).trans o1;have hne:some G≠(Value.slice sv.1 a.ss.length sv.2).ownBlock:=rE o7 o2;have hG3:m.heap[G]?=_:=(hg.block G (by simp;omega) hne).trans o1'
 obtain⟨_,_,_,_,q4,_,_,_,_,f4⟩:=zZ hG3;have N:(a.ss++[s]).length=a.ss.length+1:=by simp
 have kg:∀g,g<base->(m.setCell ⟨G,4,none⟩ (.slice J (a.ss.length+1) K)).heap[g]?=W.heap[g]?\/g=G:=fun g hgb=>by
  by_cases hgG:g=G
  ·exact .inr hgG
  left
  rw[Below.heap_setCell _ ⟨G,4,none⟩ _ _ hgG,hg.block g (by simp;omega) (fun e=>by have:=(o7.lt g e.symm).1;omega)]
  exact hb.block g (by omega)
 refine⟨A,ca,gv,sv.1,sv.2,o1,hc1,hc2,J,K,m,hr,q4,f4,hg,fun k hk=>(o7.lt k hk).2,⟨?_,⟨A,ca,gv,(J,K),base,?_,o2,?_,?_,o5,?_,?_,fun e=>by simp at e⟩,h.gl,by rw[N];omega⟩⟩
 ·exact(((h.below.trans (hb.mono (Nat.le_of_lt hlt))).grown hg (by simp;omega) (fun k hk=>by have:=(o7.lt k hk).1;omega))).setCell (p:=⟨G,4,none⟩) nLe _
 ·simp only[N]
  exact wR hG3 _
 ·have:=hg.size
  simp[World.setCell] at this ⊢
  omega
 ·have hfz:Fz (m.setCell ⟨G,4,none⟩ (.slice J (a.ss.length+1) K)) (G+1) A (a.fs.flatMap (fun n:Int=>[Value.int .i64 n])).length:=by
   by_cases hx:a.fs=[]
   ·rw[hx];exact Fz.nil
   obtain⟨b',i,d,hb1,hb2⟩:=o5 hx;refine o4.fz.on o4.rd fun b off hA hlo hlt2 j=>?_
   obtain⟨rfl,rfl⟩:b'=b/\i=off:=by rw[hA] at d;simp at d;exact⟨d.1.symm,d.2.symm⟩
   rcases kg b' hb2 with hk|hk
   ·exact World.frozen?_of_block (w:=W) hk
   omega
  refine⟨o4.le,o4.cap,o4.max,fun O=>?_,hfz⟩
  have hx:a.fs≠[]:=fun e=>O (by rw[e];rfl)
  obtain⟨b',i,d,hb1,hb2⟩:=o5 hx;obtain⟨b,off,hA,hlo,hlt2,hc⟩:=o4.rd O;obtain⟨rfl,rfl⟩:b'=b/\i=off:=by rw[hA] at d;simp at d;exact⟨d.1.symm,d.2.symm⟩
  refine⟨b',i,hA,hlo,by have:=hg.size;simp[World.setCell] at this ⊢;omega,fun j u hu=>?_⟩
  rcases kg b' hb2 with hk|hk
  ·exact(World.cell?_of_block (w:=W) (a:=⟨b',i+j,none⟩) hk).trans (hc j u hu)
  omega
 ·rcases o6 with o6|⟨g,e,i1,i2,i3⟩
  ·exact .inl o6
  refine .inr ⟨g,e,i1,i2,?_⟩
  rcases kg g i2 with hk|hk
  ·exact hk.trans i3
  omega
 have hown':m.ownsRow base 80 3 (.slice J (a.ss++[s]).length K) (a.ss++[s]).length ((a.ss++[s]).flatMap Stp.cells):=by
  rw[N,show(a.ss++[s]).flatMap Stp.cells=a.ss.flatMap Stp.cells++[.int .i64 s.f,.int .i64 s.l,.int .i64 s.t] by simp[Stp.cells]]
  exact U
 have:=ownsRow_setCell_below hown' (a:=⟨G,4,none⟩) o2 (.slice J (a.ss.length+1) K);show World.ownsRow _ _ _ _ _ _ _;rw[N] at this ⊢;exact this
end
end Go.Proofs.YtoglgeaiiipchaaGreatDoor

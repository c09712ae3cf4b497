import Derived.Test.YtoglgeaiiipchaaGreatDoorLRY18
import Derived.Laws.CopyOwn
import Derived.Laws.MathBits
import Derived.Laws.BitsAllLaws
import Derived.StillTailTactics
set_option linter.unusedSimpArgs false
set_option linter.unusedVariables false
set_option maxRecDepth 100000
set_option maxHeartbeats 8000000
namespace Go.Proofs.YtoglgeaiiipchaaGreatDoor
section
open Go Go.RowKit Go.Maps Go.Shelf Go.Sort
def zAY (f:List Nd) (w:World) (e:Ending) (w':World):Prop:=∃r A B C ca cb cc,(ckF f=0->zD5 f r)/\(ckF f≠0->r.st=0)/\e=.returned (.tuple #[.agg #[r.st,r.le,.slice A r.fs.length ca,.slice B r.gs.length cb,.slice C r.ss.length cc],(ckF f)])/\zM w' w.heap.size r A B C ca cb cc/\Below w w w'
theorem iM (f:List Nd) (FA:Option Addr) (fc:Nat) (w:World) (hN:Nds w 0 FA fc f):
  Calls Tryz.prog 26 #[.slice FA f.length fc] w (zAY f w):=by
 have hz:Below w w (w.alloc (.cells #[(0:Int),(0:Int),(),(),()] 31)):=bLa
 have j:Hid ((w.alloc (.cells #[(0:Int),(0:Int),(),(),()] 31)).heap[w.heap.size]?=some (.cells #[(0:Int),(0:Int),(),(),()] 31 (0,0))):=World.alloc_heap_new _ _
 have J:=hId (hN.below hz);have u:=hId hz;clear hN hz
 go_enter Tryz.func26,Tryz.ntmps26
 go_upto_region 1 with fail
 obtain⟨s,K⟩:∃s,s=w.heap.size:=⟨_,rfl⟩;rw[<-K] at j ⊢;have HRR:=hId K;clear K;generalize w.alloc (.cells #[(0:Int),(0:Int),(),(),()] 31)=W1 at *
 have U:=hId (jW FA fc f W1 J.o)
 go_wp2_with fail
 refine U.o.mono ?_;rintro e w2 ⟨rfl,m⟩;have i:=hId (zA u.o m u.o.size);have HN2:=hId (J.o.below m);have g:=hId ((m.block s (gLt j.o)).trans j.o);clear m U j u J
 by_cases h0:ckF f=0
 ·have O:=hId h0
  have HRW:=hId (zL6 f (cM.1 h0) FA fc w2 HN2.o);rw[h0];clear h0
  go_wp2_with fail
  refine HRW.o.mono ?_;rintro e w3 ⟨r,A,B,C,ca,cb,cc,hS,rfl,hrd,N⟩;have HZ3:=hId ((N.block s (gLt g.o)).trans g.o);obtain⟨r0,r1,r2,r3,r4,s0,s1,s2,s3,s4⟩:=zZ HZ3.o
  have HP:Hid (zAY f w (.returned (.tuple #[.agg #[r.st,r.le,.slice A r.fs.length ca,.slice B r.gs.length cb,.slice C r.ss.length cc],(0:Int)])) (set5 w3 s r.st r.le (.slice A r.fs.length ca) (.slice B r.gs.length cb) (.slice C r.ss.length cc))):=
   ⟨r,A,B,C,ca,cb,cc,fun _=>hS,fun h=>absurd O.o h,by rw[O.o],(hrd.set5_ (gLt g.o) _ _ _ _ _).low i.o.size,zS (zA i.o N i.o.size) (by rw[HRR.o];exact nLe) _ _ _ _ _⟩
  have d:=hId (zW HZ3.o r.st r.le (.slice A r.fs.length ca) (.slice B r.gs.length cb) (.slice C r.ss.length cc));unfold set5 at HP d;clear hS hrd N
  go_wp2_with fail
  exact bodyPost_ret (pX Tryz.results26 _ _ s rfl rfl d.o) rfl HP.o
 have h1:(ckF f !=0)=true:=by simp[h0]
 obtain⟨r0,r1,r2,r3,r4,s0,s1,s2,s3,s4⟩:=zZ g.o
 have HP:Hid (zAY f w (.returned (.tuple #[.agg #[(0:Int),(0:Int),(),(),()],(ckF f)])) (set5 w2 s (.int .i64 0) (.int .i64 0) () () ())):=
  ⟨⟨0,0,[],[],[]⟩,none,none,none,0,0,0,fun h=>absurd h h0,fun _=>rfl,rfl,⟨⟨nLe,by omega,by simp,Rd.nil,Fz.no⟩,⟨nLe,by omega,by simp,Rd.nil,Fz.no⟩,⟨nLe,by omega,by simp,Rd.nil,Fz.no⟩⟩,zS i.o (by rw[HRR.o];exact nLe) _ _ _ _ _⟩
 have d:=hId (zW g.o (.int .i64 0) (.int .i64 0) () () ());unfold set5 at HP d;clear h0;generalize ckF f=ck at *
 go_wp2_with fail
 exact bodyPost_ret (pX Tryz.results26 _ _ s rfl rfl d.o) rfl HP.o
end
section
open Go Go.RowKit
theorem zFm (n:Nat) (w:World) (m:n<4294967296):
  Calls Tryz.prog 124 #[.int .u64 1,.int .u64 n] w fun e w'=>e=.returned (.tuple #[.int .u64 0,.int .u64 n])/\w=w':=by
 have d:bits .and .u64 1 4294967295=1:=by rw[and_low32 _ (by omega) (by omega)];rfl
 have g:bits .and .u64 (n:Int) 4294967295=n:=by rw[and_low32 _ (by omega) (by omega)];omega
 have h:(n:Int)/4294967296=0:=by omega
 have i:bits .and .u64 0 4294967295=0:=by rw[and_low32 _ (by omega) (by omega)];rfl
 have j:IntKind.u64.wrap (n:Int)=n:=by rw[IntKind.wrap_u64];omega
 go_enter Tryz.func124,Tryz.ntmps124
 go_wp2
 go_ret2
 simp[d,g,h,i,j]
theorem zHF (n m:Nat) (b:Bool) (k:Nat) (d:k<=m) (e:m+k<=n):
  splice (List.replicate m (Value.bool b)++List.replicate (n-m) (Value.bool false)) m (List.replicate k (Value.bool b))=List.replicate (m+k) (Value.bool b)++List.replicate (n-(m+k)) (Value.bool false):=by
 unfold splice;rw[List.take_left' (by simp),List.drop_append,List.drop_eq_nil_of_le (by simp)]
 simp[List.replicate_append_replicate,<-List.append_assoc]
 omega
theorem zHY (n:Nat) (b:Bool) (h:1<=n):splice (List.replicate n (Value.bool false)) 0 [Value.bool b]=List.replicate 1 (Value.bool b)++List.replicate (n-1) (Value.bool false):=by
 unfold splice
 simp
theorem zHn:(Tryz.prog.info? 4).map (·.size)=some 1:=by kernel_rfl
def zDb (b:Bool) (n:Nat) (t:TypeId) (g m:Nat) (w:World):Prop:=
 w.heap[g]?=some (.cells (List.replicate m (Value.bool b)++List.replicate (n-m) (Value.bool false)).toArray t (0,0))
theorem zGc (b:Bool) (B:Nat) (off c n:Nat) (w:World) (hx:w.cell? ⟨B,off,none⟩=some (.bool b)) (hB:B<w.heap.size) (h1:1<=n) (h2:n<=1000000):
  Calls Tryz.prog 77 #[.slice (some ⟨B,off,none⟩) 1 c,n] w fun e w'=>∃g,e=.returned (.slice (some ⟨g,0,none⟩) n n)/\w.heap.size<=g/\
   w'.heap[g]?=some (.cells (List.replicate n (Value.bool b)).toArray 4 (0,0))/\Below w w w':=by
 obtain⟨i0,hi,hz0,hz1,ha⟩:=info_parts fV;have e5:IntKind.u64.wrap (n:Int)=n:=by rw[IntKind.wrap_u64];omega
 have hn:=run_make (P:=Tryz.prog) w 28 4 i0 _ Tryz.underlying28 hi hz0 .i64 .i64 n n (by omega) (by omega) (by rw[ha];omega) (by omega)
 simp only[Int.toNat_natCast] at hn
 go_enter Tryz.func77,Tryz.ntmps77
 go_wp2_with fail
 refine(zFm n _ (by omega)).mono ?_
 rintro e w' ⟨rfl,rfl⟩
 have h0:(w.alloc (.cells (madeCells #[Value.bool false] n) 4)).heap[w.heap.size]?=some (.cells (List.replicate n (Value.bool false)).toArray 4 (0,0)):=by
  rw[heap_alloc_new];rw[<-toList_madeCells_one]
 have U:Below w w (w.alloc (.cells (madeCells #[Value.bool false] n) 4)):=bLa
 have O:=hId h0;have N:=hId U;clear h0 U
 go_wp2_with (with_reducible refine wpList_copy_splice rfl (.tmp 31) (.tmp 32) 28 28 rfl 4 Tryz.underlying28 (by kernel_rfl) _ _ _ _ _ _ rfl rfl w.heap.size 0 _ _ O.o [Value.bool b] (by simp[Nat.min_def];omega) ?hp (by simp;omega) (by simp[Value.oneCell']) w.heap.size w N.o nLe ?_)
 case hp=>
  intro j v s
  match j,s with
  |0,s=>simp at s;subst s;simpa using hx
  |j+1,s=>simp at s
 intro w2 J K;have hd:=hId K
 have ha:w.heap.size<w2.heap.size:=by
  have:=K.size
  rcases Nat.lt_or_ge w.heap.size w2.heap.size with h|h
  ·exact h
  have h3:=J.out;rw[Array.getElem?_eq_none h] at h3;cases h3
 rw[zHY n b h1] at J;clear K O N
 go_wp2
 go_loopw [8] (fun i wr=>∃m:Nat,1<=m/\m<=n/\i=.int .i64 m/\zDb b n 4 w.heap.size m wr/\Below w w wr) (fun i _=>n-(intOf i).toNat)
 case atStart=>exact⟨1,by omega,h1,rfl,J.out,hd.o⟩
 obtain⟨m,hm1,hm2,rfl,d,hb⟩:=hrel
 by_cases hlt:m<n
 ·obtain⟨k,hk1,hl,hm,h4⟩:∃k,1<=k/\k<=m/\m+k<=n/\k=Nat.min m (n-m):=⟨Nat.min m (n-m),by simp[Nat.min_def];split<;>omega,by simp[Nat.min_def];split<;>omega,by simp[Nat.min_def];split<;>omega,rfl⟩
  have HK:=hId h4;clear h4;have HR:=hId d;clear d;have h6:(List.replicate k (Value.bool b)).length=Nat.min m (n-m):=by simpa using HK.o
  have h7:m+(List.replicate k (Value.bool b)).length<=(List.replicate m (Value.bool b)++List.replicate (n-m) (Value.bool false)).length:=by simp;omega
  have h8:∀v∈List.replicate k (Value.bool b),v.oneCell'=true:=by intro v hv;rw[(List.mem_replicate.1 hv).2];rfl
  have h9:∀j v,(List.replicate k (Value.bool b))[j]?=some v->wr.cell? ((⟨w,0,none⟩:Addr).add j)=some v:=by
   intro j v s;have hk:j<k:=by simpa using(List.getElem?_eq_some_iff.1 s).1
   have hv:v=.bool b:=by rw[List.getElem?_replicate,if_pos hk] at s;exact(Option.some.inj s).symm
   have h:=HR.o;unfold zDb at h
   have hx2:(List.replicate m (Value.bool b)++List.replicate (n-m) (Value.bool false))[j]?=some (Value.bool b):=by
    rw[List.getElem?_append_left (by simp;omega),List.getElem?_replicate,if_pos (by omega)]
   rw[qI,Nat.zero_add,hv];simp only[World.cell?,h,Option.isSome_none,Bool.false_eq_true,if_false,List.getElem?_toArray];exact hx2
  have h5:wr.drew.heap[w.heap.size]?=some (.cells (List.replicate m (Value.bool b)++List.replicate (n-m) (Value.bool false)).toArray 4 (0,0)):=HR.o
  have hf:=hId h5;clear h5;have he:=hId hb.drew;have H1:=hId h6;have H2:=hId h7;have H3:=hId h8
  have u:∀j v,(List.replicate k (Value.bool b))[j]?=some v->wr.drew.cell? ((⟨w,0,none⟩:Addr).add j)=some v:=h9
  have hc:=hId u;clear h6 h7 h8 h9 u
  go_wp2
  have hnm:¬n=m:=by omega
  go_region_law ((refine step_copy_splice (P:=Tryz.prog) (w:=wr.drew) rfl (.tmp 41) (.tmp 44) 28 28 rfl 4 Tryz.underlying28 zHn (some ⟨w.heap.size,m,none⟩) (some ⟨w,0,none⟩) (n-m) (n-m) m n (by go_simp) (by go_simp) w.heap.size m (List.replicate m (Value.bool b)++List.replicate (n-m) (Value.bool false)) 4 hf.o (List.replicate k (Value.bool b)) H1.o (fun _=>⟨rfl,_,rfl,hc.o⟩) H2.o H3.o w.heap.size w he.o nLe ?_;intro w4 hh hg))
  have ew:IntKind.i64.wrap ((m:Int)+(k:Int))=(m:Int)+(k:Int):=by rw[IntKind.wrap_i64];omega
  go_simp
  clear ew
  go_wp2
  go_roundw
  case rel=>
   refine⟨m+k,by omega,by omega,by go_num,?_,hg⟩
   have h:=hh.out;rw[zHF n m b k hl hm] at h;exact h
  case measure=>simp[intOf];omega
 go_wp2
 go_ret
 obtain rfl:m=n:=by omega
 refine⟨_,rfl,nLe,?_,hb⟩;have:=d;unfold zDb at this
 simpa using this
end
section
open Go Go.RowKit Go.Shelf
def gD (w:World) (R:Nat) (A:Option Addr) (n c h:Nat):Prop:=
 w.cell? ⟨R,0,none⟩=some (.slice A n c)/\w.cell? ⟨R,1,none⟩=some (.int .i64 h)/\R<w.heap.size
theorem gD.below {w w':World} {R:Nat} {A:Option Addr} {n c h:Nat} (e:gD w R A n c h) {B:Nat} (d:Below B w w') (g:R<B):gD w' R A n c h:=
 ⟨(d.cell (p:=⟨R,0,none⟩) g).trans e.1,(d.cell (p:=⟨R,1,none⟩) g).trans e.2.1,Nat.lt_of_lt_of_le e.2.2 d.size⟩
theorem zGU (R:Nat) (A:Option Addr) (n c h i:Nat) (w:World) (j:gD w R A n c h) (J:i<n) (K:n<=1000000):
  Calls Tryz.prog 120 #[(⟨R,0,none⟩:Addr),i] w fun e w'=>e=.returned (nx n h i:Nat)/\w'=w:=by
 obtain⟨m,s,u⟩:=j
 by_cases he:i+1=n
 ·have g:(((i:Int)+1)==(n:Int))=true:=by simp;omega
  have d:=hId (show nx n h i=h by unfold nx;rw[if_pos he])
  clear he
  go_enter Tryz.func120,Tryz.ntmps120
  go_wp2
  go_ret
  exact⟨zJ (by rw[d.o];try(first|rfl|(push_cast;rfl))),rfl⟩
 have g:(((i:Int)+1)==(n:Int))=false:=by simp;omega
 have d:=hId (show nx n h i=i+1 by unfold nx;rw[if_neg he])
 clear he
 go_enter Tryz.func120,Tryz.ntmps120
 go_wp2
 go_ret
 exact⟨zJ (by rw[d.o];try(first|rfl|(push_cast;rfl))),rfl⟩
def DoV (P:Program) (g:FuncId) (caps:Array Value) (n:Nat) (D:Nat->Bool->Bool) (w:World):Prop:=
 ∀(i:Nat) (nb:Bool) (W:World),i<n->Below w w W->Calls P g (#[.int .i64 i,.bool nb]++caps) W fun e W'=>e=.returned (.bool (D i nb))/\Below W W W'
theorem DoV.below {P:Program} {g:FuncId} {d:Array Value} {n:Nat} {D:Nat->Bool->Bool} {w w':World} (h:DoV P g d n D w) (e:Below w w w'):DoV P g d n D w':=
 fun i s W m j=>h i s W m (e.trans (j.mono e.size))
def tI (w:World) (B:Nat) (xs:List Bool):Prop:=∃A c,w.cell? ⟨B,0,none⟩=some (.slice A xs.length c)/\xG w 0 A c xs/\B<w.heap.size
theorem tI.below {w w':World} {B:Nat} {xs:List Bool} (h:tI w B xs) (d:Below w w w'):tI w' B xs:=by
 obtain⟨A,c,g,i,e⟩:=h;exact⟨A,c,(d.cell (p:=⟨B,0,none⟩) e).trans g,i.below d,Nat.lt_of_lt_of_le e d.size⟩
theorem zLN (B n:Nat) (xs:List Bool) (w:World) (u:tI w B xs) (hl:xs.length=n):
  DoV Tryz.prog 116 #[(⟨B,0,none⟩:Addr)] n (fun i _=>!xs.getD i false) w:=by
 intro i nb W U j;have e:i<xs.length:=by omega
 obtain⟨A,c,J,d,K⟩:=u.below j;have m:=d.cap;have s:=d.le;obtain⟨b,o,rfl,_,N,O⟩:=xG.at_ d (k:=i) (by omega)
 have g:xs.getD i false=xs[i]:=by simp[e]
 have h:=hId g;clear g;simp only[List.append_toArray,List.cons_append,List.nil_append]
 go_enter Tryz.func116,Tryz.ntmps116
 go_wp2
 go_ret
 exact⟨yJ (by rw[h.o]),bRf⟩
theorem zLU (B C n:Nat) (xs ys:List Bool) (w:World) (J:tI w B xs) (K:tI w C ys) (hl:xs.length=n) (hm:ys.length=n):
  DoV Tryz.prog 117 #[(⟨B,0,none⟩:Addr),(⟨C,0,none⟩:Addr)] n (fun i _=>xs.getD i false&&ys.getD i false) w:=by
 intro i nb W hi m;have e:i<xs.length:=by omega
 obtain⟨A,c,h1,h,h3⟩:=J.below m;have d:i<ys.length:=by omega
 obtain⟨A',c',k1,j,k3⟩:=K.below m;clear J K hl hm;have h0:=h.cap;have hle:=h.le;have s:=j.cap;have u:=j.le;obtain⟨b,o,rfl,_,hb,hc⟩:=xG.at_ h (k:=i) e;obtain⟨b',o',rfl,_,O,U⟩:=xG.at_ j (k:=i) d
 have N:=hId (show xs.getD i false=xs[i] by simp[e])
 have g:=hId (show ys.getD i false=ys[i] by simp[d])
 simp only[List.append_toArray,List.cons_append,List.nil_append]
 go_enter Tryz.func117,Tryz.ntmps117
 go_wp2
 all_goals(go_ret;refine⟨yJ ?_,bRf⟩;rw[N.o,g.o];simp[*])
theorem zL0 (B C n:Nat) (xs ys:List Bool) (w:World) (J:tI w B xs) (K:tI w C ys) (hl:xs.length=n) (hm:ys.length=n):
  DoV Tryz.prog 118 #[(⟨B,0,none⟩:Addr),(⟨C,0,none⟩:Addr)] n (fun i _=>xs.getD i false||ys.getD i false) w:=by
 intro i nb W hi m;have e:i<xs.length:=by omega
 obtain⟨A,c,h1,h,h3⟩:=J.below m;have d:i<ys.length:=by omega
 obtain⟨A',c',k1,j,k3⟩:=K.below m;clear J K hl hm;have h0:=h.cap;have hle:=h.le;have s:=j.cap;have u:=j.le;obtain⟨b,o,rfl,_,hb,hc⟩:=xG.at_ h (k:=i) e;obtain⟨b',o',rfl,_,O,U⟩:=xG.at_ j (k:=i) d
 have N:=hId (show xs.getD i false=xs[i] by simp[e])
 have g:=hId (show ys.getD i false=ys[i] by simp[d])
 simp only[List.append_toArray,List.cons_append,List.nil_append]
 go_enter Tryz.func118,Tryz.ntmps118
 go_wp2
 all_goals(go_ret;refine⟨yJ ?_,bRf⟩;rw[N.o,g.o];simp[*])
theorem zL3 (B C n:Nat) (xs ys:List Bool) (w:World) (J:tI w B xs) (K:tI w C ys) (hl:xs.length=n) (hm:ys.length=n):
  DoV Tryz.prog 121 #[(⟨C,0,none⟩:Addr),(⟨B,0,none⟩:Addr)] n (fun i N=>ys.getD i false||xs.getD i false&&N) w:=by
 intro i N W hi m;have e:i<xs.length:=by omega
 obtain⟨A,c,h1,h,h3⟩:=J.below m;have d:i<ys.length:=by omega
 obtain⟨A',c',k1,j,k3⟩:=K.below m;clear J K hl hm;have h4:=h.cap;have hle:=h.le;have s:=j.cap;have u:=j.le;obtain⟨b,o,rfl,_,hb,hc⟩:=xG.at_ h (k:=i) e;obtain⟨b',o',rfl,_,U,h0⟩:=xG.at_ j (k:=i) d
 have O:=hId (show xs.getD i false=xs[i] by simp[e])
 have g:=hId (show ys.getD i false=ys[i] by simp[d])
 simp only[List.append_toArray,List.cons_append,List.nil_append]
 go_enter Tryz.func121,Tryz.ntmps121
 go_wp2
 all_goals(go_ret;refine⟨yJ ?_,bRf⟩;rw[O.o,g.o];simp[*])
theorem zLB (B C n:Nat) (xs ys:List Bool) (w:World) (J:tI w B xs) (K:tI w C ys) (hl:xs.length=n) (hm:ys.length=n):
  DoV Tryz.prog 122 #[(⟨C,0,none⟩:Addr),(⟨B,0,none⟩:Addr)] n (fun i nb=>ys.getD i false&&(xs.getD i false||nb)) w:=by
 intro i nb W hi m;have e:i<xs.length:=by omega
 obtain⟨A,c,h1,h,h3⟩:=J.below m;have d:i<ys.length:=by omega
 obtain⟨A',c',k1,j,k3⟩:=K.below m;clear J K hl hm;have h0:=h.cap;have hle:=h.le;have s:=j.cap;have u:=j.le;obtain⟨b,o,rfl,_,hb,hc⟩:=xG.at_ h (k:=i) e;obtain⟨b',o',rfl,_,O,U⟩:=xG.at_ j (k:=i) d
 have N:=hId (show xs.getD i false=xs[i] by simp[e])
 have g:=hId (show ys.getD i false=ys[i] by simp[d])
 simp only[List.append_toArray,List.cons_append,List.nil_append]
 go_enter Tryz.func122,Tryz.ntmps122
 go_wp2
 all_goals(go_ret;refine⟨yJ ?_,bRf⟩;rw[N.o,g.o];simp[*])
theorem zLI (n:Nat) (w:World):DoV Tryz.prog 123 #[] n (fun _ _=>true) w:=by
 intro i g W e d;simp only[List.append_toArray,List.append_nil]
 go_enter Tryz.func123,Tryz.ntmps123
 go_wp2
 go_ret
 exact⟨rfl,bRf⟩
def zJ7:Value->Nat| .bool true=>1|_=>0
theorem eF {s:Bool} {g:Nat} {w:World} {xs:List Bool} (h:zU w g xs):zAy s g w=zBy s xs:=zFu h
def zHD (w:World) (n h:Nat) (D:Nat->Bool->Bool) (s:Bool) (e:Ending) (w':World):Prop:=
 ∃g out,e=.returned (.slice (some ⟨g,0,none⟩) n n)/\w.heap.size<=g/\zU w' g out/\kO n h D s out/\zBL n h D s out/\Below w w w'
theorem uT (R:Nat) (A:Option Addr) (c n h:Nat) (s:Bool) (g0:FuncId) (h7:Array Value) (D:Nat->Bool->Bool) (w:World)
  (hr:gD w R A n c h) (hl:h<n) (hn:n<=1000000) (hg:Enters Tryz.prog g0) (hd:DoV Tryz.prog g0 h7 n D w) (hm:∀i,i<n->D i s=(!s)->D i (!s)=(!s)):
  Calls Tryz.prog 114 #[(⟨R,0,none⟩:Addr),s,.func (.func g0) #[] h7] w (zHD w n h D s):=by
 have hgr:∀(args:Array Value) (w:World),(callFunc g0 args).run Tryz.prog w=.ok (.enter g0 args) w:=hg
 have HD:=hId hd;have HM:=hId hm;have HR:=hId hr;clear hg hd hm;obtain⟨r1,r2,r3⟩:=hr
 go_enter Tryz.func114,Tryz.ntmps114
 go_wp2_with fail
 refine(zGc s w.heap.size 0 1 n _ (by go_simp) (by simp) (by omega) hn).mono ?_
 rintro e w1 ⟨g,rfl,hg1,U,hb1⟩;have hgg:w.heap.size+1<=g:=by simpa using hg1
 have ho:=hId (zA ((Below.refl w.heap.size w).alloc nLe (.cells #[Value.bool s] 4)) hb1 (by simp))
 have hx:Hid (zU w1 g (List.replicate n s)):=by
  show w1.heap[g]?=_;rw[U]
  simp
 clear U hb1 hg1 r1 r2
 go_wp2
 go_loopw [8] (fun ch wr=>∃(b:Bool) (out:List Bool),ch=.bool b/\zU wr g out/\kO n h D s out/\(b=false->zBL n h D s out)/\Below w w wr) (fun ch wr=>zAy s g wr+zJ7 ch)
 case atStart=>exact⟨true,_,rfl,hx.o,kO.start n h D s hl,by simp,ho.o⟩
 obtain⟨b,out,rfl,h9,O,h8,hb⟩:=hrel;have HFX:=hId h8;have HG:=hId O;have he:=hId h9;clear h8 O h9
 cases b with
 |false=>
  go_wp2
  go_ret
  exact⟨g,out,rfl,by omega,he.o,HG.o,by have:=HFX.o;simpa using this,hb⟩
 |true=>
  have HRR:=hId (HR.o.below hb r3);have q1:=HRR.o.1
  go_wp2
  obtain⟨wo,rfl⟩:∃wo:World,wo=wr:=⟨_,rfl⟩
  go_loopw [8,9] (fun ch i wr=>∃(b:Bool) (j:Nat) (K:List Bool),ch=.bool b/\i=.int .i64 ((j:Int)-1)/\j<=n/\zU wr g K/\kO n h D s K/\(b=false->K=out/\∀i,j<=i->i<n->D i (out.getD (nx n h i) s)=out.getD i s)/\(b=true->zBy s K<zBy s out)/\zBy s K<=zBy s out/\Below w w wr) (fun _ i _=>(intOf i+1).toNat)
  case atStart=>exact⟨false,n,out,rfl,by go_num,nLe,he.o,HG.o,fun _=>⟨rfl,fun i h1 h2=>absurd h1 (by omega)⟩,by simp,nLe,hb⟩
  obtain⟨b2,j,K,rfl,rfl,hj,h0,u,hk1,hk2,hk3,J⟩:=hrel;have d:=hId h0;have h5:=hId u;have ht:=hId hk1;have hu:=hId hk2;clear h0 u hk1 hk2 q1;have hy:=hId (HR.o.below J r3)
  cases j with
  |zero=>
   go_wp2
   refine⟨⟨b2,K,rfl,d.o,h5.o,fun hf=>?_,J⟩,?_⟩
   ·obtain⟨rfl,h2⟩:=ht.o hf
    exact fun i hi=>h2 i (Nat.zero_le _) hi
   rw[eF d.o,eF he.o]
   cases b2 with
   |false=>simp only[zJ7];omega
   |true=>have:=hu.o rfl;simp only[zJ7];omega
  |succ j=>
   have hol:K.length=n:=h5.o.len
   have hq:nx n h j<n:=aY (by omega) hl
   have c1:=(d.o.getD_ (i:=nx n h j) (by omega) s).1
   obtain⟨bq,hk⟩:∃b,b=K.getD (nx n h j) s:=⟨_,rfl⟩;obtain⟨bj,hbj⟩:∃b,b=K.getD j s:=⟨_,rfl⟩;rw[<-hk] at c1;have ha:=hId hk;have N:=hId hbj;have hw:=hId hol;have HQ:=hId hq;clear hol hq hk hbj
   go_wp2_with fail
   refine(zGU R A n c h j wr hy.o (by omega) hn).mono ?_
   rintro e w2 ⟨rfl,hww⟩;subst hww;have hq:=HQ.o
   go_wp2_with fail
   clear hq c1;have HDD:=hId (HD.o.below (zA ho.o bRf nLe));refine(HD.o j bq w2 (by omega) J).mono ?_
   rintro e w3 ⟨rfl,hh⟩;have hp:=hId (zA J hh J.size);have m:=hId (d.o.below hh d.o.lt);have hglt:=m.o.lt;obtain⟨c2,c3⟩:=m.o.getD_ (i:=j) (by rw[hw.o];omega) s
   rw[<-N.o] at c2;clear J hh HDD;obtain⟨v,hv⟩:∃v,v=D j bq:=⟨_,rfl⟩;rw[<-hv];have HV:=hId hv;clear hv;have hjn:j<n:=by omega
   by_cases hne:v=bj
   ·have hne':(v==bj)=true:=by simp[hne]
    have HNE:=hId hne;clear hne
    go_wp2
    go_roundw
    case rel=>
     refine⟨b2,j,K,rfl,by go_num,by omega,m.o,h5.o,fun hf=>?_,hu.o,hk3,hp.o⟩
     obtain⟨rfl,h2⟩:=ht.o hf;refine⟨rfl,fun i h1 h3=>?_⟩
     rcases Nat.lt_or_ge i (j+1) with h4|h4
     ·obtain rfl:i=j:=by omega
      rw[<-ha.o,<-HV.o,<-N.o];exact HNE.o
     exact h2 i h4 h3
    case measure=>simp[intOf]
   have hne':(v==bj)=false:=by simpa using hne
   have h6:=h5.o.step hl HM.o hjn (by rw[<-ha.o,<-HV.o,<-N.o];exact hne)
   rw[<-ha.o,<-HV.o,<-N.o] at h6;have HST:=hId h6;have HCN:=hId (zGs (s:=s) (out:=K) (i:=j) (by rw[hw.o];exact hjn) (by rw[<-N.o];exact h6.2.2))
   clear h6 hne
   go_wp2
   go_roundw
   case rel=>
    have hc:=HCN.o;have hs:=HST.o;rw[<-hs.2.1] at hc;refine⟨true,j,K.set j v,rfl,by go_num,by omega,m.o.set_ j v,hs.1,by simp,fun _=>by omega,by omega,hp.o.setCell (p:=⟨g,j,none⟩) (by simp;omega) _⟩
   case measure=>simp[intOf]
theorem zMc (X Y R n N:Nat) (A:Option Addr) (c h:Nat) (xs:List Int) (w:World) (K:w.cell? ⟨X,0,none⟩=some (.pointer (some ⟨R,0,none⟩))) (s:X<w.heap.size)
  (O:w.cell? ⟨Y,3,none⟩=some (.int .i64 N)) (u:Y<w.heap.size) (J:gD w R A xs.length c h) (g:zE w 0 A c xs) (hl:xs.length=n) (hN:N<=2)
  (U:∀(i:Nat) (hi:i<xs.length),0<=xs[i]/\xs[i]<=7):
  DoV Tryz.prog 115 #[(⟨X,0,none⟩:Addr),(⟨Y,0,none⟩:Addr)] n (fun i _=>nI (xs.getD i 0) N) w:=by
 intro i nb W hi e;have d:i<xs.length:=by omega
 have hv:=U i d;have k1:W.cell? ⟨X,0,none⟩=some (.pointer (some ⟨R,0,none⟩)):=(e.cell (p:=⟨X,0,none⟩) s).trans K;have k2:W.cell? ⟨Y,3,none⟩=some (.int .i64 N):=(e.cell (p:=⟨Y,3,none⟩) u).trans O
 obtain⟨k3,_,_⟩:=J.below e J.2.2;have hcp:=g.cap;have hle:=g.le;obtain⟨b,o,rfl,_,_,hc⟩:=zE.at_ (g.below e) d;have HV:=hId (show xs.getD i 0=xs[i] by simp[d])
 clear U hl K O J g;generalize xs[i]=m at *;generalize xs.length=len at *;simp only[List.append_toArray,List.cons_append,List.nil_append];have j:N=0\/N=1\/N=2:=by omega
 obtain rfl|rfl|rfl:=j
 all_goals
  go_enter Tryz.func115,Tryz.ntmps115
  go_wp2
  go_quiet (fail)
  go_wp2
  go_ret
  refine⟨yJ ?_,zC bRf _⟩;rw[HV.o];have hm:m=0\/m=1\/m=2\/m=3\/m=4\/m=5\/m=6\/m=7:=by omega
  go_tidy
  rcases hm with rfl|rfl|rfl|rfl|rfl|rfl|rfl|rfl<;>rfl
theorem zMa (B X R n:Nat) (A:Option Addr) (c h:Nat) (xs:List Bool) (w:World) (J:tI w B xs) (hl:xs.length=n) (K:w.cell? ⟨X,0,none⟩=some (.pointer (some ⟨R,0,none⟩))) (s:X<w.heap.size)
  (u:gD w R A n c h) (hn:n<=1000000) (hh:h<n):
  DoV Tryz.prog 119 #[(⟨B,0,none⟩:Addr),(⟨X,0,none⟩:Addr)] n (fun i _=>xs.getD (nx n h i) false) w:=by
 intro i nb W N m;have hnx:nx n h i<n:=aY N hh;have d:nx n h i<xs.length:=by omega
 have k1:W.cell? ⟨X,0,none⟩=some (.pointer (some ⟨R,0,none⟩)):=(m.cell (p:=⟨X,0,none⟩) s).trans K
 have U:=hId (u.below m u.2.2)
 have HQ:Hid (∀ k,Calls Tryz.prog 120 #[(⟨R,0,none⟩:Addr),i] (W.drewN k) fun e w'=>e=.returned (nx n h i:Nat)/\w'=W.drewN k):=fun k=>zGU R A n c h i (W.drewN k) U.o N hn
 obtain⟨A',c',h1,g,h3⟩:=J.below m;clear K J u;have hcp:=g.cap;have hle:=g.le;obtain⟨b,o,rfl,_,_,hc⟩:=xG.at_ g d;have HV:=hId (show xs.getD (nx n h i) false=xs[nx n h i] by simp[d])
 clear g;generalize xs[nx n h i]=v at *;generalize xs.length=len at *;generalize hj:nx n h i=j at *;have O:=hId hj;clear hj;simp only[List.append_toArray,List.cons_append,List.nil_append]
 go_enter Tryz.func119,Tryz.ntmps119
 go_wp2
 go_quiet ((go_at_call 120;exact Calls.quiet_of_same (HQ.o _)))
 go_wp2
 go_ret
 exact⟨yJ (by rw[O.o,HV.o]),zC bRf _⟩
structure zA5 (w:World) (A:Option Addr) (c:Nat) (rows:List (List Bool)):Prop where
 le:rows.length<=c
 cap:c<=9223372036854775807
 small:rows.length<=1000000
 rd:∀(k:Nat) (hk:k<rows.length),∃b off,A=some ⟨b,off,none⟩/\b<w.heap.size/\∃A' c',w.cell? ⟨b,off+k,none⟩=some (.slice A' rows[k].length c')/\xG w 0 A' c' rows[k]
def xE (w:World) (row:List Bool) (e:Ending) (w':World):Prop:=
 ∃g,e=.returned (.slice (some ⟨g,0,none⟩) row.length row.length)/\w.heap.size<=g/\zU w' g row/\Below w w w'
theorem zLV:Enters Tryz.prog 115:=enters_of Tryz.func115 (by kernel_rfl) rfl
theorem zLQ:Enters Tryz.prog 116:=enters_of Tryz.func116 (by kernel_rfl) rfl
theorem zMb:Enters Tryz.prog 117:=enters_of Tryz.func117 (by kernel_rfl) rfl
theorem zLL:Enters Tryz.prog 118:=enters_of Tryz.func118 (by kernel_rfl) rfl
theorem zLR:Enters Tryz.prog 119:=enters_of Tryz.func119 (by kernel_rfl) rfl
theorem zLS:Enters Tryz.prog 121:=enters_of Tryz.func121 (by kernel_rfl) rfl
theorem zLK:Enters Tryz.prog 122:=enters_of Tryz.func122 (by kernel_rfl) rfl
theorem zLF:Enters Tryz.prog 123:=enters_of Tryz.func123 (by kernel_rfl) rfl
def mG (w:World) (R:Nat) (k a b d:Int):World:=
 (((w.alloc (.cells #[Value.pointer (some {block:=R,off:=0})] 118)).alloc (.cells #[Value.int IntKind.i64 k,Value.int IntKind.i64 a,Value.int IntKind.i64 b,Value.int IntKind.i64 d] 63)).alloc
   (.cells #[Value.slice none 0 0] 28)).alloc (.cells #[Value.slice none 0 0] 28)
structure eC (w W:World) (R:Nat) (k a b d:Int) (va vb:Value):Prop where
 size:W.heap.size=w.heap.size+4
 below:Below w w W
 c0:W.cell? ⟨w,0,none⟩=some (.pointer (some ⟨R,0,none⟩))
 x0:W.cell? ⟨w.heap.size+1,0,none⟩=some (.int .i64 k)
 x1:W.cell? ⟨w.heap.size+1,1,none⟩=some (.int .i64 a)
 x2:W.cell? ⟨w.heap.size+1,2,none⟩=some (.int .i64 b)
 x3:W.cell? ⟨w.heap.size+1,3,none⟩=some (.int .i64 d)
 a0:W.cell? ⟨w.heap.size+2,0,none⟩=some va
 af:W.frozen? ⟨w.heap.size+2,0,none⟩=false
 b0:W.cell? ⟨w.heap.size+3,0,none⟩=some vb
 bf:W.frozen? ⟨w.heap.size+3,0,none⟩=false
theorem eL (w:World) (R:Nat) (k a b d:Int):eC w (mG w R k a b d) R k a b d () ():=by
 unfold mG;refine⟨by simp,?_,?_,?_,?_,?_,?_,?_,?_,?_,?_⟩
 ·go_grown
 all_goals(try go_simp)
theorem eC.setA {w W:World} {R:Nat} {k a b d:Int} {i vb:Value} (h:eC w W R k a b d i vb) (v:Value):eC w (W.drew.setCell ⟨w.heap.size+2,0,none⟩ v) R k a b d v vb:=by
 have e:∀p:Addr,p≠⟨w.heap.size+2,0,none⟩->(W.drew.setCell ⟨w.heap.size+2,0,none⟩ v).cell? p=W.cell? p:=fun p g=>World.cell?_setCell_other W.drew _ p v (fun e=>g e.symm)
 refine⟨by simp[World.setCell,h.size],h.below.drew.setCell (p:=⟨w.heap.size+2,0,none⟩) (by simp) v,?_,?_,?_,?_,?_,?_,?_,?_,?_⟩
 ·rw[e _ (by simp)];exact h.c0
 ·rw[e _ (by simp)];exact h.x0
 ·rw[e _ (by simp)];exact h.x1
 ·rw[e _ (by simp)];exact h.x2
 ·rw[e _ (by simp)];exact h.x3
 ·exact World.cell?_setCell_same' _ _ _ (by show(W.cell? _).isSome=true;rw[h.a0];rfl)
 ·rw[World.frozen?_setCell];exact h.af
 ·rw[e _ (by simp)];exact h.b0
 rw[World.frozen?_setCell];exact h.bf
theorem eC.setB {w W:World} {R:Nat} {k a b d:Int} {g vb:Value} (h:eC w W R k a b d g vb) (v:Value):eC w (W.drew.setCell ⟨w.heap.size+3,0,none⟩ v) R k a b d g v:=by
 have e:∀p:Addr,p≠⟨w.heap.size+3,0,none⟩->(W.drew.setCell ⟨w.heap.size+3,0,none⟩ v).cell? p=W.cell? p:=fun p i=>World.cell?_setCell_other W.drew _ p v (fun e=>i e.symm)
 refine⟨by simp[World.setCell,h.size],h.below.drew.setCell (p:=⟨w.heap.size+3,0,none⟩) (by simp) v,?_,?_,?_,?_,?_,?_,?_,?_,?_⟩
 ·rw[e _ (by simp)];exact h.c0
 ·rw[e _ (by simp)];exact h.x0
 ·rw[e _ (by simp)];exact h.x1
 ·rw[e _ (by simp)];exact h.x2
 ·rw[e _ (by simp)];exact h.x3
 ·rw[e _ (by simp)];exact h.a0
 ·rw[World.frozen?_setCell];exact h.af
 ·exact World.cell?_setCell_same' _ _ _ (by show(W.cell? _).isSome=true;rw[h.b0];rfl)
 rw[World.frozen?_setCell];exact h.bf
theorem zIH (R:Nat) (A:Option Addr) (c n h:Nat) (T:Option Addr) (tc:Nat) (rows:List (List Bool)) (k:Int) (hk:k=4\/k=5\/k=7\/k=8) (a b:Nat) (d:Int) (w:World)
  (hr:gD w R A n c h) (h2:h<n) (hn:n<=1000000) (ht:w.cell? ⟨R,2,none⟩=some (.slice T rows.length tc)) (O:zA5 w T tc rows) (hlen:∀r∈rows,r.length=n) (ha:a<rows.length) (hb:b<rows.length):
  Calls Tryz.prog 75 #[(⟨R,0,none⟩:Addr),.agg #[k,a,b,d]] w (xE w ((List.range n).map fun p=>
   if k=4 then gB rows a p&&gB rows b p else if k=5 then gB rows a p||gB rows b p else if k=7 then unt n h (gB rows a) (gB rows b) n p else rls n h (gB rows a) (gB rows b) n p)):=by
 have fA:nmA k=true:=by rcases hk with rfl|rfl|rfl|rfl<;>rfl
 have fB:nmB k=true:=by rcases hk with rfl|rfl|rfl|rfl<;>rfl
 have hle:=O.le;have hcp:=O.cap;have HR:=hId hr;obtain⟨r1,r2,r3⟩:=hr;obtain⟨bt,ot,rfl,hbt,A',c',h3,s⟩:=O.rd a ha;obtain⟨bt',ot',hee,_,J,K,h0,hrow'⟩:=O.rd b hb
 simp only[Option.some.injEq,Addr.mk.injEq,and_true] at hee;obtain⟨rfl,rfl⟩:=hee;have HLA:=hId (hlen rows[a] (List.getElem_mem ha));have HLB:=hId (hlen rows[b] (List.getElem_mem hb));have HROW:=hId s
 have HROW':=hId hrow';have HW:=hId (eL w R k a b d);clear hlen s hrow' O
 go_enter Tryz.func75,Tryz.ntmps75
 go_wp2_with (go_at_call 113;refine(iO _ _).mono ?_;rintro e w' ⟨rfl,rfl⟩)
 change Code.wp _ _ _ _ (mG w R k a b d);generalize mG w R k a b d=W4 at *
 obtain⟨g1,g2,g3⟩:W4.cell? ⟨R,2,none⟩=some (.slice (some ⟨bt,ot,none⟩) rows.length tc)/\W4.cell? ⟨bt,ot+a,none⟩=some (.slice A' rows[a].length c')/\W4.cell? ⟨bt,ot+b,none⟩=some (.slice J rows[b].length K):=
  ⟨(HW.o.below.cell (p:=⟨R,2,none⟩) r3).trans ht,(HW.o.below.cell (p:=⟨bt,ot+a,none⟩) hbt).trans h3,(HW.o.below.cell (p:=⟨bt,ot+b,none⟩) hbt).trans h0⟩
 obtain⟨_,_,c0,x0,x1,x2,x3,a0,af,b0,bf⟩:=HW.o;have HT0:=hId ht;have HC0:=hId h0;clear ht h3 h0 r1 r2
 go_region
 go_wp2_with fail
 have h1:=hId (HW.o.setA (.slice A' rows[a].length c'));change Code.wp _ _ _ _ (W4.drew.setCell ⟨w.heap.size+2,0,none⟩ (.slice A' rows[a].length c'));clear c0 x0 x1 x2 x3 a0 af b0 bf g1 g2 g3 HW
 generalize W4.drew.setCell ⟨w.heap.size+2,0,none⟩ (.slice A' rows[a].length c')=W5 at *
 obtain⟨g1,g3⟩:W5.cell? ⟨R,2,none⟩=some (.slice (some ⟨bt,ot,none⟩) rows.length tc)/\W5.cell? ⟨bt,ot+b,none⟩=some (.slice J rows[b].length K):=
  ⟨(h1.o.below.cell (p:=⟨R,2,none⟩) r3).trans HT0.o,(h1.o.below.cell (p:=⟨bt,ot+b,none⟩) hbt).trans HC0.o⟩
 obtain⟨_,_,c0,x0,x1,x2,x3,a0,af,b0,bf⟩:=h1.o;have HW6:=hId (h1.o.setB (.slice J rows[b].length K))
 have HT:∀U:World,U=W5.drew.setCell ⟨w.heap.size+3,0,none⟩ (.slice J rows[b].length K)->tI U (w.heap.size+2) rows[a]/\tI U (w.heap.size+3) rows[b]/\gD U R A n c h/\Below w w U/\w.heap.size<=U.heap.size:=by
  rintro U rfl;obtain⟨hsz,hbl,_,_,_,_,_,a0,_,b0,_⟩:=HW6.o;exact⟨⟨A',c',a0,HROW.o.below hbl,by omega⟩,⟨J,K,b0,HROW'.o.below hbl,by omega⟩,HR.o.below hbl r3,hbl,by omega⟩
 have m:=hId (HT _ rfl);have HGA:Hid (∀ i,gB rows a i=rows[a].getD i false):=fun i=>by simp[gB,ha]
 have HGB:Hid (∀ i,gB rows b i=rows[b].getD i false):=fun i=>by simp[gB,hb]
 clear HT HW6
 rcases hk with rfl|rfl|rfl|rfl
 ·go_region
  go_wp2_with fail
  change Calls _ _ _ (W5.drew.setCell ⟨w.heap.size+3,0,none⟩ (.slice J rows[b].length K)) _;clear c0 x0 x1 x2 x3 a0 af b0 bf g1 g3 h1;generalize W5.drew.setCell ⟨w.heap.size+3,0,none⟩ (.slice J rows[b].length K)=U at *
  refine(uT R A c n h false _ _ (fun i _=>rows[a].getD i false&&rows[b].getD i false) U m.o.2.2.1 h2 hn zMb (zLU _ _ n rows[a] rows[b] U m.o.1 m.o.2.1 HLA.o HLB.o) (by simp)).mono ?_
  rintro e w1 ⟨g,out,rfl,hg,s,j,u,N⟩
  have HP:Hid (xE w ((List.range n).map fun p=>gB rows a p&&gB rows b p) (.returned (.slice (some ⟨g,0,none⟩) n n)) w1):=by
   have:=mK j.len (fI u);refine⟨g,by simp,Nat.le_trans m.o.2.2.2.2 hg,?_,zA m.o.2.2.2.1 N m.o.2.2.2.2⟩
   rw[show(fun p=>gB rows a p&&gB rows b p)=(fun i=>rows[a].getD i false&&rows[b].getD i false) from funext fun i=>by rw[HGA.o,HGB.o],<-this]
   exact s
  clear hg s j u N
  go_wp2
  go_ret
  exact HP.o
 ·go_region
  go_wp2_with fail
  change Calls _ _ _ (W5.drew.setCell ⟨w.heap.size+3,0,none⟩ (.slice J rows[b].length K)) _;clear c0 x0 x1 x2 x3 a0 af b0 bf g1 g3 h1;generalize W5.drew.setCell ⟨w.heap.size+3,0,none⟩ (.slice J rows[b].length K)=U at *
  refine(uT R A c n h false _ _ (fun i _=>rows[a].getD i false||rows[b].getD i false) U m.o.2.2.1 h2 hn zLL (zL0 _ _ n rows[a] rows[b] U m.o.1 m.o.2.1 HLA.o HLB.o) (by simp)).mono ?_
  rintro e w1 ⟨g,out,rfl,hg,s,j,u,N⟩
  have HP:Hid (xE w ((List.range n).map fun p=>gB rows a p||gB rows b p) (.returned (.slice (some ⟨g,0,none⟩) n n)) w1):=by
   have:=mK j.len (fI u);refine⟨g,by simp,Nat.le_trans m.o.2.2.2.2 hg,?_,zA m.o.2.2.2.1 N m.o.2.2.2.2⟩
   rw[show(fun p=>gB rows a p||gB rows b p)=(fun i=>rows[a].getD i false||rows[b].getD i false) from funext fun i=>by rw[HGA.o,HGB.o],<-this]
   exact s
  clear hg s j u N
  go_wp2
  go_ret
  exact HP.o
 ·go_region
  go_wp2_with fail
  change Calls _ _ _ (W5.drew.setCell ⟨w.heap.size+3,0,none⟩ (.slice J rows[b].length K)) _;clear c0 x0 x1 x2 x3 a0 af b0 bf g1 g3 h1;generalize W5.drew.setCell ⟨w.heap.size+3,0,none⟩ (.slice J rows[b].length K)=U at *
  refine(uT R A c n h false _ _ (fun i nb=>rows[b].getD i false||rows[a].getD i false&&nb) U m.o.2.2.1 h2 hn zLS (zL3 _ _ n rows[a] rows[b] U m.o.1 m.o.2.1 HLA.o HLB.o) (fun i _=>by cases rows[b].getD i false<;>simp)).mono ?_
  rintro e w1 ⟨g,out,rfl,hg,s,j,u,N⟩
  have HP:Hid (xE w ((List.range n).map fun p=>unt n h (gB rows a) (gB rows b) n p) (.returned (.slice (some ⟨g,0,none⟩) n n)) w1):=by
   have:=mK j.len (zFq (a:=fun i=>rows[a].getD i false) (b:=fun i=>rows[b].getD i false) h2 j u)
   refine⟨g,by simp,Nat.le_trans m.o.2.2.2.2 hg,?_,zA m.o.2.2.2.1 N m.o.2.2.2.2⟩
   rw[show gB rows a=(fun i=>rows[a].getD i false) from funext HGA.o,show gB rows b=(fun i=>rows[b].getD i false) from funext HGB.o]
   rw[<-this];exact s
  clear hg s j u N
  go_wp2
  go_ret
  exact HP.o
 go_region
 go_wp2_with fail
 change Calls _ _ _ (W5.drew.setCell ⟨w.heap.size+3,0,none⟩ (.slice J rows[b].length K)) _;clear c0 x0 x1 x2 x3 a0 af b0 bf g1 g3 h1;generalize W5.drew.setCell ⟨w.heap.size+3,0,none⟩ (.slice J rows[b].length K)=U at *
 refine(uT R A c n h true _ _ (fun i nb=>rows[b].getD i false&&(rows[a].getD i false||nb)) U m.o.2.2.1 h2 hn zLK (zLB _ _ n rows[a] rows[b] U m.o.1 m.o.2.1 HLA.o HLB.o) (fun i _=>by cases rows[b].getD i false<;>simp)).mono ?_
 rintro e w1 ⟨g,out,rfl,hg,s,j,u,N⟩
 have HP:Hid (xE w ((List.range n).map fun p=>rls n h (gB rows a) (gB rows b) n p) (.returned (.slice (some ⟨g,0,none⟩) n n)) w1):=by
  have:=mK j.len (zBI (a:=fun i=>rows[a].getD i false) (b:=fun i=>rows[b].getD i false) h2 j u)
  refine⟨g,by simp,Nat.le_trans m.o.2.2.2.2 hg,?_,zA m.o.2.2.2.1 N m.o.2.2.2.2⟩
  rw[show gB rows a=(fun i=>rows[a].getD i false) from funext HGA.o,show gB rows b=(fun i=>rows[b].getD i false) from funext HGB.o]
  rw[<-this];exact s
 clear hg s j u N
 go_wp2
 go_ret
 exact HP.o
theorem zJ8 (R:Nat) (A:Option Addr) (c n h:Nat) (T:Option Addr) (tc:Nat) (j:List (List Bool)) (k:Int) (hk:k=3\/k=6) (a:Nat) (b d:Int) (w:World)
  (hr:gD w R A n c h) (hn0:h<n) (hn:n<=1000000) (ht:w.cell? ⟨R,2,none⟩=some (.slice T j.length tc)) (J:zA5 w T tc j) (hlen:∀r∈j,r.length=n) (ha:a<j.length):
  Calls Tryz.prog 75 #[(⟨R,0,none⟩:Addr),.agg #[k,a,b,d]] w (xE w ((List.range n).map fun p=>
   if k=3 then !gB j a p else gB j a (nx n h p))):=by
 have fA:nmA k=true:=by rcases hk with rfl|rfl<;>rfl
 have fB:nmB k=false:=by rcases hk with rfl|rfl<;>rfl
 have hle:=J.le;have hcp:=J.cap;have HR:=hId hr;obtain⟨r1,r2,r3⟩:=hr;obtain⟨bt,ot,rfl,hbt,A',c',U,s⟩:=J.rd a ha;have HLA:=hId (hlen j[a] (List.getElem_mem ha));have HROW:=hId s;have HW:=hId (eL w R k a b d)
 clear hlen s J
 go_enter Tryz.func75,Tryz.ntmps75
 go_wp2_with (go_at_call 113;refine(iO _ _).mono ?_;rintro e w' ⟨rfl,rfl⟩)
 change Code.wp _ _ _ _ (mG w R k a b d);generalize mG w R k a b d=W5 at *
 obtain⟨g1,g2⟩:W5.cell? ⟨R,2,none⟩=some (.slice (some ⟨bt,ot,none⟩) j.length tc)/\W5.cell? ⟨bt,ot+a,none⟩=some (.slice A' j[a].length c'):=
  ⟨(HW.o.below.cell (p:=⟨R,2,none⟩) r3).trans ht,(HW.o.below.cell (p:=⟨bt,ot+a,none⟩) hbt).trans U⟩
 obtain⟨_,_,c0,x0,x1,x2,x3,a0,af,b0,bf⟩:=HW.o;clear ht U r1 r2;have HW6:=hId (HW.o.setA (.slice A' j[a].length c'))
 have HT:∀N:World,N=W5.drew.setCell ⟨w.heap.size+2,0,none⟩ (.slice A' j[a].length c')->tI N (w.heap.size+2) j[a]/\(N.cell? ⟨w,0,none⟩=some (.pointer (some ⟨R,0,none⟩))/\w.heap.size<N.heap.size)/\gD N R A n c h/\Below w w N/\w.heap.size<=N.heap.size:=by
  rintro N rfl;obtain⟨hsz,hbl,c0,_,_,_,_,a0,_,b0,_⟩:=HW6.o;exact⟨⟨A',c',a0,HROW.o.below hbl,by omega⟩,⟨c0,by omega⟩,HR.o.below hbl r3,hbl,by omega⟩
 have m:=hId (HT _ rfl);have HGA:Hid (∀ i,gB j a i=j[a].getD i false):=fun i=>by simp[gB,ha]
 clear HT HW6
 rcases hk with rfl|rfl
 ·go_region
  go_wp2_with fail
  change Calls _ _ _ (W5.drew.setCell ⟨w.heap.size+2,0,none⟩ (.slice A' j[a].length c')) _;clear c0 x0 x1 x2 x3 a0 af b0 bf g1 g2 HW;generalize W5.drew.setCell ⟨w.heap.size+2,0,none⟩ (.slice A' j[a].length c')=N at *
  refine(uT R A c n h false _ _ (fun i _=>!j[a].getD i false) N m.o.2.2.1 hn0 hn (zLQ) (zLN _ n j[a] N m.o.1 HLA.o) (by simp)).mono ?_
  rintro e w1 ⟨g,out,rfl,hg,s,u,K,O⟩
  have HP:Hid (xE w ((List.range n).map fun p=>!gB j a p) (.returned (.slice (some ⟨g,0,none⟩) n n)) w1):=by
   have:=mK u.len (fI K);refine⟨g,by simp,Nat.le_trans m.o.2.2.2.2 hg,?_,zA m.o.2.2.2.1 O m.o.2.2.2.2⟩
   rw[show(fun p=>!gB j a p)=(fun i=>!j[a].getD i false) from funext fun i=>by rw[HGA.o],<-this]
   exact s
  clear hg s u K O
  go_wp2
  go_ret
  exact HP.o
 go_region
 go_wp2_with fail
 change Calls _ _ _ (W5.drew.setCell ⟨w.heap.size+2,0,none⟩ (.slice A' j[a].length c')) _;clear c0 x0 x1 x2 x3 a0 af b0 bf g1 g2 HW;generalize W5.drew.setCell ⟨w.heap.size+2,0,none⟩ (.slice A' j[a].length c')=N at *
 refine(uT R A c n h false _ _ (fun i _=>j[a].getD (nx n h i) false) N m.o.2.2.1 hn0 hn (zLR) (zMa _ _ R n A c h j[a] N m.o.1 HLA.o m.o.2.1.1 m.o.2.1.2 m.o.2.2.1 hn hn0) (by simp)).mono ?_
 rintro e w1 ⟨g,out,rfl,hg,s,u,K,O⟩
 have HP:Hid (xE w ((List.range n).map fun p=>gB j a (nx n h p)) (.returned (.slice (some ⟨g,0,none⟩) n n)) w1):=by
  have:=mK u.len (fI K);refine⟨g,by simp,Nat.le_trans m.o.2.2.2.2 hg,?_,zA m.o.2.2.2.1 O m.o.2.2.2.2⟩
  rw[show(fun p=>gB j a (nx n h p))=(fun i=>j[a].getD (nx n h i) false) from funext fun i=>by rw[HGA.o],<-this]
  exact s
 clear hg s u K O
 go_wp2
 go_ret
 exact HP.o
theorem zKw (R:Nat) (A:Option Addr) (c n h:Nat) (xs:List Int) (k:Int) (hk:k=1\/k=2) (a b:Int) (d:Nat) (hd:d<=2) (w:World)
  (hr:gD w R A xs.length c h) (hl:xs.length=n) (hx:zE w 0 A c xs) (h1:∀(i:Nat) (hi:i<xs.length),0<=xs[i]/\xs[i]<=7) (hn0:h<n) (hn:n<=1000000):
  Calls Tryz.prog 75 #[(⟨R,0,none⟩:Addr),.agg #[k,a,b,d]] w (xE w ((List.range n).map fun p=>
   if k=1 then true else nI (xs.getD p 0) d)):=by
 have fA:nmA k=false:=by rcases hk with rfl|rfl<;>rfl
 have fB:nmB k=false:=by rcases hk with rfl|rfl<;>rfl
 have HR:=hId hr;have HW:=hId (eL w R k a b d);have HX:=hId hx;have HXB:=hId h1;have r3:=hr.2.2
 have HT:∀J:World,J=mG w R k a b d->J.cell? ⟨w,0,none⟩=some (.pointer (some ⟨R,0,none⟩))/\w.heap.size<J.heap.size/\J.cell? ⟨w.heap.size+1,3,none⟩=some (.int .i64 d)/\w.heap.size+1<J.heap.size/\zE J 0 A c xs/\gD J R A xs.length c h/\Below w w J/\w.heap.size<=J.heap.size:=by
  rintro J rfl;obtain⟨hsz,N,c0,_,_,_,x3,_,_,_,_⟩:=HW.o;exact⟨c0,by omega,x3,by omega,HX.o.below N,HR.o.below N r3,N,by omega⟩
 have j:=hId (HT _ rfl);clear HT hr hx h1;have HL:=hId hl;have U:h<xs.length:=by omega
 have h0:xs.length<=1000000:=by omega
 clear hl
 rcases hk with rfl|rfl
 ·go_enter Tryz.func75,Tryz.ntmps75
  go_wp2_with (go_at_call 113;refine(iO _ _).mono ?_;rintro e w' ⟨rfl,rfl⟩)
  change Calls _ _ _ (mG w R 1 a b d) _;generalize mG w R 1 a b d=J at *;refine(uT R A c xs.length h true _ _ (fun _ _=>true) J j.o.2.2.2.2.2.1 U h0 (zLF) (zLI xs.length J) (by simp)).mono ?_
  rintro e w1 ⟨g,out,rfl,O,u,m,s,K⟩
  have HP:Hid (xE w ((List.range n).map (fun _=>true)) (.returned (.slice (some ⟨g,0,none⟩) xs.length xs.length)) w1):=by
   rw[<-HL.o];have:=mK m.len (fI s);refine⟨g,by simp,Nat.le_trans j.o.2.2.2.2.2.2.2 O,?_,zA j.o.2.2.2.2.2.2.1 K j.o.2.2.2.2.2.2.2⟩
   rw[<-this];exact u
  clear O u m s K
  go_wp2
  go_ret
  exact HP.o
 go_enter Tryz.func75,Tryz.ntmps75
 go_wp2_with (go_at_call 113;refine(iO _ _).mono ?_;rintro e w' ⟨rfl,rfl⟩)
 change Calls _ _ _ (mG w R 2 a b d) _;generalize mG w R 2 a b d=J at *
 refine(uT R A c xs.length h false _ _ (fun i _=>nI (xs.getD i 0) d) J j.o.2.2.2.2.2.1 U h0 (zLV) (zMc _ _ R xs.length d A c h xs J j.o.1 j.o.2.1 j.o.2.2.1 j.o.2.2.2.1 j.o.2.2.2.2.2.1 j.o.2.2.2.2.1 rfl hd HXB.o) (by simp)).mono ?_
 rintro e w1 ⟨g,out,rfl,O,u,m,s,K⟩
 have HP:Hid (xE w ((List.range n).map (fun i=>nI (xs.getD i 0) d)) (.returned (.slice (some ⟨g,0,none⟩) xs.length xs.length)) w1):=by
  rw[<-HL.o];have:=mK m.len (fI s);refine⟨g,by simp,Nat.le_trans j.o.2.2.2.2.2.2.2 O,?_,zA j.o.2.2.2.2.2.2.1 K j.o.2.2.2.2.2.2.2⟩
  rw[<-this];exact u
 clear O u m s K
 go_wp2
 go_ret
 exact HP.o
theorem La.at_row {l:La} {p:Nat} (d:p<l.n):(l.h++l.l).getD p 0=l.at p:=by
 unfold La.at;unfold La.n at d;rw[List.getD_eq_getElem?_getD]
 by_cases h:p<l.h.length
 ·rw[if_pos h,List.getElem?_append_left h,List.getD_eq_getElem?_getD]
 rw[if_neg h,List.getElem?_append_right (by omega),List.getD_eq_getElem?_getD,Nat.mod_eq_of_lt (by omega)]
theorem zJN {x:Nd} {i:Int} (h:kK x i=0):btw x.k 1 8=true/\(nmA x.k=true->0<=x.a/\x.a<=i-1)/\(nmB x.k=true->0<=x.b/\x.b<=i-1)/\(x.k=2->0<=x.n/\x.n<=2)/\(x.k≠2->x.n=0):=by
 unfold kK at h
 split at h
 ·simp at h
 rename_i h1
 split at h
 ·simp at h
 rename_i h2
 split at h
 ·simp at h
 rename_i h3
 split at h
 ·simp at h
 rename_i h4
 refine⟨by simpa using h1,fun g=>?_,fun j=>?_,fun d=>?_,fun d=>?_⟩
 ·have:btw x.a 0 (i-1)=true:=by cases e:btw x.a 0 (i-1)<;>simp_all
  exact(xH _ _ _).1 this
 ·have:btw x.b 0 (i-1)=true:=by cases e:btw x.b 0 (i-1)<;>simp_all
  exact(xH _ _ _).1 this
 ·have:btw x.n 0 2=true:=by cases e:btw x.n 0 2<;>simp_all [nmN]
  exact(xH _ _ _).1 this
 cases e:(x.n !=0)<;>simp_all [nmN]
theorem xE.congr {w:World} {r r':List Bool} (h:r=r') {e:Ending} {w':World} (d:xE w r e w'):xE w r' e w':=by rw[<-h];exact d
theorem zDs (R:Nat) (A:Option Addr) (c:Nat) (l:La) (T:Option Addr) (N:Nat) (d:List (List Bool)) (x:Nd) (w:World)
  (hr:gD w R A l.n c l.h.length) (hx:zE w 0 A c (l.h++l.l)) (hxb:∀(i:Nat) (hi:i<(l.h++l.l).length),0<=(l.h++l.l)[i]/\(l.h++l.l)[i]<=7)
  (s:l.h.length<l.n) (U:l.n<=1000000) (ht:w.cell? ⟨R,2,none⟩=some (.slice T d.length N)) (j:zA5 w T N d) (m:∀r∈d,r.length=l.n) (h0:kK x d.length=0):
  Calls Tryz.prog 75 #[(⟨R,0,none⟩:Addr),.agg #[x.k,x.a,x.b,x.n]] w (xE w (gX l d x)):=by
 obtain⟨k1,ka,kb,kn,kz⟩:=zJN h0;rw[xH] at k1;obtain⟨k,a,b,n⟩:=x;simp only at k1 ka kb kn kz ⊢;have hk:k=1\/k=2\/k=3\/k=4\/k=5\/k=6\/k=7\/k=8:=by omega
 have J:(l.h++l.l).length=l.n:=by simp[La.n]
 have K:(k=4\/k=5\/k=7\/k=8)->Calls Tryz.prog 75 #[(⟨R,0,none⟩:Addr),.agg #[k,a,b,n]] w (xE w (gX l d ⟨k,a,b,n⟩)):=by
  intro g;have O:=ka (by rcases g with rfl|rfl|rfl|rfl<;>rfl)
  have fb:=kb (by rcases g with rfl|rfl|rfl|rfl<;>rfl)
  obtain⟨a,rfl⟩:=Int.eq_ofNat_of_zero_le O.1;obtain⟨b,rfl⟩:=Int.eq_ofNat_of_zero_le fb.1;refine(zIH R A c l.n l.h.length T N d k g a b n w hr s U ht j m (by omega) (by omega)).mono fun e w' u=>xE.congr ?_ u
  unfold gX
  apply List.map_congr_left
  intro p _
  rcases g with rfl|rfl|rfl|rfl<;>simp[tC]
 have AA:(k=3\/k=6)->Calls Tryz.prog 75 #[(⟨R,0,none⟩:Addr),.agg #[k,a,b,n]] w (xE w (gX l d ⟨k,a,b,n⟩)):=by
  intro g;have O:=ka (by rcases g with rfl|rfl<;>rfl)
  obtain⟨a,rfl⟩:=Int.eq_ofNat_of_zero_le O.1;refine(zJ8 R A c l.n l.h.length T N d k g a b n w hr s U ht j m (by omega)).mono fun e w' u=>xE.congr ?_ u
  unfold gX
  apply List.map_congr_left
  intro p _
  rcases g with rfl|rfl<;>simp[tC]
 have NN:(k=1\/k=2)->Calls Tryz.prog 75 #[(⟨R,0,none⟩:Addr),.agg #[k,a,b,n]] w (xE w (gX l d ⟨k,a,b,n⟩)):=by
  intro g
  have fn:0<=n/\n<=2:=by
   by_cases h2:k=2
   ·exact kn h2
   rw[kz h2];omega
  obtain⟨n,rfl⟩:=Int.eq_ofNat_of_zero_le fn.1;refine(zKw R A c l.n l.h.length (l.h++l.l) k g a b n (by omega) w (by rw[J];exact hr) J hx hxb s U).mono fun e w' u=>xE.congr ?_ u
  unfold gX
  apply List.map_congr_left
  intro p u;have h1:p<l.n:=by simpa using u
  rw[La.at_row h1]
  rcases g with rfl|rfl<;>simp[tC]
 rcases hk with h|h|h|h|h|h|h|h
 ·exact NN (.inl h)
 ·exact NN (.inr h)
 ·exact AA (.inl h)
 ·exact K (.inl h)
 ·exact K (.inr (.inl h))
 ·exact AA (.inr h)
 ·exact K (.inr (.inr (.inl h)))
 exact K (.inr (.inr (.inr h)))
theorem qZ {B:Nat} {w w':World} (d:Below B w w') {b o:Nat} (h:b<B):w'.cell? ⟨b,o,none⟩=w.cell? ⟨b,o,none⟩:=d.cell (p:=⟨b,o,none⟩) h
def zIM (w3:World) (C:Option Addr) (n cc h:Nat):World:=w3.alloc (.cells #[Value.slice C n cc,Value.int IntKind.i64 h,Value.slice none 0 0] 120)
theorem zGb {w:World} {base d:Nat} {e:TypeId} {size n:Nat} {v:Value} {xs:List Value} (h:w.ownsRow base e size v n xs) (m:d<=base):w.ownsRow d e size v n xs:=by
 obtain⟨j,i⟩:=h;refine⟨j,?_⟩
 rcases i with i|⟨g,cap,cur,hv,hg,r⟩
 ·exact .inl i
 exact .inr ⟨g,cap,cur,hv,Nat.le_trans m hg,r⟩
def ckT (f:List Nd) (l:La):Int:=if ckF f=0 then ckL l 8 else ckF f
structure tT (w:World) (lo:Nat) (v:Value) (rows:List (List Bool)) (gs:List Nat):Prop where
 own:w.ownsRow lo 28 1 v rows.length (gs.zipWith (fun g r=>Value.slice (some ⟨g,0,none⟩) r.length r.length) rows)
 len:gs.length=rows.length
 row:∀(k:Nat) (h:k<rows.length) (h':k<gs.length),zU w gs[k] rows[k]/\lo<=gs[k]/\gs[k]<w.heap.size
theorem tT.below {w w':World} {lo:Nat} {v:Value} {e:List (List Bool)} {gs:List Nat} (h:tT w lo v e gs) (i:Below w w w'):tT w' lo v e gs:=
 ⟨zD h.own i,h.len,fun k g d=>⟨(h.row k g d).1.below i (h.row k g d).2.2,(h.row k g d).2.1,Nat.lt_of_lt_of_le (h.row k g d).2.2 i.size⟩⟩
theorem zDN {f:List Nd} (h:ckF f=0):f.length≠0/\f.length<=12/\xA f=false/\mQ (f.drop 0) 0=0:=by
 unfold ckF at h
 split at h
 ·simp at h
 split at h
 ·simp at h
 rename_i h1 h2
 have d:xA f=false:=by simpa using h2
 refine⟨h1,?_,d,h⟩;unfold xA at d
 simp at d
 omega
theorem tT.rows {w:World} {lo:Nat} {T:Option Addr} {u:Nat} {d:List (List Bool)} {gs:List Nat} (h:tT w lo (.slice T d.length u) d gs) (hn:d.length<=1000000) (hr:∀r∈d,r.length<=1000000):
  zA5 w T u d:=by
 obtain⟨A,c,s,J,K,N,_⟩:=zF h.own;simp only[Value.slice.injEq,true_and] at s;obtain⟨rfl,rfl⟩:=s;refine⟨J,K,hn,fun k j=>?_⟩
 have i:k<gs.length:=by rw[h.len];exact j
 have m:(gs.zipWith (fun g r=>Value.slice (some ⟨g,0,none⟩) r.length r.length) d)[k]?=some (.slice (some ⟨gs[k],0,none⟩) d[k].length d[k].length):=by
  rw[List.getElem?_zipWith,List.getElem?_eq_getElem i,List.getElem?_eq_getElem j]
 obtain⟨b,off,U,_,hb,hc⟩:=N (by intro e;rw[e] at m;simp at m)
 obtain⟨O,h5,h6⟩:=h.row k j i;exact⟨b,off,U,hb,_,_,hc k _ m,(O.bools (hr _ (List.getElem_mem j))).zero⟩
def zDj (w w3:World) (R:Nat) (C:Option Addr) (cc:Nat) (l:La) (f:List Nd) (k:Nat) (W:World):Prop:=
 ∃(T:Option Addr) (tc:Nat) (gs:List Nat),gD W R C l.n cc l.h.length/\W.cell? ⟨R,2,none⟩=some (.slice T (yA l f k).length tc)/\W.frozen? ⟨R,2,none⟩=false/\
  tT W (R+1) (.slice T (yA l f k).length tc) (yA l f k) gs/\Below R w3 W/\Below w w W
def eE (wr:World) (x:Nd):World:=wr.alloc (.cells #[x.k,x.a,x.b,x.n] 63)
theorem zHO (wr:World) (x:Nd):(eE wr x).cell? ⟨wr,0,none⟩=some (.int .i64 x.k)/\(eE wr x).cell? ⟨wr.heap.size,1,none⟩=some (.int .i64 x.a)/\(eE wr x).cell? ⟨wr.heap.size,2,none⟩=some (.int .i64 x.b)/\(eE wr x).cell? ⟨wr.heap.size,3,none⟩=some (.int .i64 x.n):=by
 unfold eE;refine⟨?_,?_,?_,?_⟩<;>go_simp
def mZ (w:World) (f:List Nd) (l:La) (e:Ending) (w':World):Prop:=
 Below w w w'/\if ckT f l=0 then ∃v gs,e=.returned (.tuple #[v,(0:Int)])/\tT w' w.heap.size v (kU l f) gs else e=.returned (.tuple #[(),(ckT f l)])
theorem lZ {l:La} (h:ckL l 8=0):l.h.length<=4000/\l.l.length<=4000/\0<l.l.length/\∀(i:Nat) (g:i<(l.h++l.l).length),0<=(l.h++l.l)[i]/\(l.h++l.l)[i]<=7:=by
 unfold ckL at h
 split at h
 ·simp at h
 split at h
 ·simp at h
 split at h
 ·simp at h
 split at h
 ·simp at h
 rename_i h1 h2 h3 h4
 refine⟨by omega,by omega,by omega,fun i g=>?_⟩
 have d:bU 8 (l.h++l.l)[i]=false:=by
  cases e:bU 8 (l.h++l.l)[i] with
  |false=>rfl
  |true=>
   exfalso
   apply h4
   have:nN (bU 8) (l.h++l.l)=true:=by
    unfold nN;exact List.any_eq_true.2 ⟨_,List.getElem_mem g,e⟩
   simpa[nN] using this
 unfold bU at d
 simp at d
 omega
theorem zIw {W1 w4:World} {R X k i g:Nat} {T:Option Addr} {d:List Value} {row:List Bool} (hRl:R<X) (hX:X<W1.heap.size) (h:W1.ownsRow (R+1) 28 1 (.slice T k i) k d)
  (e2:W1.cell? ⟨R,2,none⟩=some (.slice T k i)) (e3:W1.frozen? ⟨R,2,none⟩=false) (K:Below W1.drew.heap.size W1.drew w4):
  W1.heap.size<=w4.heap.size/\w4.cell? ⟨R,2,none⟩=some (.slice T k i)/\Hid ((w4.alloc (.cells #[.slice (some ⟨g,0,none⟩) row.length row.length] 28)).ownsRow (R+1) 28 1 (.slice T k i) k d)/\
   Hid (Rd (w4.alloc (.cells #[.slice (some ⟨g,0,none⟩) row.length row.length] 28)) 0 (some ⟨w4,0,none⟩) [.slice (some ⟨g,0,none⟩) row.length row.length])/\
   R+1<=(w4.alloc (.cells #[.slice (some ⟨g,0,none⟩) row.length row.length] 28)).heap.size/\
   (w4.alloc (.cells #[.slice (some ⟨g,0,none⟩) row.length row.length] 28)).cell? ⟨R,2,none⟩=some (.slice T k i)/\some R≠(Value.slice T k i).ownBlock/\
   ∀O,(w4.alloc (.cells #[.slice (some ⟨g,0,none⟩) row.length row.length] 28)).grownBy O (Value.slice T k i).ownBlock->O.frozen? ⟨R,2,none⟩=false:=by
 have J:Below W1 W1 w4:=(Below.refl _ W1).drew.trans K
 have hs:=J.size;have U:=(qZ J (b:=R) (o:=2) (by omega)).trans e2
 have f1:w4.frozen? ⟨R,2,none⟩=false:=(J.frozen (p:=⟨R,2,none⟩) (by show R<_;omega)).trans e3
 have m:Below w4 w4 (w4.alloc (.cells #[.slice (some ⟨g,0,none⟩) row.length row.length] 28)):=bLa
 have hn:some R≠(Value.slice T k i).ownBlock:=rE h (by omega)
 refine⟨hs,U,zD (zD h J) m,?_,by simp;omega,(qZ m (by omega)).trans U,hn,fun O h5=>?_⟩
 ·intro _
  refine⟨_,0,rfl,Nat.zero_le _,by simp,fun j u s=>?_⟩
  match j,s with
  |0,s=>simp at s;subst s;go_simp
  |j+1,s=>simp at s
 have N:R<(w4.alloc (.cells #[.slice (some ⟨g,0,none⟩) row.length row.length] 28)).heap.size:=by simp;omega
 have e:=World.frozen?_of_block (a:=⟨R,2,none⟩) (h5.block R N hn);rw[e];exact(m.frozen (p:=⟨R,2,none⟩) (by show R<_;omega)).trans f1
theorem aB (l:La) {f:List Nd} {k:Nat} (h:k<f.length):yA l f (k+1)=yA l f k++[gX l (yA l f k) f[k]]:=by
 simp[yA,h]
theorem zU.ne_own {w:World} {g base:Nat} {xs:List Bool} {v:Value} {n:Nat} {d:List Value} (h:zU w g xs) (i:w.ownsRow base 28 1 v n d):some g≠v.ownBlock:=by
 intro e
 rcases i.2 with⟨rfl,_⟩|⟨g',cap,cur,rfl,_,hh,_⟩
 ·simp[Value.ownBlock] at e
 have:g=g':=by simpa[Value.ownBlock] using e
 subst this;unfold zU at h;rw[hh] at h
 simp at h
theorem zIU {w w3 W1 w4 J:World} {R X k tc g:Nat} {T U:Option Addr} {c5 cc:Nat} {C:Option Addr} {l:La} {f:List Nd} {gs:List Nat} {row:List Bool} (hlt:k<f.length) (hwR:w.heap.size<=R) (hRl:R<X) (hX:X<W1.heap.size)
  (e1:gD W1 R C l.n cc l.h.length) (e4:tT W1 (R+1) (.slice T (yA l f k).length tc) (yA l f k) gs) (e5:Below R w3 W1) (e6:Below w w W1)
  (O:row=gX l (yA l f k) f[k]) (hb4:Below W1.drew.heap.size W1.drew w4) (hr4:zU w4 g row) (hg:W1.drew.heap.size<=g)
  (hown5:J.ownsRow (R+1) 28 1 (.slice U (k+1) c5) (k+1) (gs.zipWith (fun g r=>Value.slice (some ⟨g,0,none⟩) r.length r.length) (yA l f k)++[.slice (some ⟨g,0,none⟩) row.length row.length]))
  (d:(w4.alloc (.cells #[.slice (some ⟨g,0,none⟩) row.length row.length] 28)).grownBy J (Value.slice T k tc).ownBlock)
  (q5:J.cell? ⟨R,2,none⟩=some (.slice T k tc)) (q6:J.frozen? ⟨R,2,none⟩=false):
  zDj w w3 R C cc l f (k+1) (J.setCell ⟨R,2,none⟩ (.slice U (k+1) c5)):=by
 have hrl:(yA l f k).length=k:=jA l f k
 have u:=e4.own;rw[hrl] at u;have hb:Below W1 W1 w4:=(Below.refl _ W1).drew.trans hb4;have hs:=hb.size;have hg':W1.heap.size<=g:=hg
 have N:Below w4 w4 (w4.alloc (.cells #[.slice (some ⟨g,0,none⟩) row.length row.length] 28)):=bLa
 have hT:∀b,(Value.slice T k tc).ownBlock=some b->R+1<=b/\b<W1.heap.size:=fun b hb=>u.lt b hb
 have hgs:=d.size;have i:Below W1 W1 (w4.alloc (.cells #[.slice (some ⟨g,0,none⟩) row.length row.length] 28)):=hb.trans (N.mono hs)
 have K:Below (R+1) W1 J:=(i.mono (by omega)).trans ⟨d.os,d.tape,d.output,d.size,fun j hj=>d.block j (by simp;omega) (fun e=>by have:=(hT j e.symm).1;omega)⟩
 have hfin:Below w w (J.setCell ⟨R,2,none⟩ (.slice U (k+1) c5)):=(e6.trans (K.mono (by omega))).setCell (p:=⟨R,2,none⟩) hwR _
 have hsz:J.heap.size=(J.setCell ⟨R,2,none⟩ (.slice U (k+1) c5)).heap.size:=by simp[World.setCell]
 have keep:∀j xs,zU W1 j xs->R+1<=j->zU (J.setCell ⟨R,2,none⟩ (.slice U (k+1) c5)) j xs:=by
  intro j xs hj hR;have h1:=hj.below i hj.lt;have h2:=h1.grown d (hj.ne_own u);exact h2.set_far (p:=⟨R,2,none⟩) (by show j≠R;omega) _
 have m:zU (J.setCell ⟨R,2,none⟩ (.slice U (k+1) c5)) g row:=by
  have h1:=hr4.below N hr4.lt;have h2:=h1.grown d (fun e=>by have:=(hT g e.symm).2;omega)
  exact h2.set_far (p:=⟨R,2,none⟩) (by show g≠R;omega) _
 have hzl:(gs.zipWith (fun g r=>Value.slice (some ⟨g,0,none⟩) r.length r.length) (yA l f k)++[.slice (some ⟨g,0,none⟩) row.length row.length])=((gs++[g]).zipWith (fun g r=>Value.slice (some ⟨g,0,none⟩) r.length r.length) (yA l f (k+1))):=by
  rw[aB l hlt,<-O,List.zipWith_append (by rw[e4.len])]
  rfl
 have s:(yA l f (k+1)).length=k+1:=jA l f (k+1)
 refine⟨U,c5,gs++[g],⟨?_,?_,?_⟩,?_,?_,⟨?_,?_,?_⟩,?_,hfin⟩
 ·rw[World.cell?_setCell_other _ _ _ _ (by simp)]
  exact(qZ K (by omega)).trans e1.1
 ·rw[World.cell?_setCell_other _ _ _ _ (by simp)]
  exact(qZ K (by omega)).trans e1.2.1
 ·rw[<-hsz];have:=N.size;omega
 ·rw[s];exact World.cell?_setCell_same' _ _ _ (by rw[q5];rfl)
 ·rw[World.frozen?_setCell];exact q6
 ·rw[s,<-hzl];exact ownsRow_setCell_below hown5 (a:=⟨R,2,none⟩) (by show R<_;omega) _
 ·rw[List.length_append,e4.len,hrl,s];rfl
 ·intro j hj hj'
  have e:yA l f (k+1)=yA l f k++[row]:=by rw[aB l hlt,<-O]
  have hjk:j<k+1:=by rw[s] at hj;exact hj
  have hgl:gs.length=k:=by rw[e4.len,hrl]
  rcases Nat.lt_or_ge j k with h|h
  ·obtain⟨a1,a2,a3⟩:=e4.row j (by omega) (by omega)
   have x1:(gs++[g])[j]=gs[j]'(by omega):=List.getElem_append_left (by omega)
   have x2:(yA l f (k+1))[j]=(yA l f k)[j]'(by omega):=by simp only[e];exact List.getElem_append_left (by omega)
   rw[x1,x2];exact⟨keep _ _ a1 a2,a2,by rw[<-hsz];have:=N.size;omega⟩
  obtain rfl:j=k:=by omega
  have x1:(gs++[g])[j]=g:=by rw[List.getElem_append_right (by omega)];simp
  have x2:(yA l f (j+1))[j]=row:=by simp only[e];rw[List.getElem_append_right (by omega)];simp
  rw[x1,x2];exact⟨m,by omega,m.lt⟩
 exact(e5.trans (K.mono (by omega))).setCell (p:=⟨R,2,none⟩) nLe _
theorem zDO (F:Option Addr) (fc:Nat) (f:List Nd) (A B:Option Addr) (ca cb:Nat) (l:La) (w:World) (hf:Nds w 0 F fc f) (hh:zE w 0 A ca l.h) (hl:zE w 0 B cb l.l):
  Calls Tryz.prog 27 #[.slice F f.length fc,.agg #[.slice A l.h.length ca,.slice B l.l.length cb]] w (mZ w f l):=by
 have hle:=hf.le;have hcp:=hf.cap;have hle1:=hh.le;have hle2:=hl.le;have HA:=hId ((Below.refl w.heap.size w).alloc nLe (.cells #[Value.slice A l.h.length ca,Value.slice B l.l.length cb] 27))
 go_enter Tryz.func27,Tryz.ntmps27
 go_wp2_with fail
 refine(jW _ _ _ _ (hf.below HA.o)).mono ?_;rintro e w1 ⟨rfl,h0⟩;have U:=hId (zA HA.o h0 (by simp))
 have c1:w1.cell? ⟨w,0,none⟩=some (.slice A l.h.length ca):=(h0.cell (p:=⟨w,0,none⟩) (by simp)).trans (by go_simp)
 have c2:w1.cell? ⟨w.heap.size,1,none⟩=some (.slice B l.l.length cb):=(h0.cell (p:=⟨w.heap.size,1,none⟩) (by simp)).trans (by go_simp)
 have hs1:w.heap.size+1<=w1.heap.size:=by have:=h0.size;simpa using this
 clear h0
 by_cases hcf:ckF f=0
 ·have hcf':(ckF f==0)=true:=by simpa using hcf
  have HCF:=hId hcf;clear hcf
  go_wp2_with fail
  refine(fY _ _ _ _ l 8 _ (hh.below U.o) (hl.below U.o)).mono ?_;rintro e w2 ⟨rfl,h1⟩;have HB2:=hId (zA U.o h1 (by omega))
  have c3:w2.cell? ⟨w,0,none⟩=some (.slice A l.h.length ca):=(qZ h1 (by omega)).trans c1
  have c4:w2.cell? ⟨w.heap.size,1,none⟩=some (.slice B l.l.length cb):=(qZ h1 (by omega)).trans c2
  have hs2:w.heap.size+1<=w2.heap.size:=by have:=h1.size;omega
  clear h1 c1 c2
  by_cases hcl:ckL l 8=0
  ·have hcl':(ckL l 8 !=0)=false:=by simpa using hcl
   have HCL:=hId hcl;have HOK:=hId (lZ hcl);have hlim:l.h.length+l.l.length<=8000:=by have:=HOK.o;omega
   clear hcl;have HB3:=hId ((HB2.o.alloc (by omega) (.cells #[Value.slice A l.h.length ca,Value.slice B l.l.length cb] 22)).drew)
   have h3:w.heap.size<((w2.alloc (.cells #[Value.slice A l.h.length ca,Value.slice B l.l.length cb] 22)).drew).heap.size:=by simp;omega
   have g0:((w2.alloc (.cells #[Value.slice A l.h.length ca,Value.slice B l.l.length cb] 22)).drew).cell? ⟨w,0,none⟩=some (.slice A l.h.length ca):=(World.cell?_alloc_lt w2 _ ⟨w,0,none⟩ (by show w.heap.size<_;omega)).trans c3
   have g1:((w2.alloc (.cells #[Value.slice A l.h.length ca,Value.slice B l.l.length cb] 22)).drew).cell? ⟨w.heap.size,1,none⟩=some (.slice B l.l.length cb):=(World.cell?_alloc_lt w2 _ ⟨w.heap.size,1,none⟩ (by show w.heap.size<_;omega)).trans c4
   have HCON:=hId (zBS w2.heap.size A B ca cb l.h l.l ((w2.alloc (.cells #[Value.slice A l.h.length ca,Value.slice B l.l.length cb] 22)).drew) (hh.below HB3.o) (hl.below HB3.o) (by omega) (by go_simp) (by go_simp) (by simp))
   go_wp2_with fail
   go_region_held3 (fun w'=>w'.cell? ⟨w,0,none⟩=some (.slice A l.h.length ca)/\w'.cell? ⟨w.heap.size,1,none⟩=some (.slice B l.l.length cb))
    (first|go_keep|exact⟨q0,q1⟩)
    (first
     |(go_at_call 49;refine HCON.o.mono ?_;rintro e s ⟨C,cc,rfl,hcat,h2⟩;have q0:s.cell? ⟨w,0,none⟩=some (.slice A l.h.length ca):=(qZ h2 h3).trans g0;have q1:s.cell? ⟨w.heap.size,1,none⟩=some (.slice B l.l.length cb):=(qZ h2 h3).trans g1))
   have HB4:=hId (zA HB3.o h2 (by simp;omega))
   have hs3:w.heap.size+1<=s.heap.size:=by have:=h2.size;simp at this;omega
   have HCAT:=hId (hcat.low (Nat.zero_le _));clear hcat h2 HCON g0 g1 q0 q1 h3 c3 c4
   have hW:zIM s C (l.h.length+l.l.length) cc l.h.length=s.alloc (.cells #[Value.slice C (l.h.length+l.l.length) cc,Value.int IntKind.i64 l.h.length,Value.slice none 0 0] 120):=rfl
   have HF:Hid (∀ W0,W0=zIM s C (l.h.length+l.l.length) cc l.h.length->gD W0 s.heap.size C l.n cc l.h.length/\W0.cell? ⟨s.heap.size,2,none⟩=some (.slice none 0 0)/\W0.frozen? ⟨s.heap.size,2,none⟩=false/\Below s s W0/\Below w w W0/\s.heap.size<W0.heap.size):=by
    rintro W0 rfl;unfold zIM;refine⟨⟨by go_simp;rfl,by go_simp,by simp⟩,by go_simp,by go_simp,bLa,HB4.o.alloc (by omega) _,by simp⟩
   rw[<-hW];have HFF:=hId (HF.o _ rfl);clear hW HF;generalize zIM s C (l.h.length+l.l.length) cc l.h.length=W0 at *;obtain⟨R,hR⟩:∃R,R=s.heap.size:=⟨_,rfl⟩;rw[<-hR] at HFF hs3 ⊢;have HR:=hId hR;clear hR
   obtain⟨f1,f2,f3,f4,f5,f6⟩:=HFF.o;have HI0:Hid (zDj w s R C cc l f 0 W0):=⟨none,0,[],f1,f2,f3,⟨by simpa[yA] using World.ownsRow_nil _ _ _ _,rfl,fun k h=>by simp[yA] at h⟩,f4,f5⟩
   have hln:l.n<=8000:=hlim
   have hlh:l.h.length<l.n:=by have:=HOK.o;unfold La.n;omega
   have hfl:f.length<=12:=(zDN HCF.o).2.1
   clear f1 f2 f3 f4 f5 HFF HB3 HB4 U HB2 HA
   go_wp2
   go_loopw [32] (fun i wr=>∃k:Nat,k<=f.length/\i=.int .i64 k/\zDj w s R C cc l f k wr/\mQ (f.drop k) k=0) (fun i _=>f.length-(intOf i).toNat)
   case atStart=>exact⟨0,Nat.zero_le _,rfl,HI0.o,(zDN HCF.o).2.2.2⟩
   obtain⟨k,hk,rfl,hinv,hck⟩:=hrel;have HI:=hId hinv;have HCK:=hId hck;clear hinv hck;obtain⟨T,tc,gs,d1,d2,d3,d4,d5,d6⟩:=HI.o;have O:(yA l f k).length=k:=jA l f k
   by_cases hlt:k<f.length
   ·obtain⟨b,o,rfl,_,hbl,hc1,hc2,hc3,hc4⟩:=Nds.at_ (hf.below d6) hlt
    have m:Below wr wr (eE wr f[k]):=bLa
    have HX:=hId (zHO wr f[k]);have N:R<wr.heap.size:=d1.2.2;have e1:=d1.below m N;have e2:=(qZ m N).trans d2;have e3:(eE wr f[k]).frozen? ⟨R,2,none⟩=false:=(m.frozen (p:=⟨R,2,none⟩) N).trans d3
    have e4:=d4.below m;have e5':=HCAT.o.below d5 (by rw[HR.o];exact nLe)
    have e5:=e5'.below m;have e55:=d5.trans (m.mono (Nat.le_of_lt N));have e6:=zA d6 m d6.size;have hXe:wr.heap.size<(eE wr f[k]).heap.size:=by simp[eE]
    go_wp2_with fail
    change Code.wp _ _ _ _ (eE wr f[k]);generalize eE wr f[k]=W1 at *;generalize wr.heap.size=X at *;have HE1:=hId e1;have HE4:=hId e4;have HE5:=hId e55;have HE6:=hId e6
    have HN:=hId (zDs R C cc l T tc (yA l f k) f[k] W1.drew e1 (e5.below (Below.refl _ W1).drew) HOK.o.2.2.2 hlh (by omega) e2 ((e4.below (Below.refl _ W1).drew).rows (by omega) (fun r hr=>by rw[bO l f k r hr];omega)) (bO l f k) (by
     rw[O];have:=HCK.o;rw[fP hlt] at this
     split at this
     ·assumption
     exact this))
    obtain⟨x0,x1,x2,x3⟩:=HX.o;clear d1 d2 d3 d4 d5 d6 m e1 e4 e5 e5' e55 e6 hc1 hc2 hc3 hc4 hf hbl;obtain⟨row,J⟩:∃row,row=gX l (yA l f k) f[k]:=⟨_,rfl⟩;rw[<-J] at HN;have HROW:=hId J
    obtain⟨cells,d⟩:∃c,c=gs.zipWith (fun g r=>Value.slice (some ⟨g,0,none⟩) r.length r.length) (yA l f k):=⟨_,rfl⟩
    have h4:=HE4.o.own;rw[<-d,O] at h4;have HCELLS:=hId d;have HOWN:=hId h4;rw[O] at e2;have HRL:=hId O;clear h4 d J O;obtain⟨i0,hi0,hz0,hz1,hz2⟩:=info_parts zH3
    have m1:k+1<=maxLen:=by simp only[maxLen];omega
    have m2:(k+1)*24<=140737488355328:=by omega
    go_region_law (first
     |(refine zB9 (w4.alloc (.cells #[.slice (some ⟨g,0,none⟩) row.length row.length] 28)) rfl (.tmp 40) (.tmp 44) _ rfl (R+1) 28 i0 _ 1 24 Tryz.underlying53 hi0 hz0 hz1 hz2 rfl (by decide) (.slice T k tc) k cells (by go_simp) HOWN5.o (some ⟨w4,0,none⟩) 1 1 [.slice (some ⟨g,0,none⟩) row.length row.length] (by go_simp) rfl HRD5.o (by simp[Value.oneCell']) m1 m2 K ?_;intro v5 w5 u hg5 hat5;obtain⟨A5,c5,hv5,_⟩:=zF u;subst hv5;have q5:=hg5.cell (a:=⟨R,2,none⟩) (v:=.slice T k tc) q4 q4n;have q6:w5.frozen? ⟨R,2,none⟩=false:=q6f w5 hg5)
     |(go_simp;go_at_call 75;refine HN.o.mono ?_;rintro e w4 ⟨g,rfl,hg,hrow,hb4⟩;obtain⟨hq1,hq2,HOWN5,HRD5,K,q4,q4n,q6f⟩:=zIw (g:=g) (row:=row) (w4:=w4) N hXe HOWN.o e2 e3 hb4))
    all_goals
     have HT:=hId (zIU (w:=w) (l:=l) (f:=f) (gs:=gs) hlt (by omega) N hXe HE1.o HE4.o HE5.o HE6.o HROW.o hb4 hrow hg (by rw[<-HCELLS.o];exact u) hg5 q5 q6)
     clear u hg5 hat5 q5 q6 q4 q4n q6f hq1 hq2 K hb4 hrow hg
     go_wp2
     go_roundw
     case rel=>exact⟨k+1,by omega,by go_num,HT.o,by have:=HCK.o;rw[fP hlt] at this;split at this<;>simp_all⟩
     case measure=>simp[intOf];omega
   have hkf:k=f.length:=by omega
   have HP:Hid (mZ w f l (.returned (.tuple #[.slice T (yA l f k).length tc,(0:Int)])) wr):=by
    have e:ckT f l=0:=by unfold ckT;rw[if_pos HCF.o];exact HCL.o
    refine⟨d6,?_⟩;rw[e,if_pos rfl];subst hkf;exact⟨_,gs,rfl,zGb d4.own (by omega),d4.len,fun j h h'=>⟨(d4.row j h h').1,by have:=(d4.row j h h').2.1;omega,(d4.row j h h').2.2⟩⟩
   clear hkf O
   go_wp2_with fail
   go_ret2
   exact HP.o
  have hcl':(ckL l 8 !=0)=true:=by simpa using hcl
  have HP:Hid (mZ w f l (.returned (.tuple #[(),(ckL l 8)])) w2):=by
   have e:ckT f l=ckL l 8:=by unfold ckT;rw[if_pos HCF.o]
   exact⟨HB2.o,by rw[e,if_neg hcl]⟩
  clear hcl
  go_wp2
  go_ret2
  exact HP.o
 have hcf':(ckF f==0)=false:=by simpa using hcf
 have hcf2:(ckF f !=0)=true:=by simpa using hcf
 have HP:Hid (mZ w f l (.returned (.tuple #[(),(ckF f)])) w1):=by
  have e:ckT f l=ckF f:=by unfold ckT;rw[if_neg hcf]
  exact⟨U.o,by rw[e,if_neg hcf]⟩
 clear hcf
 go_wp2
 go_ret2
 exact HP.o
end
end Go.Proofs.YtoglgeaiiipchaaGreatDoor

import Derived.Test.YtoglgeaiiipchaaGreatDoorLRY1
import Derived.Deep.RegionLaw
import Derived.RangeFuncNested
import Derived.RangeFuncLeaves
import Derived.RangeFuncBox
import Derived.Maps.Range
set_option linter.unusedSimpArgs false
set_option linter.unusedVariables false
set_option maxRecDepth 100000
set_option maxHeartbeats 8000000
namespace Go.Proofs.YtoglgeaiiipchaaGreatDoor
section
open Go Go.RowKit Go.Sort
structure zM (w:World) (lo:Nat) (a:Au) (A B C:Option Addr) (ca cb cc:Nat):Prop where
 fs:zE w lo A ca a.fs
 gs:xG w lo B cb a.gs
 ss:jZ w lo C cc a.ss
theorem zM.below {w w':World} {lo:Nat} {a:Au} {A B C:Option Addr} {ca cb cc:Nat} (h:zM w lo a A B C ca cb cc) (d:Below w w w'):zM w' lo a A B C ca cb cc:=
 ⟨h.fs.below d,h.gs.below d,h.ss.below d⟩
theorem zM.low {w:World} {lo lo':Nat} {a:Au} {A B C:Option Addr} {ca cb cc:Nat} (h:zM w lo a A B C ca cb cc) (d:lo'<=lo):zM w lo' a A B C ca cb cc:=
 ⟨h.fs.low d,h.gs.low d,h.ss.low d⟩
def auW (w:World) (a:Au) (A B C:Option Addr) (ca cb cc:Nat):World:=
 w.alloc (.cells #[a.st,a.le,.slice A a.fs.length ca,.slice B a.gs.length cb,.slice C a.ss.length cc] 31)
structure AuW (w W:World) (a:Au) (A B C:Option Addr) (ca cb cc:Nat):Prop where
 below:Below w w W
 size:W.heap.size=w.heap.size+1
 c0:W.cell? ⟨w,0,none⟩=some (.int .i64 a.st)
 c1:W.cell? ⟨w.heap.size,1,none⟩=some (.int .i64 a.le)
 c2:W.cell? ⟨w.heap.size,2,none⟩=some (.slice A a.fs.length ca)
 c3:W.cell? ⟨w.heap.size,3,none⟩=some (.slice B a.gs.length cb)
 c4:W.cell? ⟨w.heap.size,4,none⟩=some (.slice C a.ss.length cc)
theorem jN (w:World) (a:Au) (A B C:Option Addr) (ca cb cc:Nat):AuW w (auW w a A B C ca cb cc) a A B C ca cb cc:=by
 unfold auW;refine⟨by go_grown,by simp,?_,?_,?_,?_,?_⟩<;>go_simp
structure yG (W:World) (V:Nat) (a:Au) (A B C:Option Addr) (ca cb cc:Nat):Prop where
 lt:V<W.heap.size
 c0:W.cell? ⟨V,0,none⟩=some (.int .i64 a.st)
 c1:W.cell? ⟨V,1,none⟩=some (.int .i64 a.le)
 c2:W.cell? ⟨V,2,none⟩=some (.slice A a.fs.length ca)
 c3:W.cell? ⟨V,3,none⟩=some (.slice B a.gs.length cb)
 c4:W.cell? ⟨V,4,none⟩=some (.slice C a.ss.length cc)
theorem yG.below {W W':World} {V n:Nat} {a:Au} {A B C:Option Addr} {ca cb cc:Nat} (h:yG W V a A B C ca cb cc) (d:Below n W W') (e:V<n):yG W' V a A B C ca cb cc:=
 ⟨Nat.lt_of_lt_of_le h.lt d.size,(d.cell (p:=⟨V,0,none⟩) e).trans h.c0,(d.cell (p:=⟨V,1,none⟩) e).trans h.c1,(d.cell (p:=⟨V,2,none⟩) e).trans h.c2,(d.cell (p:=⟨V,3,none⟩) e).trans h.c3,(d.cell (p:=⟨V,4,none⟩) e).trans h.c4⟩
theorem AuW.at {w W:World} {a:Au} {A B C:Option Addr} {ca cb cc:Nat} (h:AuW w W a A B C ca cb cc):yG W w.heap.size a A B C ca cb cc:=⟨by have:=h.size;omega,h.c0,h.c1,h.c2,h.c3,h.c4⟩
theorem fL (n a b:Int) (w:World):Calls Tryz.prog 35 #[n,a,b] w fun e w'=>e=.returned (.bool (btw n a b))/\Below w w w':=
 (zGY n a b w).mono fun _ _ ⟨d,g⟩=>⟨d,by rw[<-g];exact bRf⟩
theorem zKR (s t:Stp) (w:World):Calls Tryz.prog 47 #[.agg #[s.f,s.l,s.t],.agg #[t.f,t.l,t.t]] w fun e w'=>e=.returned (.bool (qF s t))/\Below w w w':=by
 have g:=hId (show qF s t=if s.f=t.f then(if s.l=t.l then decide (s.t<t.t) else decide (s.l<t.l)) else decide (s.f<t.f) from rfl)
 generalize qF s t=v at *
 by_cases h1:s.f=t.f
 ·have h:(s.f !=t.f)=false:=by simp[h1]
  by_cases h2:s.l=t.l
  ·have i:(s.l !=t.l)=false:=by simp[h2]
   have d:Hid (v=decide (s.t<t.t)):=by show v=_;rw[g.o,if_pos h1,if_pos h2]
   clear h1 h2
   go_enter Tryz.func47,Tryz.ntmps47
   go_wp2_with fail
   go_ret
   exact⟨yJ d.o.symm,by go_grown⟩
  have i:(s.l !=t.l)=true:=by simpa using h2
  have d:Hid (v=decide (s.l<t.l)):=by show v=_;rw[g.o,if_pos h1,if_neg h2]
  clear h1 h2
  go_enter Tryz.func47,Tryz.ntmps47
  go_wp2_with fail
  go_ret
  exact⟨yJ d.o.symm,by go_grown⟩
 have h:(s.f !=t.f)=true:=by simpa using h1
 have d:Hid (v=decide (s.f<t.f)):=by show v=_;rw[g.o,if_neg h1]
 clear h1
 go_enter Tryz.func47,Tryz.ntmps47
 go_wp2_with fail
 go_ret
 exact⟨yJ d.o.symm,by go_grown⟩
end
section
open Go Go.RowKit
theorem qX:(Tryz.prog.info? 3).map (fun i=>(i.zero,i.size,i.bytes))=some (some (.int .i64 0),1,8):=by kernel_rfl
theorem fV:(Tryz.prog.info? 4).map (fun i=>(i.zero,i.size,i.bytes))=some (some (.bool false),1,1):=by kernel_rfl
theorem zH3:(Tryz.prog.info? 28).map (fun i=>(i.zero,i.size,i.bytes))=some (some (.slice none 0 0),1,24):=by kernel_rfl
def zU (w:World) (g:Nat) (xs:List Bool):Prop:=w.heap[g]?=some (.cells (xs.map Value.bool).toArray 4 (0,0))
theorem zU.below {w w':World} {g:Nat} {xs:List Bool} (h:zU w g xs) {B:Nat} (d:Below B w w') (e:g<B):zU w' g xs:=(d.block g e).trans h
theorem zU.lt {w:World} {g:Nat} {xs:List Bool} (h:zU w g xs):g<w.heap.size:=by
 rcases Nat.lt_or_ge g w.heap.size with hl|hl
 ·exact hl
 unfold zU at h;rw[Array.getElem?_eq_none hl] at h;cases h
theorem zU.cell {w:World} {g:Nat} {xs:List Bool} (h:zU w g xs) {i:Nat} (d:i<xs.length):w.cell? ⟨g,i,none⟩=some (.bool xs[i])/\w.frozen? ⟨g,i,none⟩=false:=by
 unfold zU at h;refine⟨?_,?_⟩
 ·simp only[World.cell?,h]
  simp[d]
 simp only[World.frozen?,h]
 simp
theorem zU.set_ {w:World} {g:Nat} {xs:List Bool} (h:zU w g xs) (i:Nat) (v:Bool):zU (w.setCell ⟨g,i,none⟩ (.bool v)) g (xs.set i v):=by
 unfold zU at h ⊢
 simp[World.setCell,Array.getElem?_modify,h]
theorem zU.getD_ {w:World} {g:Nat} {xs:List Bool} (h:zU w g xs) {i:Nat} (d:i<xs.length) (s:Bool):w.cell? ⟨g,i,none⟩=some (.bool (xs.getD i s))/\w.frozen? ⟨g,i,none⟩=false:=by
 have:=h.cell d;rw[List.getD_eq_getElem?_getD,List.getElem?_eq_getElem d];exact this
theorem zBD (xs:List Bool):xs.flatMap (fun b:Bool=>[Value.bool b])=xs.map Value.bool:=by
 induction xs with
 |nil=>rfl
 |cons x r ih=>rw[List.flatMap_cons,ih];rfl
theorem zU.bools {w:World} {g:Nat} {xs:List Bool} (h:zU w g xs) (i:xs.length<=1000000):xG w g (some ⟨g,0,none⟩) xs.length xs:=by
 refine⟨nLe,by omega,by omega,fun _=>⟨g,0,rfl,nLe,h.lt,fun j u e=>?_⟩,fun _ b off d j _=>?_⟩
 rotate_left
 ·injection d with d
  injection d with e1 e2;subst e1;unfold zU at h
  simp[World.frozen?,h]
 rw[zBD] at e;unfold zU at h;simp only[World.cell?,h,Nat.zero_add]
 simpa using e
theorem zU.grown {w w':World} {g:Nat} {xs:List Bool} {row:Option Nat} (h:zU w g xs) (e:w.grownBy w' row) (d:some g≠row):zU w' g xs:=(e.block g h.lt d).trans h
theorem zU.set_far {w:World} {g:Nat} {xs:List Bool} (h:zU w g xs) {p:Addr} (d:g≠p.block) (u:Value):zU (w.setCell p u) g xs:=(Below.heap_setCell w p u g d).trans h
noncomputable def zAy (s:Bool) (g:Nat) (w:World):Nat:=
 match w.heap[g]? with
 |some (.cells cs _ _)=>(cs.toList.filter (fun v=>match v with| .bool b=>b==s|_=>false)).length
 |_=>0
theorem zFu {s:Bool} {g:Nat} {w:World} {xs:List Bool} (h:zU w g xs):zAy s g w=xs.count s:=by
 unfold zU at h;unfold zAy;rw[h];simp only[List.filter_map,List.length_map,List.count_eq_length_filter]
 congr 1
theorem zU.new (w:World) (n:Nat):zU (w.alloc (.cells (madeCells #[Value.bool false] n) 4)) w.heap.size (List.replicate n false):=by
 have e:madeCells #[Value.bool false] n=((List.replicate n false).map Value.bool).toArray:=by
  rw[List.map_replicate];unfold madeCells
  apply Array.ext
  ·simp
  intro i d g
  simp[Nat.mod_one]
 show(w.heap.push _)[w.heap.size]?=_;rw[e]
 simp
theorem jV (st:Int) (n:Nat) (i:(n:Int)=st) (m:n<=1000000):∀w,(Instr.makeSlice 28 st st).run Tryz.prog w=.ok (.slice (some ⟨w,0,none⟩) n n) (w.alloc (.cells (madeCells #[Value.bool false] n) 4)):=by
 intro w;obtain⟨j,d,e,g,h⟩:=info_parts fV;have:=run_make (P:=Tryz.prog) w 28 4 j (.bool false) Tryz.underlying28 d e .i64 .i64 st st (by omega) (by omega) (by rw[h];omega) (by omega)
 rw[this,<-i,g]
 simp[Value.cells]
structure iN (a b:Nat) (w w':World):Prop where
 size:w.heap.size<=w'.heap.size
 block:∀k,a<=k->k<b->w'.heap[k]?=w.heap[k]?
theorem iN.set (a b:Nat) (w:World) {p:Addr} (u:Value) (g:p.block<a\/b<=p.block):iN a b w (w.setCell p u):=⟨by simp[World.setCell],fun k d e=>Below.heap_setCell _ _ _ _ (by omega)⟩
section
variable {α:Type} {enc:α->List Value} {bt:Nat} {w w':World} {lo:Nat} {A:Option Addr} {c:Nat} {xs:List α}
theorem Rd.kept {xs:List Value} (h:Rd w lo A xs) (i:iN lo w.heap.size w w'):Rd w' lo A xs:=by
 intro g;obtain⟨b,off,m,d,e,s⟩:=h g;exact⟨b,off,m,d,Nat.lt_of_lt_of_le e i.size,fun j u J=>(World.cell?_of_block (w:=w) (a:=⟨b,off+j,none⟩) (i.block b d e)).trans (s j u J)⟩
theorem SlE.kept (h:SlE enc bt w lo A c xs) (g:iN lo w.heap.size w w'):SlE enc bt w' lo A c xs:=⟨h.le,h.cap,h.max,h.rd.kept g,h.fz.on h.rd fun b _ _ d e _=>World.frozen?_of_block (w:=w) (g.block b d e)⟩
end
theorem Rd.new (w:World) (cs:Array Value) (e:TypeId):Rd (w.alloc (.cells cs e)) 0 (some ⟨w,0,none⟩) cs.toList:=by
 intro _;refine⟨_,0,rfl,Nat.zero_le _,by simp,fun j u d=>?_⟩
 have h:(w.alloc (.cells cs e)).heap[w.heap.size]?=some (.cells cs e):=by
  show(w.heap.push _)[w.heap.size]?=_
  simp
 simp only[World.cell?,h,Nat.zero_add]
 simpa using d
def xZ (f:Nat->Int) (a n:Nat):List Int:=(List.range n).map fun i=>f (a+i)
end
section
open Go Go.RowKit Go.Sort
theorem yQ (W:World) (g i:Nat) (v:Value):W.grownBy (W.setCell ⟨g,i,none⟩ v) (some g):=
 ⟨rfl,rfl,rfl,by simp[World.setCell],fun k _ d=>Below.heap_setCell _ _ _ _ (fun e=>d (by rw[show k=g from e]))⟩
theorem zO {a b c:World} {r:Option Nat} (h:a.grownBy b r) (d:b.grownBy c r):a.grownBy c r:=
 ⟨d.os.trans h.os,d.tape.trans h.tape,d.output.trans h.output,Nat.le_trans h.size d.size,fun k e g=>(d.block k (Nat.lt_of_lt_of_le e h.size) g).trans (h.block k e g)⟩
theorem eI {a b:World} (r:Option Nat) (h:Below a a b):a.grownBy b r:=⟨h.os,h.tape,h.output,h.size,fun k d _=>h.block k d⟩
theorem zE.grown_bool {w w':World} {lo:Nat} {A:Option Addr} {c g:Nat} {xs:List Int} {gs:List Bool} (h:zE w lo A c xs) (hb:zU w g gs) (hg:w.grownBy w' (some g)):zE w' lo A c xs:=by
 have s:∀b off,A=some ⟨b,off,none⟩->xs≠[]->b≠g:=by
  rintro b off J i rfl
  cases xs with
  |nil=>exact i rfl
  |cons x r=>
   obtain⟨b',O,d,_,_,U⟩:=h.rd (by simp)
   rw[J] at d;injection d with d;injection d with e1 e2;subst e1;have:=U 0 x rfl;unfold zU at hb;simp only[World.cell?,hb] at this
   simp at this
 have K:(xs.flatMap (fun n:Int=>[Value.int .i64 n]))≠[]->xs≠[]:=by rintro h rfl;exact h rfl
 have h1:Fz w' lo A (xs.flatMap (fun n:Int=>[Value.int .i64 n])).length:=by
  intro h0 b off J j N;have i:xs≠[]:=K (fun e=>by rw[e] at N;exact absurd N (Nat.not_lt_zero j))
  have m:b<w.heap.size:=by
   obtain⟨b',O,d,_,m,_⟩:=h.rd (fun e=>by rw[e] at N;exact absurd N (Nat.not_lt_zero j))
   rw[J] at d;injection d with d;injection d with e1 e2;omega
  exact(World.frozen?_of_block (w:=w) (a:=⟨b,off+j,none⟩) (hg.block b m (fun e=>s b off J i (by simpa using e)))).trans (h.fz h0 b off J j N)
 refine⟨h.le,h.cap,h.max,fun i=>?_,h1⟩
 obtain⟨b,off,J,hlo,m,U⟩:=h.rd i;have s:=s b off J (K i)
 exact⟨b,off,J,hlo,Nat.lt_of_lt_of_le m hg.size,fun j u hu=>(World.cell?_of_block (w:=w) (a:=⟨b,off+j,none⟩) (hg.block b m (fun e=>s (by simpa using e)))).trans (U j u hu)⟩
def dS:Value:=.agg #[(0:Int),(0:Int),(),(),()]
theorem zZ {W:World} {V:Nat} {d e g i j:Value} {t:TypeId} (h:W.heap[V]?=some (.cells #[d,e,g,i,j] t (0,0))):
  W.cell? ⟨V,0,none⟩=some d/\W.cell? ⟨V,1,none⟩=some e/\W.cell? ⟨V,2,none⟩=some g/\W.cell? ⟨V,3,none⟩=some i/\W.cell? ⟨V,4,none⟩=some j/\W.frozen? ⟨V,0,none⟩=false/\W.frozen? ⟨V,1,none⟩=false/\W.frozen? ⟨V,2,none⟩=false/\W.frozen? ⟨V,3,none⟩=false/\W.frozen? ⟨V,4,none⟩=false:=by
 refine⟨?_,?_,?_,?_,?_,?_,?_,?_,?_,?_⟩<;>simp[World.cell?,World.frozen?,h]
def set5 (w:World) (V:Nat) (v0 v1 v2 v3 v4:Value):World:=((((w.setCell ⟨V,0,none⟩ v0).setCell ⟨V,1,none⟩ v1).setCell ⟨V,2,none⟩ v2).setCell ⟨V,3,none⟩ v3).setCell ⟨V,4,none⟩ v4
theorem zS {B V:Nat} {a w:World} (h:Below B a w) (d:B<=V) (e g i j m:Value):Below B a (set5 w V e g i j m):=
 ((((h.setCell (p:=⟨V,0,none⟩) d _).setCell (p:=⟨V,1,none⟩) d _).setCell (p:=⟨V,2,none⟩) d _).setCell (p:=⟨V,3,none⟩) d _).setCell (p:=⟨V,4,none⟩) d _
theorem zW {w:World} {V:Nat} {m s u J K:Value} {t:TypeId} (h:w.heap[V]?=some (.cells #[m,s,u,J,K] t (0,0))) (d e g i j:Value):
  (set5 w V d e g i j).heap[V]?=some (.cells #[d,e,g,i,j] t (0,0)):=by
 simp[set5,World.setCell,Array.getElem?_modify,h]
theorem aF {d:Func} {u:Tmp} (h:d.results=#[.cell 2 31,.tmp u]) (tmps:Array Value) (w:World) (V:Nat) {e g i j m x:Value} (J:tmps[2]?=some (.pointer (some ⟨V,0,none⟩))) (K:tmps[u]?=some x)
  (s:w.heap[V]?=some (.cells #[e,g,i,j,m] 31 (0,0))):(results d tmps).run Tryz.prog w=.ok (.tuple #[.agg #[e,g,i,j,m],x]) w:=by
 obtain⟨N,O,U,r3,r4,_⟩:=zZ s
 simp[results,h,go_sem,J,K,N,O,U,r3,r4]
theorem pB (w:World) (V:Nat) (d e g i j:Value) {b:Nat} (h:b≠V):(set5 w V d e g i j).heap[b]?=w.heap[b]?:=by
 unfold set5;rw[Below.heap_setCell _ ⟨V,4,none⟩ _ _ h,Below.heap_setCell _ ⟨V,3,none⟩ _ _ h,Below.heap_setCell _ ⟨V,2,none⟩ _ _ h,Below.heap_setCell _ ⟨V,1,none⟩ _ _ h,Below.heap_setCell _ ⟨V,0,none⟩ _ _ h]
theorem uG (w:World) (V:Nat) (d e g h i:Value):(set5 w V d e g h i).heap.size=w.heap.size:=by simp[set5,World.setCell]
theorem Rd.set5_ {w:World} {lo V:Nat} {A:Option Addr} {xs:List Value} (h:Rd w lo A xs) (hV:V<lo) (i m s J K:Value):Rd (set5 w V i m s J K) lo A xs:=by
 intro g;obtain⟨b,off,N,d,e,O⟩:=h g;exact⟨b,off,N,d,by rw[uG];exact e,fun j u U=>(World.cell?_of_block (w:=w) (a:=⟨b,off+j,none⟩) (pB w V i m s J K (by show b≠V;omega))).trans (O j u U)⟩
theorem Fz.set5_ {w:World} {lo V:Nat} {A:Option Addr} {xs:List Value} (h:Fz w lo A xs.length) (s:Rd w lo A xs) (u:V<lo) (d e g i j:Value):Fz (set5 w V d e g i j) lo A xs.length:=
 h.on s fun b _ _ m _ _=>World.frozen?_of_block (w:=w) (pB w V d e g i j (by show b≠V;omega))
theorem zM.set5_ {w:World} {lo V:Nat} {a:Au} {A B C:Option Addr} {ca cb cc:Nat} (h:zM w lo a A B C ca cb cc) (d:V<lo) (e g i j m:Value):zM (set5 w V e g i j m) lo a A B C ca cb cc:=
 ⟨⟨h.fs.le,h.fs.cap,h.fs.max,h.fs.rd.set5_ d _ _ _ _ _,h.fs.fz.set5_ h.fs.rd d _ _ _ _ _⟩,⟨h.gs.le,h.gs.cap,h.gs.max,h.gs.rd.set5_ d _ _ _ _ _,h.gs.fz.set5_ h.gs.rd d _ _ _ _ _⟩,⟨h.ss.le,h.ss.cap,h.ss.max,h.ss.rd.set5_ d _ _ _ _ _,h.ss.fz.set5_ h.ss.rd d _ _ _ _ _⟩⟩
theorem rN:(Tryz.prog.info? 80).map (fun i=>(i.zero,i.size,i.bytes))=some (some (.agg #[(0:Int),(0:Int),(0:Int)]),3,24):=by kernel_rfl
theorem mV {W:World} {G:Nat} {d e j g i:Value} {t:TypeId} (h:W.heap[G]?=some (.cells #[d,e,j,g,i] t (0,0))) (u:Value):(W.setCell ⟨G,2,none⟩ u).heap[G]?=some (.cells #[d,e,u,g,i] t (0,0)):=by
 simp[World.setCell,Array.getElem?_modify,h]
theorem wR {W:World} {G:Nat} {d e g i j:Value} {t:TypeId} (h:W.heap[G]?=some (.cells #[d,e,g,i,j] t (0,0))) (u:Value):(W.setCell ⟨G,4,none⟩ u).heap[G]?=some (.cells #[d,e,g,i,u] t (0,0)):=by
 simp[World.setCell,Array.getElem?_modify,h]
def viL (n:Int):List Value:=[.int .i64 n]
def vbL (b:Bool):List Value:=[.bool b]
def aL (u v:Value):Prop:=u.ownBlock=none\/u.ownBlock≠v.ownBlock
theorem aL.symm {u v:Value} (h:aL u v):aL v u:=by
 unfold aL at h ⊢
 rcases h with h|h
 ·cases hv:v.ownBlock with
  |none=>exact .inl rfl
  |some g=>exact .inr (by rw[h];simp)
 exact .inr (Ne.symm h)
structure AuM (G:Nat) (st le:Int) (fs:List Int) (gs:List Bool) (ss:List Stp) (fv gv sv:Value) (W:World):Prop where
 obj:W.heap[G]?=some (.cells #[st,le,fv,gv,sv] 31 (0,0))
 f:W.ownsRow (G+1) 3 1 fv fs.length (fs.flatMap viL)
 g:W.ownsRow (G+1) 4 1 gv gs.length (gs.flatMap vbL)
 s:W.ownsRow (G+1) 80 3 sv ss.length (ss.flatMap Stp.cells)
 fg:aL fv gv
 gs_:aL gv sv
 fs_:aL fv sv
section
variable {G:Nat} {st le:Int} {fs:List Int} {gs:List Bool} {ss:List Stp} {fv gv sv:Value} {W W':World}
theorem AuM.lt (h:AuM G st le fs gs ss fv gv sv W):G<W.heap.size:=(gLt h.obj)
theorem AuM.on (h:AuM G st le fs gs ss fv gv sv W) (d:Below W W W'):AuM G st le fs gs ss fv gv sv W':=
 ⟨(d.block G h.lt).trans h.obj,zD h.f d,zD h.g d,zD h.s d,h.fg,h.gs_,h.fs_⟩
theorem AuM.new (W:World) (le:Int):AuM W.heap.size 0 le [] [] [] () () () (W.alloc (.cells #[(0:Int),le,(),(),()] 31)):=by
 refine⟨?_,World.ownsRow_nil _ _ _ _,World.ownsRow_nil _ _ _ _,World.ownsRow_nil _ _ _ _,.inl rfl,.inl rfl,.inl rfl⟩;show(W.heap.push _)[W.heap.size]?=_
 simp
theorem kV {w:World} {base:Nat} {e:TypeId} {size n:Nat} {v:Value} {xs:List Value} (h:w.ownsRow base e size v n xs) {p:Addr} (d:p.block<base) (u:Value):(w.setCell p u).ownsRow base e size v n xs:=
 ownsRow_setCell_below h d u
theorem AuM.low (h:AuM G st le fs gs ss fv gv sv W) {p:Addr} (d:p.block<G) (u:Value):AuM G st le fs gs ss fv gv sv (W.setCell p u):=
 ⟨(Below.heap_setCell _ p u G (by omega)).trans h.obj,kV h.f (by omega) _,kV h.g (by omega) _,kV h.s (by omega) _,h.fg,h.gs_,h.fs_⟩
theorem zAk {t:TypeId} {j d e g i:Value} (h:W.heap[G]?=some (.cells #[j,d,e,g,i] t (0,0))) (u:Value):(W.setCell ⟨G,0,none⟩ u).heap[G]?=some (.cells #[u,d,e,g,i] t (0,0)):=by
 simp[World.setCell,Array.getElem?_modify,h]
theorem oQ {t:TypeId} {d e g j i:Value} (h:W.heap[G]?=some (.cells #[d,e,g,j,i] t (0,0))) (u:Value):(W.setCell ⟨G,3,none⟩ u).heap[G]?=some (.cells #[d,e,g,u,i] t (0,0)):=by
 simp[World.setCell,Array.getElem?_modify,h]
theorem AuM.states (h:AuM G st le fs gs ss fv gv sv W) (d:Int):AuM G d le fs gs ss fv gv sv (W.setCell ⟨G,0,none⟩ d):=
 ⟨zAk h.obj _,kV h.f (by show G<_;omega) _,kV h.g (by show G<_;omega) _,kV h.s (by show G<_;omega) _,h.fg,h.gs_,h.fs_⟩
theorem fK {w m O:World} {base:Nat} {e s:TypeId} {size d n N:Nat} {v u j:Value} {xs h:List Value} (K:w.ownsRow base s d u N h) (hv:w.ownsRow base e size v n xs) (i:aL u v) (J:Below w w m) (U:m.grownBy O v.ownBlock)
  (h3:j.ownBlock=v.ownBlock\/j.ownBlock=some m.heap.size) {p:Addr} (hp:p.block<base) (x:Value):(O.setCell p x).ownsRow base s d u N h/\aL u j:=by
 refine⟨kV (World.ownsRow.kept (zD K J) U ?_) hp _,?_⟩
 ·exact i
 rcases h3 with h3|h3
 ·unfold aL at i ⊢
  rw[h3];exact i
 cases hk:u.ownBlock with
 |none=>exact .inl hk
 |some g=>
  refine .inr ?_;rw[hk,h3];have:=(K.lt g hk).2;have:=J.size;intro e;have:=Option.some.inj e;omega
theorem uL {w g h:World} {G:Nat} {e:TypeId} {size n:Nat} {v:Value} {xs:List Value} (s:w.ownsRow (G+1) e size v n xs) (i:G<w.heap.size) (d:Below w w g) (j:g.grownBy h v.ownBlock) (k:Nat) (x:Value):Below G w (h.setCell ⟨G,k,none⟩ x):=
 ((d.mono (Nat.le_of_lt i)).grown j (by have:=d.size;omega) (fun k m=>by have:=(s.lt k m).1;omega)).setCell (p:=⟨G,k,none⟩) nLe _
theorem zAw {w i j:World} {G:Nat} {o:Obj} {e:TypeId} {size n:Nat} {v:Value} {xs:List Value} (h:w.heap[G]?=some o) (s:w.ownsRow (G+1) e size v n xs) (g:Below w w i) (m:i.grownBy j v.ownBlock):j.heap[G]?=some o:=by
 have d:=(gLt h);exact(m.block G (by have:=g.size;omega) (rE s (Nat.lt_succ_self G))).trans ((g.block G d).trans h)
end
def mO (G k:Nat) (v:Value) (t e:TypeId) (cs:Array Value) (n:Nat) (W:World) (Q:Value->World->Prop):Prop:=
 ∃A c,v=.slice A n c/\n<=c/\c<=9223372036854775807/\∃T3 c3 w3,(Builtin.append_ #[t,t] t #[.slice A n c,.slice (some ⟨W,0,none⟩) 1 1]).run Tryz.prog (W.alloc (.cells cs e))=.ok (.slice T3 (n+1) c3) w3/\
  w3.cell? ⟨G,k,none⟩=some v/\w3.frozen? ⟨G,k,none⟩=false/\(W.alloc (.cells cs e)).grownBy w3 v.ownBlock/\Q (.slice T3 (n+1) c3) (w3.setCell ⟨G,k,none⟩ (.slice T3 (n+1) c3))
theorem AuM.appF {G:Nat} {st le:Int} {fs:List Int} {gs:List Bool} {ss:List Stp} {fv gv sv:Value} {W:World} (h:AuM G st le fs gs ss fv gv sv W) (x:Int) (hl:fs.length<200000):
  mO G 2 fv 22 3 #[x] fs.length W (fun v' W'=>AuM G st le (fs++[x]) gs ss v' gv sv W'/\Below G W W'):=by
 obtain⟨i0,O,h0,h1,h2⟩:=info_parts qX;have U:=h.lt;have j:Below W W (W.alloc (.cells #[x] 3)):=bLa;obtain⟨A1,c1,e1,K,N,_⟩:=zF h.f
 obtain⟨v3,w3,hr,d,m,i⟩:=jC (P:=Tryz.prog) (W.alloc (.cells #[x] 3)) (G+1) 22 22 3 i0 _ 1 8 Tryz.underlying22 O h0 h1 h2 rfl (by decide) _ fs.length _ (zD h.f j) (some ⟨W,0,none⟩) 1 1 [.int .i64 x] rfl
  (Rd.new W #[x] 3) (by simp[Value.oneCell']) (by simp only[maxLen];omega) (by omega) (by simp;omega)
 obtain⟨u,J,rfl,_,_,_⟩:=zF d;have e:=zAw h.obj h.f j m;obtain⟨_,_,q2,_,_,_,_,f2,_,_⟩:=zZ e;obtain⟨k1,k2⟩:=fK h.g h.f h.fg.symm j m i (p:=⟨G,2,none⟩) (Nat.lt_succ_self G) (.slice u (fs.length+1) J)
 obtain⟨k3,k4⟩:=fK h.s h.f h.fs_.symm j m i (p:=⟨G,2,none⟩) (Nat.lt_succ_self G) (.slice u (fs.length+1) J)
 refine⟨A1,c1,e1,K,N,u,J,w3,by rw[<-e1];exact hr,q2,f2,m,⟨⟨mV e _,?_,k1,k3,k2.symm,h.gs_,k4.symm⟩,uL h.f U j m 2 _⟩⟩
 have:=kV d (p:=⟨G,2,none⟩) (Nat.lt_succ_self G) (.slice u (fs.length+1) J)
 simpa[viL] using this
theorem AuM.appG {G:Nat} {st le:Int} {fs:List Int} {gs:List Bool} {ss:List Stp} {fv gv sv:Value} {W:World} (h:AuM G st le fs gs ss fv gv sv W) (x:Bool) (hl:gs.length<200000):
  mO G 3 gv 28 4 #[x] gs.length W (fun v' W'=>AuM G st le fs (gs++[x]) ss fv v' sv W'/\Below G W W'):=by
 obtain⟨i0,O,h0,h1,h2⟩:=info_parts fV;have U:=h.lt;have j:Below W W (W.alloc (.cells #[x] 4)):=bLa;obtain⟨A1,c1,e1,K,N,_⟩:=zF h.g
 obtain⟨v3,w3,hr,d,m,i⟩:=jC (P:=Tryz.prog) (W.alloc (.cells #[x] 4)) (G+1) 28 28 4 i0 _ 1 1 Tryz.underlying28 O h0 h1 h2 rfl (by decide) _ gs.length _ (zD h.g j) (some ⟨W,0,none⟩) 1 1 [.bool x] rfl
  (Rd.new W #[x] 4) (by simp[Value.oneCell']) (by simp only[maxLen];omega) (by omega) (by simp;omega)
 obtain⟨u,J,rfl,_,_,_⟩:=zF d;have e:=zAw h.obj h.g j m;obtain⟨_,_,_,q3,_,_,_,_,f3,_⟩:=zZ e;obtain⟨k1,k2⟩:=fK h.f h.g h.fg j m i (p:=⟨G,3,none⟩) (Nat.lt_succ_self G) (.slice u (gs.length+1) J)
 obtain⟨k3,k4⟩:=fK h.s h.g h.gs_.symm j m i (p:=⟨G,3,none⟩) (Nat.lt_succ_self G) (.slice u (gs.length+1) J)
 refine⟨A1,c1,e1,K,N,u,J,w3,by rw[<-e1];exact hr,q3,f3,m,⟨⟨oQ e _,k1,?_,k3,k2,k4.symm,h.fs_⟩,uL h.g U j m 3 _⟩⟩
 have:=kV d (p:=⟨G,3,none⟩) (Nat.lt_succ_self G) (.slice u (gs.length+1) J)
 simpa[vbL] using this
theorem AuM.appS {G:Nat} {st le:Int} {fs:List Int} {gs:List Bool} {ss:List Stp} {fv gv sv:Value} {W:World} (h:AuM G st le fs gs ss fv gv sv W) (x:Stp) (hl:ss.length<200000):
  mO G 4 sv 29 80 #[x.f,x.l,x.t] ss.length W (fun v' W'=>AuM G st le fs gs (ss++[x]) fv gv v' W'/\Below G W W'):=by
 obtain⟨i0,O,h0,h1,h2⟩:=info_parts rN;have U:=h.lt;have j:Below W W (W.alloc (.cells #[x.f,x.l,x.t] 80)):=bLa;obtain⟨A1,c1,e1,K,N,_⟩:=zF h.s
 obtain⟨v3,w3,hr,d,m,i⟩:=jC (P:=Tryz.prog) (W.alloc (.cells #[x.f,x.l,x.t] 80)) (G+1) 29 29 80 i0 _ 3 24 Tryz.underlying29 O h0 h1 h2 rfl (by decide) _ ss.length _ (zD h.s j) (some ⟨W,0,none⟩) 1 1 [.int .i64 x.f,.int .i64 x.l,.int .i64 x.t] rfl
  (Rd.new W #[x.f,x.l,x.t] 80) (by simp[Value.oneCell']) (by simp only[maxLen];omega) (by omega) (by simp;omega)
 obtain⟨u,J,rfl,_,_,_⟩:=zF d;have e:=zAw h.obj h.s j m;obtain⟨_,_,_,_,q4,_,_,_,_,f4⟩:=zZ e;obtain⟨k1,k2⟩:=fK h.f h.s h.fs_ j m i (p:=⟨G,4,none⟩) (Nat.lt_succ_self G) (.slice u (ss.length+1) J)
 obtain⟨k3,k4⟩:=fK h.g h.s h.gs_ j m i (p:=⟨G,4,none⟩) (Nat.lt_succ_self G) (.slice u (ss.length+1) J);refine⟨A1,c1,e1,K,N,u,J,w3,by rw[<-e1];exact hr,q4,f4,m,⟨⟨wR e _,k1,k3,?_,h.fg,k4,k2⟩,uL h.s U j m 4 _⟩⟩
 have:=kV d (p:=⟨G,4,none⟩) (Nat.lt_succ_self G) (.slice u (ss.length+1) J)
 rw[show(ss++[x]).length=ss.length+1 by simp,show(ss++[x]).flatMap Stp.cells=ss.flatMap Stp.cells++[.int .i64 x.f,.int .i64 x.l,.int .i64 x.t] by simp[Stp.cells]]
 exact this
def vU (w:World) (g:Nat) (xs:List Int):Prop:=w.heap[g]?=some (.cells (xs.map (Value.int .i64)).toArray 3 (0,0))
theorem vU.below {w w':World} {g:Nat} {xs:List Int} (h:vU w g xs) {B:Nat} (d:Below B w w') (e:g<B):vU w' g xs:=(d.block g e).trans h
theorem vU.lt {w:World} {g:Nat} {xs:List Int} (h:vU w g xs):g<w.heap.size:=(gLt h)
theorem vU.getD_ {w:World} {g:Nat} {xs:List Int} (h:vU w g xs) {i:Nat} (d:i<xs.length):w.cell? ⟨g,i,none⟩=some (.int .i64 (xs.getD i 0))/\w.frozen? ⟨g,i,none⟩=false:=by
 unfold vU at h;rw[List.getD_eq_getElem?_getD,List.getElem?_eq_getElem d];refine⟨?_,?_⟩
 ·simp only[World.cell?,h]
  simp[d]
 simp only[World.frozen?,h]
 simp
theorem vU.set_ {w:World} {g:Nat} {xs:List Int} (h:vU w g xs) (i:Nat) (v:Int):vU (w.setCell ⟨g,i,none⟩ v) g (xs.set i v):=by
 unfold vU at h ⊢
 simp[World.setCell,Array.getElem?_modify,h]
theorem vU.set_far {w:World} {g:Nat} {xs:List Int} (h:vU w g xs) {p:Addr} (d:g≠p.block) (u:Value):vU (w.setCell p u) g xs:=(Below.heap_setCell w p u g d).trans h
theorem vU.new (w:World) (n:Nat):vU (w.alloc (.cells (madeCells #[Value.int .i64 0] n) 3)) w.heap.size (List.replicate n 0):=by
 have e:madeCells #[Value.int .i64 0] n=((List.replicate n (0:Int)).map (Value.int .i64)).toArray:=by
  rw[List.map_replicate];unfold madeCells
  apply Array.ext
  ·simp
  intro i d g
  simp[Nat.mod_one]
 show(w.heap.push _)[w.heap.size]?=_;rw[e]
 simp
theorem bL (st:Int) (n:Nat) (i:(n:Int)=st) (m:n<=1000000):∀w,(Instr.makeSlice 22 st st).run Tryz.prog w=.ok (.slice (some ⟨w,0,none⟩) n n) (w.alloc (.cells (madeCells #[Value.int .i64 0] n) 3)):=by
 intro w;obtain⟨j,d,e,g,h⟩:=info_parts qX;have:=run_make (P:=Tryz.prog) w 22 3 j (.int .i64 0) Tryz.underlying22 d e .i64 .i64 st st (by omega) (by omega) (by rw[h];omega) (by omega)
 rw[this,<-i,g]
 simp[Value.cells]
def jU (keep:List Bool) (n k:Nat):List Int:=(List.range n).map fun i=>if i<k then(pos keep i:Int) else 0
theorem oZ (keep:List Bool) (n k:Nat):(jU keep n k).length=n:=by simp[jU]
theorem zDF (keep:List Bool) (n:Nat):jU keep n 0=List.replicate n 0:=by
 refine List.ext_getElem (by simp[jU]) fun i d e=>by simp[jU]
theorem zDG (keep:List Bool) {n k:Nat} (h:k<n):(jU keep n k).set k (pos keep k:Int)=jU keep n (k+1):=by
 refine List.ext_getElem (by simp[jU]) fun i d g=>?_
 rw[List.getElem_set];simp only[jU,List.getElem_map,List.getElem_range]
 split
 ·rename_i e
  subst e;rw[if_pos (by omega)]
 split
 ·rw[if_pos (by omega)]
 rw[if_neg (by omega)]
theorem zEP (keep:List Bool) {n i:Nat} (h:i<n):(jU keep n n).getD i 0=(pos keep i:Int):=by
 unfold jU;rw[List.getD_eq_getElem?_getD,List.getElem?_map,List.getElem?_range h];show(if i<n then(pos keep i:Int) else 0)=_
 rw[if_pos h]
structure MdM (w:World) (t G:Nat) (T:List Int) (st le:Int) (fs:List Int) (gs:List Bool) (ss:List Stp) (fv gv sv:Value) (W:World):Prop where
 below:Below t w W
 tG:t<G
 row:vU W t T
 au:AuM G st le fs gs ss fv gv sv W
section
variable {w:World} {t G:Nat} {T:List Int} {st le:Int} {fs:List Int} {gs:List Bool} {ss:List Stp} {fv gv sv:Value} {W W':World}
theorem MdM.on (h:MdM w t G T st le fs gs ss fv gv sv W) (d:Below W W W'):MdM w t G T st le fs gs ss fv gv sv W':=
 ⟨zA h.below d (Nat.le_of_lt h.row.lt),h.tG,h.row.below d h.row.lt,h.au.on d⟩
theorem MdM.put (h:MdM w t G T st le fs gs ss fv gv sv W) (i:Nat) (v:Int):MdM w t G (T.set i v) st le fs gs ss fv gv sv (W.setCell ⟨t,i,none⟩ v):=
 ⟨h.below.setCell (p:=⟨t,i,none⟩) nLe _,h.tG,h.row.set_ i v,h.au.low (p:=⟨t,i,none⟩) h.tG _⟩
theorem MdM.states (h:MdM w t G T st le fs gs ss fv gv sv W) (d:Int):MdM w t G T d le fs gs ss fv gv sv (W.setCell ⟨G,0,none⟩ d):=
 ⟨h.below.setCell (p:=⟨G,0,none⟩) (Nat.le_of_lt h.tG) _,h.tG,h.row.set_far (by have:=h.tG;show t≠G;omega) _,h.au.states d⟩
theorem MdM.step {m:Int} {d:List Int} {g:List Bool} {j:List Stp} {e i s:Value} (h:MdM w t G T st le fs gs ss fv gv sv W) (J:AuM G m le d g j e i s W') (u:Below G W W'):MdM w t G T m le d g j e i s W':=
 ⟨h.below.trans (u.mono (Nat.le_of_lt h.tG)),h.tG,h.row.below u h.tG,J⟩
theorem AuM.rd (h:AuM G st le fs gs ss fv gv sv W) (j:fs.length<=200000) (m:gs.length<=200000) (u:ss.length<=200000):∃A B C ca cb cc,fv=.slice A fs.length ca/\gv=.slice B gs.length cb/\sv=.slice C ss.length cc/\zM W (G+1) ⟨st,le,fs,gs,ss⟩ A B C ca cb cc:=by
 obtain⟨A,ca,rfl,d⟩:=SlE.of_own (enc:=viL) (bt:=8) h.f (by omega)
 obtain⟨B,cb,rfl,e⟩:=SlE.of_own (enc:=vbL) (bt:=1) h.g (by omega)
 obtain⟨C,cc,rfl,i⟩:=SlE.of_own (enc:=Stp.cells) (bt:=24) h.s (by omega)
 exact⟨A,B,C,ca,cb,cc,rfl,rfl,rfl,d,e,i⟩
end
theorem wG {W:World} {B:Nat} {e t:TypeId} {sz n g:Nat} {v:Value} {xs:List Value} {cs:Array Value} {m:Nat×Nat} (j:W.ownsRow B e sz v n xs) (d:W.heap[g]?=some (.cells cs t m)) (i:t≠e):v.ownBlock≠some g:=fun h=>by
 rcases j.2 with⟨rfl,_⟩|⟨g',cap,cur,rfl,_,hh,_⟩
 ·cases h
 obtain rfl:g'=g:=by simpa[Value.ownBlock] using h
 rw[hh] at d
 simp at d
 exact i d.2.1.symm
theorem yM {W:World} {B:Nat} {e t:TypeId} {sz n g:Nat} {v:Value} {xs:List Value} {cs:Array Value} {m:Nat×Nat} (d:W.ownsRow B e sz v n xs) (h:W.heap[g]?=some (.cells cs t m)) (j:t≠e) (i:Nat) (u:Value):(W.setCell ⟨g,i,none⟩ u).ownsRow B e sz v n xs:=
 World.ownsRow.kept d (yQ W g i u) (.inr (wG d h j))
theorem mT {W:World} {B m:Nat} {e j:TypeId} {sz d n N:Nat} {u v:Value} {xs i:List Value} (J:W.ownsRow B e sz u n xs) (K:W.ownsRow m j d v N i) (s:e≠j):aL u v:=by
 unfold aL
 cases hk:u.ownBlock with
 |none=>exact .inl rfl
 |some g=>
  refine .inr fun h=>?_
  rcases J.2 with⟨rfl,_⟩|⟨g',cap,cur,rfl,_,hh,_⟩
  ·cases hk
  obtain rfl:g'=g:=by simpa[Value.ownBlock] using hk
  exact wG K hh s h.symm
theorem fD {W:World} {B d:Nat} {e:TypeId} {sz n:Nat} {v:Value} {xs:List Value} (i:W.ownsRow B e sz v n xs) (j:d<=B):W.ownsRow d e sz v n xs:=by
 refine⟨i.1,?_⟩
 rcases i.2 with h|⟨g,cap,cur,h1,h2,h3⟩
 ·exact .inl h
 exact .inr ⟨g,cap,cur,h1,Nat.le_trans j h2,h3⟩
structure AuN (B G:Nat) (st le:Int) (fs:List Int) (gs:List Bool) (ss:List Stp) (fv gv sv:Value) (W:World):Prop where
 lo:B<=G
 obj:W.heap[G]?=some (.cells #[st,le,fv,gv,sv] 31 (0,0))
 f:W.ownsRow B 3 1 fv fs.length (fs.flatMap viL)
 g:W.ownsRow B 4 1 gv gs.length (gs.flatMap vbL)
 s:W.ownsRow B 80 3 sv ss.length (ss.flatMap Stp.cells)
section
variable {B G:Nat} {st le:Int} {fs:List Int} {gs:List Bool} {ss:List Stp} {fv gv sv:Value} {W W':World}
theorem AuN.lt (h:AuN B G st le fs gs ss fv gv sv W):G<W.heap.size:=(gLt h.obj)
theorem AuN.on (h:AuN B G st le fs gs ss fv gv sv W) (d:Below W W W'):AuN B G st le fs gs ss fv gv sv W':=
 ⟨h.lo,(d.block G h.lt).trans h.obj,zD h.f d,zD h.g d,zD h.s d⟩
theorem xQ {w J i:World} {e h:TypeId} {size d n s:Nat} {v u:Value} {xs g:List Value} {cs:Array Value} {t:TypeId} {m:Nat×Nat} (j:w.ownsRow B h d u s g) (hv:w.ownsRow B e size v n xs) (N:h≠e) (K:Below w w J) (O:J.grownBy i v.ownBlock)
  (U:i.heap[G]?=some (.cells cs t m)) (ht:t≠h) (k:Nat) (x:Value):(i.setCell ⟨G,k,none⟩ x).ownsRow B h d u s g:=
 yM (World.ownsRow.kept (zD j K) O (mT j hv N)) U ht k x
theorem bR {w h i:World} {e:TypeId} {size n:Nat} {v:Value} {xs:List Value} (s:w.ownsRow B e size v n xs) (u:G<w.heap.size) (d:B<=G) (g:Below w w h) (j:h.grownBy i v.ownBlock) (k:Nat) (x:Value):Below B w (i.setCell ⟨G,k,none⟩ x):=
 ((g.mono (by omega)).grown j (by have:=g.size;omega) (fun k m=>(s.lt k m).1)).setCell (p:=⟨G,k,none⟩) d _
theorem wH {w i j:World} {e:TypeId} {size n:Nat} {v:Value} {xs:List Value} {cs:Array Value} {t:TypeId} {m:Nat×Nat} (g:w.heap[G]?=some (.cells cs t m)) (J:w.ownsRow B e size v n xs) (u:t≠e) (h:Below w w i) (s:i.grownBy j v.ownBlock):j.heap[G]?=some (.cells cs t m):=by
 have d:=(gLt g);exact(s.block G (by have:=h.size;omega) (fun e=>wG J g u e.symm)).trans ((h.block G d).trans g)
theorem AuN.appF (h:AuN B G st le fs gs ss fv gv sv W) (x:Int) (hl:fs.length<=1000000000):
  mO G 2 fv 22 3 #[x] fs.length W (fun v' W'=>AuN B G st le (fs++[x]) gs ss v' gv sv W'/\Below B W W'):=by
 obtain⟨i0,N,U,h0,h1⟩:=info_parts qX;have O:=h.lt;have i:Below W W (W.alloc (.cells #[x] 3)):=bLa;obtain⟨A1,c1,e1,J,K,_⟩:=zF h.f
 obtain⟨v3,w3,hr,e,j,hat⟩:=jC (P:=Tryz.prog) (W.alloc (.cells #[x] 3)) B 22 22 3 i0 _ 1 8 Tryz.underlying22 N U h0 h1 rfl (by decide) _ fs.length _ (zD h.f i) (some ⟨W,0,none⟩) 1 1 [.int .i64 x] rfl
  (Rd.new W #[x] 3) (by simp[Value.oneCell']) (by simp only[maxLen];omega) (by omega) (by have:=h.lo;simp;omega)
 obtain⟨m,u,rfl,_,_,_⟩:=zF e;have d:=wH h.obj h.f (by decide) i j
 obtain⟨_,_,q,_,_,_,_,fz,_,_⟩:=zZ d
 refine⟨A1,c1,e1,J,K,m,u,w3,by rw[<-e1];exact hr,q,fz,j,⟨⟨h.lo,mV d _,?own,xQ h.g h.f (by decide) i j d (by decide) 2 (.slice m (fs.length+1) u),xQ h.s h.f (by decide) i j d (by decide) 2 (.slice m (fs.length+1) u)⟩,bR h.f O h.lo i j 2 _⟩⟩
 have:=yM e d (by decide) 2 (.slice m (fs.length+1) u)
 rw[show(fs++[x]).length=fs.length+1 by simp,show(fs++[x]).flatMap viL=fs.flatMap viL++[.int .i64 x] by simp[viL]]
 exact this
theorem AuN.appS (h:AuN B G st le fs gs ss fv gv sv W) (x:Stp) (hl:ss.length<=1000000000):
  mO G 4 sv 29 80 #[x.f,x.l,x.t] ss.length W (fun v' W'=>AuN B G st le fs gs (ss++[x]) fv gv v' W'/\Below B W W'):=by
 obtain⟨i0,N,U,h0,h1⟩:=info_parts rN;have O:=h.lt;have i:Below W W (W.alloc (.cells #[x.f,x.l,x.t] 80)):=bLa;obtain⟨A1,c1,e1,J,K,_⟩:=zF h.s
 obtain⟨v3,w3,hr,e,j,hat⟩:=jC (P:=Tryz.prog) (W.alloc (.cells #[x.f,x.l,x.t] 80)) B 29 29 80 i0 _ 3 24 Tryz.underlying29 N U h0 h1 rfl (by decide) _ ss.length _ (zD h.s i) (some ⟨W,0,none⟩) 1 1 [.int .i64 x.f,.int .i64 x.l,.int .i64 x.t] rfl
  (Rd.new W #[x.f,x.l,x.t] 80) (by simp[Value.oneCell']) (by simp only[maxLen];omega) (by omega) (by have:=h.lo;simp;omega)
 obtain⟨m,u,rfl,_,_,_⟩:=zF e;have d:=wH h.obj h.s (by decide) i j
 obtain⟨_,_,_,_,q,_,_,_,_,fz⟩:=zZ d
 refine⟨A1,c1,e1,J,K,m,u,w3,by rw[<-e1];exact hr,q,fz,j,⟨⟨h.lo,wR d _,xQ h.f h.s (by decide) i j d (by decide) 4 (.slice m (ss.length+1) u),xQ h.g h.s (by decide) i j d (by decide) 4 (.slice m (ss.length+1) u),?own⟩,bR h.s O h.lo i j 4 _⟩⟩
 have:=yM e d (by decide) 4 (.slice m (ss.length+1) u)
 rw[show(ss++[x]).length=ss.length+1 by simp,show(ss++[x]).flatMap Stp.cells=ss.flatMap Stp.cells++[.int .i64 x.f,.int .i64 x.l,.int .i64 x.t] by simp[Stp.cells]]
 exact this
theorem AuN.rd (h:AuN B G st le fs gs ss fv gv sv W) (m:fs.length<=1000000000) (u:gs.length<=1000000000) (J:ss.length<=1000000000):∃A d C ca cb cc,fv=.slice A fs.length ca/\gv=.slice d gs.length cb/\sv=.slice C ss.length cc/\zM W B ⟨st,le,fs,gs,ss⟩ A d C ca cb cc:=by
 obtain⟨A,ca,rfl,e⟩:=SlE.of_own (enc:=viL) (bt:=8) h.f (by omega)
 obtain⟨B,cb,rfl,i⟩:=SlE.of_own (enc:=vbL) (bt:=1) h.g (by omega)
 obtain⟨C,cc,rfl,j⟩:=SlE.of_own (enc:=Stp.cells) (bt:=24) h.s (by omega)
 exact⟨A,B,C,ca,cb,cc,rfl,rfl,rfl,e,i,j⟩
end
theorem pX {d:Func} {p u:Tmp} (h:d.results=#[.cell p 31,.tmp u]) (tmps:Array Value) (w:World) (V:Nat) {e g i j m x:Value} (J:tmps[p]?=some (.pointer (some ⟨V,0,none⟩))) (K:tmps[u]?=some x)
  (s:w.heap[V]?=some (.cells #[e,g,i,j,m] 31 (0,0))):(results d tmps).run Tryz.prog w=.ok (.tuple #[.agg #[e,g,i,j,m],x]) w:=by
 obtain⟨N,O,U,r3,r4,_⟩:=zZ s
 simp[results,h,go_sem,J,K,N,O,U,r3,r4]
end
section
open Go Go.RowKit
def zGz {α:Type} (n:Nat) (P:Program) (g:Nat) (lb:Array Value) (encs:α->Array Value) (Kp:World->World->Prop) (S:World->Prop) (xs:List α) (w:World):Prop:=
 ∀(l:Nat) (J Jx:List α->World->Prop) (W:World),Below w w W->S W->OwnFrom W.heap.size J->OwnFrom W.heap.size Jx->
  (∀ pre x W1,J pre W1->pre++[x]<+:xs->YieldAt Fence.wide (n-1) P l (encs x) W1 fun e W'=>
   (e=.returned (.bool true)/\J (pre++[x]) W'/\Kp W1 W')\/(e=.returned (.bool false)/\Jx (pre++[x]) W'/\Kp W1 W'))->
  J [] W->
  CallsIn Fence.wide n P g (#[.func (.yield l) #[] #[]]++lb) W fun e W'=>(∃ v,e=.returned v)/\(J xs W' \/∃pre,pre<+:xs/\Jx pre W')
def zCz {α:Type} (B:Nat) (Kp:World->World->Prop) (I:List α->World->Prop) (Ix:Code->List α->World->Prop) (xs:List α) (W:World):Exit->Act->World->Prop
 | .normal,_,W'=>KeepsFrom B W W'/\Kp W W'/\I xs W'
 | .ret,_,W'=>KeepsFrom B W W'/\Kp W W'/\Ix .ret xs W'
 | .exit id,_,W'=>KeepsFrom B W W'/\Kp W W'/\Ix (.exit id) xs W'
 | .goto t,_,W'=>KeepsFrom B W W'/\Kp W W'/\Ix (.goto t) xs W'
 | .panic _,_,_=>False
 | .outgrown,_,_=>False
theorem dG {W W':World} {row:Option Nat} {B k:Nat} {o:Obj} (d:W.grownBy W' row) (g:∀r,row=some r->B<=r) (i:k<B) (h:W.heap[k]?=some o):W'.heap[k]?=some o:=
 (d.block k (gLt h) (fun e=>by have:=g k e.symm;omega)).trans h
section
variable {n:Nat} {P:Program}
theorem wF {α:Type} {g:Operand} {ps:Array Tmp} {assign body:Code} {Q:Exit->Act->World->Prop} {a:Act} {w:World} (h1:1<=n) {gf:Nat} {lb:Array Value}
  (hg:a.eval g=.func (.func gf) #[] lb) (eg:∀args w,(callFunc gf args).run P w=.ok (.enter gf args) w)
  {N:α->Array Value} {Kp:World->World->Prop} {S:World->Prop} {xs:List α} {w0:World} (hseq:zGz (n-1) P gf lb N Kp S xs w0)
  (U:∀{A B C:World},Kp A B->Kp B C->Kp A C) (hKb:∀(W:World) (r r':Loop),W.heap[w.heap.size+1]?=some (.loop r)->Kp W (W.putObj (w.heap.size+1) (.loop r'))) (hS:∀r,S ((w.alloc (.deferred (some []))).alloc (.loop r)))
  (hb0:Below w0 w0 w) (hps:∀x,(N x).size=ps.size)
  (I:List α->World->Prop) (Ix:Code->List α->World->Prop) (hI:OwnFrom w.heap.size I) (hIx:∀c,OwnFrom w.heap.size (Ix c)) (h0:I [] w)
  (Ax:α->Act->World->Prop) (hAx:∀x a',OwnFrom w.heap.size (fun(_:Unit) W=>Ax x a' W))
  (hassign:∀(l:Nat) (d:List α) (x:α) (W:World) (K:Act->World->Prop),I d W->(∀ a' W',KeepsFrom w.heap.size W W'->Kp W W'->I d W'->Ax x a' W'->K a' W')->
   assign.wpIn (Fence.wide.inRound l) (n-1-1) P (Exit.then K (fun _ _ _=>False)) {tmps:=(ps.zip (N x)).foldl (fun t (p,v)=>t.setIfInBounds p v) a.tmps,defers:=[]} W)
  (hbody:∀(l:Nat) (d:List α) (x:α) (a':Act) (W:World),w.heap.size<=l->(∃ r,W.heap[l]?=some (.loop r))->I d W->Ax x a' W->d++[x]<+:xs->
   body.wpIn (Fence.wide.inRound l) (n-1-1) P (zCz w.heap.size Kp I Ix (d++[x]) W) a' W)
  (hdone:∀(D:Nat) (W:World),w.heap.size<=D->I xs W->W.heap[D]?=some (.deferred (some []))->Q .normal {a with defers:={target:=.collected D,args:=#[]}::a.defers} W)
  (hstop:∀(D:Nat) (c:Code) (d:List α) (W:World),w.heap.size<=D->d<+:xs->Ix c d W->W.heap[D]?=some (.deferred (some []))->c.wpIn Fence.wide n P Q {a with defers:={target:=.collected D,args:=#[]}::a.defers} W):
  (Code.rangeFunc g ps assign body).wpIn Fence.wide n P Q a w:=by
 refine wpIn_rangeFunc fun fn hfn=>?_
 have hL:=Nat.lt_succ_self w.heap.size;generalize hrec:(fun st pe=>({state:=st,pending:=pe,fn,tmps:=a.tmps,params:=ps,assign,body,defers:=w.heap.size}:Loop))=rec
 have hrs:∀st pe,(rec st pe).state=st:=by intro st pe;rw[<-hrec]
 have hrp:∀st pe,(rec st pe).pending=pe:=by intro st pe;rw[<-hrec]
 obtain⟨W1,j⟩:∃W1,W1=(w.alloc (.deferred (some []))).alloc (.loop (rec .ready none)):=⟨_,rfl⟩;have hs1:W1.heap.size=w.heap.size+1+1:=by rw[j];simp
 have rL:W1.heap[w.heap.size+1]?=some (.loop (rec .ready none)):=by
  have:=World.alloc_heap_new (w.alloc (.deferred (some []))) (.loop (rec .ready none));rw[World.size_alloc] at this;rw[j];exact this
 have rD:W1.heap[w.heap.size]?=some (.deferred (some [])):=by
  rw[j,Below.heap_alloc _ _ _ (by simp)]
  exact World.alloc_heap_new w _
 have i1:I [] W1:=by rw[j];exact hI.alloc _ (hI.alloc _ h0)
 have b1:Below w0 w0 W1:=by
  have hb:Below w w W1:=by rw[j];exact((Below.refl _ w).alloc nLe _).alloc (by simp) _
  exact hb0.trans (hb.mono hb0.size)
 refine⟨w.heap.size+1,[{target:=.collected w.heap.size,args:=#[]}],W1,{target:=.fn (.func gf) lb,args:=#[.func (.yield (w.heap.size+1)) #[] #[]]},W1,gf,
  #[.func (.yield (w.heap.size+1)) #[] #[]]++lb,W1,?_,?_,fun _ _=>trivial,?_,fun _=>h1,?_⟩
 ·rw[j,<-hrec]
  exact run_enterLoop_outer _ _ _ _ _
 ·simp only[resolve,hg]
  simp[go_sem]
 ·simp[invoke,go_sem,eg]
 have own2:∀{A B:World} {row:Option Nat},(∀ r,row=some r->W1.heap.size<=r/\∃o:Obj,A.heap[r]?=some o/\o.isCells=false)->(∀ r,row=some r->w.heap.size<=r/\∃o:Obj,A.heap[r]?=some o/\o.isCells=false):=
  fun O r e=>⟨by have:=(O r e).1;omega,(O r e).2⟩
 refine(hseq (w.heap.size+1)
  (fun d W=>I d W/\W.heap[w.heap.size+1]?=some (.loop (rec .ready none))/\W.heap[w.heap.size]?=some (.deferred (some [])))
  (fun d W=>∃c,Ix c d W/\W.heap[w.heap.size+1]?=some (.loop (rec .done (some c)))/\W.heap[w.heap.size]?=some (.deferred (some [])))
  W1 b1 (by rw[j];exact hS _)
  (fun s A B row hs u O=>⟨hI s A B row hs.1 u (own2 (B:=B) O),dG u (fun r e=>(O r e).1) (by omega) hs.2.1,dG u (fun r e=>(O r e).1) (by omega) hs.2.2⟩)
  (fun s A B row ⟨c,hc,h2,h3⟩ u O=>⟨c,hIx c s A B row hc u (own2 (B:=B) O),dG u (fun r e=>(O r e).1) (by omega) h2,dG u (fun r e=>(O r e).1) (by omega) h3⟩)
  ?_ ⟨i1,rL,rD⟩).mono ?_
 ·rintro d x W ⟨hi,hl,hk⟩ hpre
  have hlt:w.heap.size+1<W.heap.size:=(gLt hl)
  have hy:=run_yield (P:=P) (args:=N x) hl (by rw[<-hrec];exact hps x)
  rw[<-hrec] at hy;refine⟨fn,_,assign,body,hy,roundIn_of_wpIn hfn (hassign _ d x W _ hi fun a' Wa ka kpa ia xa=>?_)⟩
  clear hy;have hla:=ka.same _ _ (by omega) hl rfl
  have hka:=ka.same _ _ nLe hk rfl;have hlta:w.heap.size+1<Wa.heap.size:=(gLt hla);refine⟨_,run_beginRound hla (hrs _ _),?_⟩
  obtain⟨W2,m⟩:∃W2,W2=Wa.putObj (w.heap.size+1) (.loop {rec .ready none with state:=.busy}):=⟨_,rfl⟩;rw[<-m]
  have hl2:W2.heap[w.heap.size+1]?=some (.loop {rec .ready none with state:=.busy}):=by rw[m];exact World.putObj_heap_same hlta
  have hk2:W2.heap[w.heap.size]?=some (.deferred (some [])):=by rw[m];exact(World.putObj_heap_other (by omega)).trans hka
  have kp2:Kp Wa W2:=by rw[m];exact hKb _ _ _ hla
  have i2:I d W2:=by rw[m];exact hI.putObj _ ia (by omega) hla rfl
  have x2:Ax x a' W2:=by rw[m];exact(hAx x a').putObj (s:=()) _ xa (by omega) hla rfl
  clear m
  have fin:∀(h:Option Code) (W3:World),KeepsFrom w.heap.size W2 W3->∃i,(Instr.endRound (w.heap.size+1) h).run P W3=.ok (.bool h.isNone) i/\
    (W3.heap[w.heap.size+1]?=some (.loop {rec .ready none with state:=.busy}))/\i=W3.putObj (w.heap.size+1) (.loop (rec (if h.isNone then .ready else .done) h))/\
    i.heap[w.heap.size+1]?=some (.loop (rec (if h.isNone then .ready else .done) h))/\i.heap[w.heap.size]?=some (.deferred (some [])):=fun h W3 k3=>by
   have h3:=k3.same _ _ (by omega) hl2 rfl
   have h4:=k3.same _ _ nLe hk2 rfl;refine⟨_,?_,h3,rfl,World.putObj_heap_same (gLt h3),(World.putObj_heap_other (by omega)).trans h4⟩
   have:=run_endRound (P:=P) h h3;rw[<-hrec] at this ⊢;exact this
  refine wpIn_mono (hbody _ d x a' W2 (by omega) ⟨_,hl2⟩ i2 x2 hpre) ?_
  rintro e a3 W3 hp
  have J:∀c:Code,KeepsFrom w.heap.size W2 W3/\Kp W2 W3/\Ix c (d++[x]) W3->∃v i,(Instr.endRound (w.heap.size+1) (some c)).run P W3=.ok v i/\
    ((Ending.returned v=.returned (.bool true)/\(I (d++[x]) i/\i.heap[w.heap.size+1]?=some (.loop (rec .ready none))/\i.heap[w.heap.size]?=some (.deferred (some [])))/\Kp W i)\/
    (Ending.returned v=.returned (.bool false)/\(∃ c,Ix c (d++[x]) i/\i.heap[w.heap.size+1]?=some (.loop (rec .done (some c)))/\i.heap[w.heap.size]?=some (.deferred (some [])))/\Kp W i)):=fun c ⟨k3,kp3,i3⟩=>by
   obtain⟨i,O,h3,hW4,h5,h6⟩:=fin (some c) W3 k3;exact⟨_,i,O,.inr ⟨rfl,⟨c,by rw[hW4];exact(hIx c).putObj _ i3 (by omega) h3 rfl,h5,h6⟩,U kpa (U kp2 (U kp3 (by rw[hW4];exact hKb _ _ _ h3)))⟩⟩
  cases e with
  |normal=>
   obtain⟨k3,kp3,i3⟩:=hp;obtain⟨i,O,h3,hW4,h5,h6⟩:=fin none W3 k3;refine⟨_,i,O,.inl ⟨rfl,⟨by rw[hW4];exact hI.putObj _ i3 (by omega) h3 rfl,h5,h6⟩,U kpa (U kp2 (U kp3 ?_))⟩⟩
   rw[hW4];exact hKb _ _ _ h3
  |ret=>exact J _ hp
  |exit id=>exact J _ hp
  |goto t=>exact J _ hp
  |panic ch=>exact hp.elim
  |outgrown=>exact hp.elim
 rintro e W2 ⟨⟨v,rfl⟩,(⟨hi,hl,hk⟩|⟨d,hpre,c,hi,hl,hk⟩)⟩
 ·have he:=run_endLoop (P:=P) hl (by rw[hrs];decide)
  rw[hrp] at he;exact⟨none,_,he,hdone _ _ nLe (hI.putObj _ hi (by omega) hl rfl) ((World.putObj_heap_other (by omega)).trans hk)⟩
 have he:=run_endLoop (P:=P) hl (by rw[hrs];decide)
 rw[hrp] at he;exact⟨some c,_,he,hstop _ c d _ nLe hpre ((hIx c).putObj _ hi (by omega) hl rfl) ((World.putObj_heap_other (by omega)).trans hk)⟩
end
theorem zFC {n j k:Nat} {P:Program} {l l':Nat} {f:FuncId} {tmps:Array Value} {d g:Code} {w:World} {R i:Ending->World->Prop} (h:RoundIn Fence.wide n P l f tmps d g w R) (m:∀e w,R e w->i e w):
  (Fence.wide.depth.isSome=true->1<=k)/\RoundIn (Fence.wide.inRound l') j P l f tmps d g w i:=
 ⟨(fun h=>(by cases h)),(show RoundIn Fence.wide j P l f tmps d g w R from⟨h.1,fun c cs _=>h.2 c cs (room_wide _)⟩).mono m⟩
def zBH (B:Nat) (W:World) (ds:List Deferred):Prop:=∃Ds:List Nat,ds=Ds.map (fun D=>{target:=.collected D,args:=#[]})/\Ds.Nodup/\∀D∈Ds,B<=D/\W.heap[D]?=some (.deferred (some []))
theorem fH {P:Program} {n:Nat} {J:Func} {tmps:Array Value} {R:Ending->World->Prop} {v:Value} {B:Nat} {I:Unit->World->Prop} (O:OwnFrom B I) (U:∀W,I () W->LeavesIn Fence.wide n P J tmps R [] .returning W):
  ∀(g:List Deferred) (W:World),zBH B W g->I () W->LeavesInM Fence.wide n P J tmps R g .returning W:=by
 intro g
 induction g with
 |nil=>exact fun W _ j=>U W j
 |cons d g ih=>
  rintro W ⟨i,N,hn,h⟩ j
  cases i with
  |nil=>cases N
  |cons D i=>
   obtain⟨rfl,rfl⟩:d=_/\g=_:=by simpa using N
   obtain⟨s,u⟩:=List.nodup_cons.1 hn;have K:=(h D (List.mem_cons_self ..)).2
   refine⟨by simp,.inl ⟨D,_,rfl,run_takeDeferred K,ih _ ⟨i,rfl,u,fun D' m=>⟨(h D' (List.mem_cons_of_mem _ m)).1,?_⟩⟩ (O.putObj _ j (h D (List.mem_cons_self ..)).1 K rfl)⟩⟩
   exact(World.putObj_heap_other (fun e=>s (by rw[<-e];exact m))).trans (h D' (List.mem_cons_of_mem _ m)).2
def Bad (Ms Fs:List Nat) (W:World) (k:Nat):Prop:=k∈Ms\/k∈Fs\/∃F∈Fs,∃o ad n c,W.cell? ⟨F,o,none⟩=some (.slice (some ad) n c)/\ad.block=k
structure kX (lo:Nat) (Ms Fs:List Nat) (W:World):Prop where
 bad:∀k,Bad Ms Fs W k->lo<=k/\k<W.heap.size
 row:∀F∈Fs,∀o ad n c,W.cell? ⟨F,o,none⟩=some (.slice (some ad) n c)->∃ob,W.heap[ad.block]?=some ob/\ob.isCells=true
structure Off (lo:Nat) (Ms Fs:List Nat) (W W':World):Prop where
 os:W'.os=W.os
 tape:W'.tape=W.tape
 output:W'.output=W.output
 size:W.heap.size<=W'.heap.size
 block:∀k,k<W.heap.size->¬Bad Ms Fs W k->W'.heap[k]?=W.heap[k]?
 bad:∀k,Bad Ms Fs W' k->Bad Ms Fs W k\/W.heap.size<=k
 sane:kX lo Ms Fs W'
def KpO (lo:Nat) (Ms Fs:List Nat) (W W':World):Prop:=kX lo Ms Fs W->Off lo Ms Fs W W'
theorem zP {W W':World} {k:Nat} (h:W'.heap[k]?=W.heap[k]?) (o:Nat):W'.cell? ⟨k,o,none⟩=W.cell? ⟨k,o,none⟩:=by simp only[World.cell?,h]
variable {lo:Nat} {Ms Fs:List Nat} {A B C:World}
theorem Off.refl (h:kX lo Ms Fs A):Off lo Ms Fs A A:=⟨rfl,rfl,rfl,nLe,fun _ _ _=>rfl,fun _ h=>.inl h,h⟩
theorem Off.trans (h:Off lo Ms Fs A B) (k:Off lo Ms Fs B C):Off lo Ms Fs A C:=by
 refine⟨k.os.trans h.os,k.tape.trans h.tape,k.output.trans h.output,Nat.le_trans h.size k.size,fun j d e=>?_,fun j d=>?_,k.sane⟩
 ·refine(k.block j (Nat.lt_of_lt_of_le d h.size) fun g=>?_).trans (h.block j d e)
  rcases h.bad j g with h1|h1
  ·exact e h1
  omega
 rcases k.bad j d with h1|h1
 ·exact h.bad j h1
 exact .inr (Nat.le_trans h.size h1)
theorem KpO.trans (h:KpO lo Ms Fs A B) (k:KpO lo Ms Fs B C):KpO lo Ms Fs A C:=fun d=>(h d).trans (k (h d).sane)
theorem kX.F_lt (h:kX lo Ms Fs A) {F:Nat} (d:F∈Fs):F<A.heap.size:=(h.bad F (.inr (.inl d))).2
theorem lV {n k:Nat} (i:∀F∈Fs,F<n) (j:Below n A B):Bad Ms Fs B k↔Bad Ms Fs A k:=by
 unfold Bad;refine or_congr Iff.rfl (or_congr Iff.rfl ⟨?_,?_⟩)
 ·rintro⟨F,d,o,e,m,c,g,h⟩
  exact⟨F,d,o,e,m,c,(j.cell (p:=⟨F,o,none⟩) (i F d)).symm.trans g,h⟩
 rintro⟨F,d,o,e,m,c,g,h⟩;exact⟨F,d,o,e,m,c,(j.cell (p:=⟨F,o,none⟩) (i F d)).trans g,h⟩
theorem Off.of_below (j:kX lo Ms Fs A) (d:Below A A B):Off lo Ms Fs A B:=by
 have e:∀k,Bad Ms Fs B k↔Bad Ms Fs A k:=fun k=>lV (fun F g=>j.F_lt g) d
 refine⟨d.os,d.tape,d.output,d.size,fun k i _=>d.block k i,fun k i=>.inl ((e k).1 i),⟨fun k i=>?_,fun F g o m n c J=>?_⟩⟩
 ·have:=j.bad k ((e k).1 i)
  exact⟨this.1,Nat.lt_of_lt_of_le this.2 d.size⟩
 have h:=(d.cell (p:=⟨F,o,none⟩) (j.F_lt g)).symm.trans J;obtain⟨K,s,u⟩:=j.row F g o m n c h;exact⟨K,(d.block _ (j.bad _ (.inr (.inr ⟨F,g,o,m,n,c,h,rfl⟩))).2).trans s,u⟩
theorem KpO.of_below (d:Below A A B):KpO lo Ms Fs A B:=fun e=>.of_below e d
theorem Off.below (h:Off lo Ms Fs A B) (e:kX lo Ms Fs A) (i:lo<=A.heap.size):Below lo A B:=
 ⟨h.os,h.tape,h.output,h.size,fun k g=>h.block k (by omega) fun d=>by have:=(e.bad k d).1;omega⟩
structure yC (lo:Nat) (Ms Fs:List Nat) (W:World) (k:Nat):Prop where
 lt:k<W.heap.size
 not:¬Bad Ms Fs W k
theorem yC.off {k:Nat} (h:yC lo Ms Fs A k) (d:Off lo Ms Fs A B):yC lo Ms Fs B k:=⟨Nat.lt_of_lt_of_le h.lt d.size,fun e=>(d.bad k e).elim h.not (fun g=>by have:=h.lt;omega)⟩
theorem yC.cell {k o:Nat} (h:yC lo Ms Fs A k) (d:Off lo Ms Fs A B):B.cell? ⟨k,o,none⟩=A.cell? ⟨k,o,none⟩:=zP (d.block k h.lt h.not) o
theorem yC.new {k:Nat} (d:kX lo Ms Fs A) (i:Below A A B) (j:A.heap.size<=k) (e:k<B.heap.size):yC lo Ms Fs B k:=
 ⟨e,fun h=>by have:=d.bad k ((lV (fun F g=>d.F_lt g) i).1 h);omega⟩
theorem yC.below {k n:Nat} (h:yC lo Ms Fs A k) (g:∀F∈Fs,F<n) (e:Below n A B):yC lo Ms Fs B k:=⟨Nat.lt_of_lt_of_le h.lt e.size,fun d=>h.not ((lV g e).1 d)⟩
theorem Bad.cons {l k:Nat} (h:Bad Ms Fs A k):Bad (l::Ms) Fs A k:=h.elim (fun h=>.inl (List.mem_cons_of_mem _ h)) .inr
theorem Bad.of_cons {l k:Nat} (h:Bad (l::Ms) Fs A k):k=l\/Bad Ms Fs A k:=by
 rcases h with h|h
 ·rcases List.mem_cons.1 h with h|h
  ·exact .inl h
  exact .inr (.inl h)
 exact .inr (.inr h)
theorem kX.cons {l:Nat} (d:kX lo Ms Fs A) (e:lo<=l) (g:l<A.heap.size):kX lo (l::Ms) Fs A:=⟨fun k hk=>by
 rcases hk.of_cons with rfl|hk
 ·exact⟨e,g⟩
 exact d.bad k hk,d.row⟩
theorem Off.cons {l:Nat} (h:Off lo Ms Fs A B) (d:lo<=l) (e:l<A.heap.size):Off lo (l::Ms) Fs A B:=by
 refine⟨h.os,h.tape,h.output,h.size,fun k hk i=>h.block k hk fun g=>i g.cons,fun k hk=>?_,h.sane.cons d (Nat.lt_of_lt_of_le e h.size)⟩
 rcases hk.of_cons with rfl|hk
 ·exact .inl (.inl (List.mem_cons_self ..))
 exact(h.bad k hk).imp Bad.cons id
theorem Off.put {l:Nat} (U:kX lo Ms Fs A) (hl:l∈Ms) {o d:Obj} (K:A.heap[l]?=some o) (O:o.isCells=false) (J:d.isCells=false):Off lo Ms Fs A (A.putObj l d):=by
 have N:∀F i,(A.putObj l d).cell? ⟨F,i,none⟩=A.cell? ⟨F,i,none⟩:=fun F i=>by
  by_cases m:F=l
  ·subst m
   have g:(A.putObj F d).heap[F]?=some d:=World.putObj_heap_same (gLt K)
   unfold World.cell?;simp only[g,K]
   cases o<;>cases d<;>first|rfl|(simp[Obj.isCells] at O;done)|(simp[Obj.isCells] at J;done)
  exact zP (World.putObj_heap_other m) i
 have e:∀k,Bad Ms Fs (A.putObj l d) k↔Bad Ms Fs A k:=fun k=>by
  unfold Bad;simp only[N]
 refine⟨rfl,rfl,rfl,by simp,fun k s hn=>World.putObj_heap_other fun h=>hn (.inl (by rw[h];exact hl)),fun k s=>.inl ((e k).1 s),⟨fun k s=>?_,fun F m i ad n c j=>?_⟩⟩
 ·have:=U.bad k ((e k).1 s)
  exact⟨this.1,by simpa using this.2⟩
 rw[N] at j;obtain⟨ob,g,u⟩:=U.row F m i ad n c j;refine⟨ob,(World.putObj_heap_other fun h=>?_).trans g,u⟩
 rw[h,K] at g;rw[<-Option.some.inj g,O] at u;cases u
theorem Off.keeps {n:Nat} (h:Off lo Ms Fs A B) (N:kX lo Ms Fs A) (u:∀k∈Ms,k<n) (s:∀k∈Fs,k<n):KeepsFrom n A B:=
 ⟨h.size,fun k o O d K=>(h.block k (gLt d) (by
  rintro(h1|h1|⟨F,h1,i,j,m,c,J,rfl⟩)
  ·have:=u k h1;omega
  ·have:=s k h1;omega
  obtain⟨U,e,g⟩:=N.row F h1 i j m c J;rw[d] at e;rw[<-Option.some.inj e,K] at g
  cases g)).trans d⟩
theorem kX.own {n:Nat} (U:∀F∈Fs,F<n) {row:Option Nat} (s:kX lo Ms Fs A) (j:A.grownBy B row) (O:∀r,row=some r->n<=r/\∃o:Obj,A.heap[r]?=some o/\o.isCells=false):kX lo Ms Fs B:=by
 have u:∀F∈Fs,∀o,B.cell? ⟨F,o,none⟩=A.cell? ⟨F,o,none⟩:=fun F h o=>zP (j.block F (s.F_lt h) fun e=>by have:=(O F e.symm).1;have:=U F h;omega) o
 have e:∀k,Bad Ms Fs B k->Bad Ms Fs A k:=by
  rintro k (h|h|⟨F,h,o,g,m,c,d,he⟩)
  ·exact .inl h
  ·exact .inr (.inl h)
  exact .inr (.inr ⟨F,h,o,g,m,c,(u F h o).symm.trans d,he⟩)
 refine⟨fun k hk=>?_,fun F h o g m c d=>?_⟩
 ·have:=s.bad k (e k hk)
  exact⟨this.1,Nat.lt_of_lt_of_le this.2 j.size⟩
 rw[u F h o] at d;obtain⟨ob,i,J⟩:=s.row F h o g m c d;refine⟨ob,(j.block _ (gLt i) fun e=>?_).trans i,J⟩
 obtain⟨_,ob',K,N⟩:=O _ e.symm;rw[i] at K;rw[<-Option.some.inj K,J] at N;cases N
theorem Off.own {W W':World} {row:Option Nat} (j:∀F∈Fs,F<A.heap.size) (h:Off lo Ms Fs A W) (d:W.grownBy W' row) (i:∀r,row=some r->A.heap.size<=r/\∃o:Obj,W.heap[r]?=some o/\o.isCells=false):Off lo Ms Fs A W':=by
 have u:∀F∈Fs,∀o,W'.cell? ⟨F,o,none⟩=W.cell? ⟨F,o,none⟩:=fun F s o=>zP (d.block F (h.sane.F_lt s) fun e=>by have:=(i F e.symm).1;have:=j F s;omega) o
 refine⟨d.os.trans h.os,d.tape.trans h.tape,d.output.trans h.output,Nat.le_trans h.size d.size,fun k g J=>(d.block k (Nat.lt_of_lt_of_le g h.size) fun e=>by have:=(i k e.symm).1;omega).trans (h.block k g J),fun k g=>h.bad k ?_,h.sane.own j d i⟩
 rcases g with h1|h1|⟨F,h1,o,ad,m,c,hc,he⟩
 ·exact .inl h1
 ·exact .inr (.inl h1)
 exact .inr (.inr ⟨F,h1,o,ad,m,c,(u F h1 o).symm.trans hc,he⟩)
theorem OwnFrom.mono {β:Type} {n g:Nat} {I:β->World->Prop} (h:OwnFrom n I) (j:n<=g):OwnFrom g I:=fun s A B row m i d=>h s A B row m i fun r e=>⟨Nat.le_trans j (d r e).1,(d r e).2⟩
theorem OwnFrom.comp {β γ:Type} {n:Nat} {I:β->World->Prop} (h:OwnFrom n I) (f:γ->β):OwnFrom n (fun s W=>I (f s) W):=fun s=>h (f s)
end
section
open Go Go.RowKit
theorem uS {W:World} {F:Nat} {t:TypeId} {v u:Value} (h:Boxed W F t v) {o:Nat} (d:W.cell? ⟨F,o,none⟩=some u):u=v:=by
 simp only[World.cell?,show W.heap[F]?=_ from h] at d
 cases o with
 |zero=>simpa using d.symm
 |succ o=>simp at d
theorem bP {Ms:List Nat} {W:World} {F k:Nat} {t:TypeId} {v:Value} (h:Boxed W F t v):Bad Ms [F] W k↔k∈Ms\/k=F\/v.ownBlock=some k:=by
 unfold Bad;refine or_congr Iff.rfl (or_congr List.mem_singleton ⟨?_,fun d=>?_⟩)
 ·rintro⟨j,g,o,e,n,c,i,rfl⟩
  obtain rfl:=List.mem_singleton.1 g;rw[<-uS h i];rfl
 cases v<;>simp only[Value.ownBlock] at d<;>try(cases d;done)
 rename_i A n c
 cases A with
 |none=>cases d
 |some e=>exact⟨F,List.mem_singleton.2 rfl,0,e,n,c,h.cell,by simpa[Value.ownBlock] using d⟩
theorem qA {W:World} {base:Nat} {e:TypeId} {size n:Nat} {v:Value} {xs:List Value} (h:W.ownsRow base e size v n xs) {r:Nat} (d:v.ownBlock=some r):∃i,W.heap[r]?=some i/\i.isCells=true:=by
 rcases h.2 with⟨rfl,_⟩|⟨g,cap,cur,rfl,_,hg,_⟩
 ·cases d
 obtain rfl:g=r:=by simpa[Value.ownBlock] using d
 exact⟨_,hg,rfl⟩
theorem eD {Ms:List Nat} {lo:Nat} {W:World} {F n size:Nat} {t e:TypeId} {v:Value} {xs:List Value} (h:Boxed W F t v) (d:W.ownsRow lo e size v n xs) (i:lo<=F) (j:∀k∈Ms,lo<=k/\k<W.heap.size):kX lo Ms [F] W:=by
 refine⟨fun k u=>?_,fun J g o K m c s=>?_⟩
 ·rcases(bP h).1 u with h1|rfl|h1
  ·exact j k h1
  ·exact⟨i,h.lt⟩
  exact d.lt k h1
 obtain rfl:=List.mem_singleton.1 g;exact qA d (by rw[<-uS h s];rfl)
theorem zEG {Ms:List Nat} {lo:Nat} {W W':World} {F n' size:Nat} {t e:TypeId} {v v':Value} {K:List Value} (h:Boxed W F t v) (N:Boxed W' F t v') (d:W'.ownsRow lo e size v' n' K) (U:lo<=F) (O:∀k∈Ms,lo<=k/\k<W.heap.size)
  (J:W'.os=W.os) (g:W'.tape=W.tape) (j:W'.output=W.output) (m:W.heap.size<=W'.heap.size)
  (hb:∀k,k<W.heap.size->k∉Ms->k≠F->v.ownBlock≠some k->W'.heap[k]?=W.heap[k]?) (s:v'.ownBlock=v.ownBlock\/∀r,v'.ownBlock=some r->W.heap.size<=r):Off lo Ms [F] W W':=by
 refine⟨J,g,j,m,fun k i u=>hb k i (fun h1=>u (.inl h1)) (fun h1=>u (.inr (.inl (by rw[h1];exact List.mem_singleton.2 rfl)))) (fun h1=>u ((bP h).2 (.inr (.inr h1)))),fun k i=>?_,
  eD N d U fun k i=>⟨(O k i).1,Nat.lt_of_lt_of_le (O k i).2 m⟩⟩
 rcases(bP N).1 i with h1|h1|h1
 ·exact .inl (.inl h1)
 ·exact .inl (.inr (.inl (by rw[h1];exact List.mem_singleton.2 rfl)))
 rcases s with h2|h2
 ·exact .inl ((bP h).2 (.inr (.inr (by rw[<-h2];exact h1))))
 exact .inr (h2 k h1)
end
section
open Go Go.RowKit Go.Sort
theorem zE1 {v:Value} {k:Nat} (h:v.ownBlock=some k):∃d n c,v=.slice (some d) n c/\d.block=k:=by
 cases v<;>simp only[Value.ownBlock] at h<;>try(cases h;done)
 rename_i A n c
 cases A with
 |none=>cases h
 |some d=>exact⟨d,n,c,rfl,by simpa[Value.ownBlock] using h⟩
theorem yC.own {lo n k:Nat} {Ms Fs:List Nat} {A B:World} (j:∀F∈Fs,F<n) {row:Option Nat} (N:kX lo Ms Fs A) (h:yC lo Ms Fs A k) (d:A.grownBy B row) (K:∀r,row=some r->n<=r/\∃o:Obj,A.heap[r]?=some o/\o.isCells=false):yC lo Ms Fs B k:=by
 have i:∀F∈Fs,∀o,B.cell? ⟨F,o,none⟩=A.cell? ⟨F,o,none⟩:=fun F h o=>zP (d.block F (N.F_lt h) fun e=>by have:=(K F e.symm).1;have:=j F h;omega) o
 have e:∀k,Bad Ms Fs B k->Bad Ms Fs A k:=by
  rintro k (h|h|⟨F,h,o,g,m,c,u,J⟩)
  ·exact .inl h
  ·exact .inr (.inl h)
  exact .inr (.inr ⟨F,h,o,g,m,c,(i F h o).symm.trans u,J⟩)
 exact⟨Nat.lt_of_lt_of_le h.lt d.size,fun s=>h.not (e k s)⟩
def Kc (lo G:Nat) (W:World) (k o:Nat) (v:Value):Prop:=yC lo [] [G] W k/\W.cell? ⟨k,o,none⟩=some v
theorem Kc.off {lo G k o:Nat} {W W':World} {v:Value} (h:Kc lo G W k o v) (d:Off lo [] [G] W W'):Kc lo G W' k o v:=⟨h.1.off d,(h.1.cell d).trans h.2⟩
section
variable {B G:Nat} {st le:Int} {fs:List Int} {gs:List Bool} {ss:List Stp} {fv gv sv:Value} {W W':World}
theorem AuN.cell_ (h:AuN B G st le fs gs ss fv gv sv W) {o:Nat} {e:Addr} {n c:Nat} (d:W.cell? ⟨G,o,none⟩=some (.slice (some e) n c)):fv.ownBlock=some e.block\/gv.ownBlock=some e.block\/sv.ownBlock=some e.block:=by
 simp only[World.cell?,h.obj] at d
 match o,d with
 |0,d=>simp at d
 |1,d=>simp at d
 |2,d=>
  obtain rfl:fv=_:=by simpa using d
  exact .inl rfl
 |3,d=>
  obtain rfl:gv=_:=by simpa using d
  exact .inr (.inl rfl)
 |4,d=>
  obtain rfl:sv=_:=by simpa using d
  exact .inr (.inr rfl)
 |o+5,d=>simp at d
theorem AuN.bad (h:AuN B G st le fs gs ss fv gv sv W) {Ms:List Nat} {k:Nat}:Bad Ms [G] W k↔k∈Ms\/k=G\/fv.ownBlock=some k\/gv.ownBlock=some k\/sv.ownBlock=some k:=by
 obtain⟨_,_,g,i,j,_⟩:=zZ h.obj;unfold Bad;refine or_congr Iff.rfl (or_congr List.mem_singleton ⟨?_,fun hv=>?_⟩)
 ·rintro⟨u,m,o,d,n,c,s,rfl⟩
  obtain rfl:=List.mem_singleton.1 m;exact h.cell_ s
 rcases hv with hv|hv|hv
 all_goals obtain⟨d,n,c,rfl,e⟩:=zE1 hv
 ·exact⟨G,List.mem_singleton.2 rfl,2,d,n,c,g,e⟩
 ·exact⟨G,List.mem_singleton.2 rfl,3,d,n,c,i,e⟩
 exact⟨G,List.mem_singleton.2 rfl,4,d,n,c,j,e⟩
theorem AuN.sane {lo:Nat} (d:lo<=B) (h:AuN B G st le fs gs ss fv gv sv W) {Ms:List Nat} (i:∀k∈Ms,lo<=k/\k<W.heap.size):kX lo Ms [G] W:=by
 refine⟨fun k u=>?_,fun J e o K m c j=>?_⟩
 ·rcases h.bad.1 u with h1|rfl|h1|h1|h1
  ·exact i k h1
  ·exact⟨Nat.le_trans d h.lo,h.lt⟩
  ·exact⟨Nat.le_trans d (h.f.lt k h1).1,(h.f.lt k h1).2⟩
  ·exact⟨Nat.le_trans d (h.g.lt k h1).1,(h.g.lt k h1).2⟩
  exact⟨Nat.le_trans d (h.s.lt k h1).1,(h.s.lt k h1).2⟩
 obtain rfl:=List.mem_singleton.1 e
 rcases h.cell_ j with h1|h1|h1
 ·exact qA h.f h1
 ·exact qA h.g h1
 exact qA h.s h1
theorem AuN.off {h4 h0:Int} {K:List Int} {N:List Bool} {h3:List Stp} {d g j:Value} {lo:Nat} (O:lo<=B) (h:AuN B G st le fs gs ss fv gv sv W) (h':AuN B G h4 h0 K N h3 d g j W') {Ms:List Nat} (hM:∀k∈Ms,lo<=k/\k<W.heap.size)
  (U:W'.os=W.os) (i:W'.tape=W.tape) (u:W'.output=W.output) (J:W.heap.size<=W'.heap.size)
  (hb:∀k,k<W.heap.size->k∉Ms->k≠G->fv.ownBlock≠some k->gv.ownBlock≠some k->sv.ownBlock≠some k->W'.heap[k]?=W.heap[k]?)
  (hf:d.ownBlock=fv.ownBlock\/∀r,d.ownBlock=some r->W.heap.size<=r) (hg:g.ownBlock=gv.ownBlock\/∀r,g.ownBlock=some r->W.heap.size<=r) (hs:j.ownBlock=sv.ownBlock\/∀r,j.ownBlock=some r->W.heap.size<=r):Off lo Ms [G] W W':=by
 refine⟨U,i,u,J,fun k m s=>?_,fun k m=>?_,h'.sane O fun k m=>⟨(hM k m).1,Nat.lt_of_lt_of_le (hM k m).2 J⟩⟩
 ·rw[h.bad] at s
  exact hb k m (fun e=>s (.inl e)) (fun e=>s (.inr (.inl e))) (fun e=>s (.inr (.inr (.inl e)))) (fun e=>s (.inr (.inr (.inr (.inl e))))) (fun e=>s (.inr (.inr (.inr (.inr e)))))
 rw[h.bad]
 rcases h'.bad.1 m with h1|h1|h1|h1|h1
 ·exact .inl (.inl h1)
 ·exact .inl (.inr (.inl h1))
 ·rcases hf with h2|h2
  ·exact .inl (.inr (.inr (.inl (by rw[<-h2];exact h1))))
  exact .inr (h2 k h1)
 ·rcases hg with h2|h2
  ·exact .inl (.inr (.inr (.inr (.inl (by rw[<-h2];exact h1)))))
  exact .inr (h2 k h1)
 rcases hs with h2|h2
 ·exact .inl (.inr (.inr (.inr (.inr (by rw[<-h2];exact h1)))))
 exact .inr (h2 k h1)
theorem AuN.appSO (h:AuN B G st le fs gs ss fv gv sv W) (x:Stp) (hl:ss.length<=1000000000):
  mO G 4 sv 29 80 #[x.f,x.l,x.t] ss.length W (fun v' W'=>AuN B G st le fs gs (ss++[x]) fv gv v' W'/\∀lo Ms,lo<=B->(∀ k∈Ms,lo<=k/\k<W.heap.size)->Off lo Ms [G] W W'):=by
 obtain⟨i0,h3,h6,h7,h8⟩:=info_parts rN;have hlt:=h.lt;have i:Below W W (W.alloc (.cells #[x.f,x.l,x.t] 80)):=bLa;obtain⟨A1,c1,e1,U,h0,_⟩:=zF h.s
 obtain⟨v3,w3,N,m,j,O⟩:=jC (P:=Tryz.prog) (W.alloc (.cells #[x.f,x.l,x.t] 80)) B 29 29 80 i0 _ 3 24 Tryz.underlying29 h3 h6 h7 h8 rfl (by decide) _ ss.length _ (zD h.s i) (some ⟨W,0,none⟩) 1 1 [.int .i64 x.f,.int .i64 x.l,.int .i64 x.t] rfl
  (Rd.new W #[x.f,x.l,x.t] 80) (by simp[Value.oneCell']) (by simp only[maxLen];omega) (by omega) (by have:=h.lo;simp;omega)
 obtain⟨J,K,rfl,_,_,_⟩:=zF m;have d:=wH h.obj h.s (by decide) i j
 obtain⟨_,_,_,_,q,_,_,_,_,fz⟩:=zZ d;have u:=yM m d (by decide) 4 (.slice J (ss.length+1) K)
 have HN:AuN B G st le fs gs (ss++[x]) fv gv (.slice J (ss.length+1) K) (w3.setCell ⟨G,4,none⟩ (.slice J (ss.length+1) K)):=⟨h.lo,wR d _,xQ h.f h.s (by decide) i j d (by decide) 4 (.slice J (ss.length+1) K),xQ h.g h.s (by decide) i j d (by decide) 4 (.slice J (ss.length+1) K),by
  rw[show(ss++[x]).length=ss.length+1 by simp,show(ss++[x]).flatMap Stp.cells=ss.flatMap Stp.cells++[.int .i64 x.f,.int .i64 x.l,.int .i64 x.t] by simp[Stp.cells]]
  exact u⟩
 refine⟨A1,c1,e1,U,h0,J,K,w3,by rw[<-e1];exact N,q,fz,j,HN,fun lo Ms h4 hM=>h.off h4 HN hM ?_ ?_ ?_ ?_ ?_ (.inl rfl) (.inl rfl) ?_⟩
 ·exact j.os.trans i.os
 ·exact j.tape.trans i.tape
 ·exact j.output.trans i.output
 ·refine Nat.le_trans (Nat.le_trans i.size j.size) (Nat.le_of_eq ?_)
  simp[World.setCell]
 ·intro k hk _ h2 _ _ h5
  exact(Below.heap_setCell _ _ _ _ h2).trans ((j.block k (Nat.lt_of_lt_of_le hk i.size) (fun e=>h5 e.symm)).trans (i.block k hk))
 rcases O with h1|h1
 ·exact .inl h1
 refine .inr fun r N=>?_
 rw[h1] at N;obtain rfl:=Option.some.inj N
 simp
theorem AuN.good {lo k:Nat} {Ms:List Nat} (h:AuN B G st le fs gs ss fv gv sv W) (i:k<B) (d:k∉Ms):yC lo Ms [G] W k:=by
 refine⟨Nat.lt_of_lt_of_le i (Nat.le_trans h.lo (Nat.le_of_lt h.lt)),fun e=>?_⟩
 have j:=h.lo
 rcases h.bad.1 e with h1|rfl|h1|h1|h1
 ·exact d h1
 ·omega
 ·have:=(h.f.lt k h1).1;omega
 ·have:=(h.g.lt k h1).1;omega
 have:=(h.s.lt k h1).1;omega
theorem AuN.below_off {lo:Nat} {Ms:List Nat} (h:AuN B G st le fs gs ss fv gv sv W) (d:Off lo Ms [G] W W') (g:∀k∈Ms,B<=k):Below B W W':=
 ⟨d.os,d.tape,d.output,d.size,fun k i=>by
  have e:=h.good (lo:=lo) (Ms:=Ms) i (fun j=>by have:=g k j;omega)
  exact d.block k e.lt e.not⟩
theorem AuN.good_obj {lo l:Nat} {o:Obj} (h:AuN B G st le fs gs ss fv gv sv W) (u:W.heap[l]?=some o) (K:o.isCells=false):yC lo [] [G] W l:=by
 refine⟨(gLt u),fun J=>?_⟩
 have j:∀{i:Obj},W.heap[l]?=some i->i.isCells=true->False:=fun h1 m=>by
  rw[u] at h1;rw[<-Option.some.inj h1,K] at m;cases m
 rcases h.bad.1 J with h1|rfl|h1|h1|h1
 ·cases h1
 ·exact j h.obj rfl
 ·obtain⟨i,d,e⟩:=qA h.f h1;exact j d e
 ·obtain⟨i,d,e⟩:=qA h.g h1;exact j d e
 obtain⟨i,d,e⟩:=qA h.s h1;exact j d e
theorem AuN.own {row:Option Nat} (h:AuN B G st le fs gs ss fv gv sv W) (J:W.grownBy W' row) (N:∀r,row=some r->∃o:Obj,W.heap[r]?=some o/\o.isCells=false):AuN B G st le fs gs ss fv gv sv W':=by
 have u:∀{k:Nat} {o:Obj},W.heap[k]?=some o->o.isCells=true->some k≠row:=fun K j e=>by
  obtain⟨O,d,i⟩:=N _ e.symm;rw[K] at d;rw[<-Option.some.inj d,j] at i;cases i
 have m:∀{v:Value} {e:TypeId} {sz n:Nat} {xs:List Value},W.ownsRow B e sz v n xs->W'.ownsRow B e sz v n xs:=fun{v e sz n xs} j=>by
  refine World.ownsRow.kept j J ?_
  cases hv:v.ownBlock with
  |none=>exact .inl rfl
  |some r=>
   obtain⟨U,d,i⟩:=qA j hv;exact .inr (u d i)
 exact⟨h.lo,(J.block G h.lt (u h.obj rfl)).trans h.obj,m h.f,m h.g,m h.s⟩
theorem AuN.reS {d:List Stp} (h:AuN B G st le fs gs ss fv gv sv W) (j:W'.ownsRow B 80 3 sv d.length (d.flatMap Stp.cells)) (i:W.grownBy W' sv.ownBlock):AuN B G st le fs gs d fv gv sv W':=
 ⟨h.lo,(i.block G h.lt (fun e=>wG h.s h.obj (by decide) e.symm)).trans h.obj,World.ownsRow.kept h.f i (mT h.f h.s (by decide)),World.ownsRow.kept h.g i (mT h.g h.s (by decide)),j⟩
theorem AuN.putS2 {i:List Stp} {v':Value} (h:AuN B G st le fs gs ss fv gv sv W) (m:W'.ownsRow B 80 3 v' i.length (i.flatMap Stp.cells)) (j:W.grownBy W' sv.ownBlock):AuN B G st le fs gs i fv gv v' (W'.setCell ⟨G,4,none⟩ v')/\W'.heap[G]?=some (.cells #[st,le,fv,gv,sv] 31 (0,0)):=by
 have d:=(j.block G h.lt (fun e=>wG h.s h.obj (by decide) e.symm)).trans h.obj
 exact⟨⟨h.lo,wR d _,yM (World.ownsRow.kept h.f j (mT h.f h.s (by decide))) d (by decide) 4 v',yM (World.ownsRow.kept h.g j (mT h.g h.s (by decide))) d (by decide) 4 v',yM m d (by decide) 4 v'⟩,d⟩
end
theorem zEm {d:Func} {p:Tmp} (h:d.results=#[.cell p 31]) (tmps:Array Value) (w:World) (V:Nat) {e g i j m:Value} (u:tmps[p]?=some (.pointer (some ⟨V,0,none⟩)))
  (s:w.heap[V]?=some (.cells #[e,g,i,j,m] 31 (0,0))):(results d tmps).run Tryz.prog w=.ok (.agg #[e,g,i,j,m]) w:=by
 obtain⟨J,K,N,O,U,_⟩:=zZ s
 simp[results,h,go_sem,u,J,K,N,O,U]
end
section
open Go Go.RowKit
theorem zBJ:(Tryz.prog.info? 63).map (fun i=>(i.zero,i.size,i.bytes))=some (some (.agg #[(0:Int),(0:Int),(0:Int),(0:Int)]),4,32):=by kernel_rfl
theorem nO {P:Program} {w w':World} {ops:Array Oper} {o:Oper} {a:Act} {K:Act->World->Prop} {Q:Exit->Act->World->Prop} {E:Prop} (e:o.guard=none) (s x:Operand) (t tn:TypeId)
  (g:o.op=.call {callee:=.builtin .append,args:=#[s,x],argTypes:=#[t,tn]}) (v u r:Value) (i:a.eval s=v) (m:a.eval x=u)
  (d:(Builtin.append_ #[t,tn] o.type #[v,u]).run P w=.ok r w') (h:K (a.put o.dst r) w'):
  if Region.wanted o (yielded ops a.tmps)=true then Oper.wp P o a w K Q else E:=by
 have j:Region.wanted o (yielded ops a.tmps)=true:=by simp[Region.wanted,e]
 rw[if_pos j];unfold Oper.wp execOp;simp only[g,resolve,invoke,builtin,Sem.run_bind,Sem.run_pure,Result.andThen_ok,List.map_toArray,List.map_cons,List.map_nil,i,m,d];exact h
structure wJ (base:Nat) (W0:World) (row:Option Nat) (W:World) (v:Value) (o:List Nd):Prop where
 own:W.ownsRow base 63 4 v o.length (o.flatMap Nd.cells)
 gr:W0.grownBy W row
 bl:∀k,v.ownBlock=some k->row=some k\/W0.heap.size<=k
section
variable {base:Nat} {W0 W W':World} {row:Option Nat} {v:Value} {o:List Nd}
theorem wJ.form (h:wJ base W0 row W v o) (d:o.length<=1000000):∃A c,v=.slice A o.length c/\Nds W base A c o:=SlE.of_own h.own (by omega)
theorem wJ.below (h:wJ base W0 row W v o) (d:Below W W W'):wJ base W0 row W' v o:=
 ⟨zD h.own d,h.gr.trans ⟨d.os,d.tape,d.output,d.size,fun k e _=>d.block k e⟩,h.bl⟩
theorem wJ.alloc (h:wJ base W0 row W v o) (x:Obj):wJ base W0 row (W.alloc x) v o:=h.below (bLa)
theorem wJ.refl (h:W.ownsRow base 63 4 v o.length (o.flatMap Nd.cells)):wJ base W v.ownBlock W v o:=⟨h,World.grownBy.refl _ _,fun _ d=>.inl d⟩
theorem wJ.cell (h:wJ base W0 row W v o) {a:Addr} {u:Value} (e:W0.cell? a=some u) (d:some a.block≠row):W.cell? a=some u:=h.gr.cell e d
theorem wJ.belowB {B:Nat} {w:World} (h:wJ base W0 row W v o) (g:Below B w W0) (e:B<=W0.heap.size) (d:∀k,row=some k->B<=k):Below B w W:=g.grown h.gr e d
def NTo (base:Nat) (o':List Nd) (v:Value) (W:World) (e:Ending) (w':World):Prop:=∃v',e=.returned v'/\wJ base W v.ownBlock w' v' o'
theorem wJ.call {e:List Nd} {v':Value} (h:wJ base W0 row W v o) (d:wJ base W v.ownBlock W' v' e):wJ base W0 row W' v' e:=by
 refine⟨d.own,h.gr.andThen d.gr (fun j g=>?_),fun k i=>?_⟩
 ·rcases h.bl j g with h1|h1
  ·exact .inr h1
  exact .inl h1
 rcases d.bl k i with h1|h1
 ·exact h.bl k h1
 exact .inr (Nat.le_trans h.gr.size h1)
theorem wJ.app (h:wJ base W0 row W v o) (x:Nd) (hl:o.length<=1000000) (hb:base<=W.heap.size):
  ∃T c w',(Builtin.append_ #[42,42] 42 #[v,.slice (some ⟨W,0,none⟩) 1 1]).run Tryz.prog (W.alloc (.cells #[x.k,x.a,x.b,x.n] 63))=.ok (.slice T (o.length+1) c) w'/\
   wJ base W0 row w' (.slice T (o.length+1) c) (o++[x])/\W.grownBy w' v.ownBlock:=by
 obtain⟨i0,m,J,K,N⟩:=info_parts zBJ;have ha:=h.alloc (.cells #[x.k,x.a,x.b,x.n] 63)
 obtain⟨v',w',e,h2,h3,h4⟩:=jC (P:=Tryz.prog) (W.alloc (.cells #[x.k,x.a,x.b,x.n] 63)) base 42 42 63 i0 _ 4 32 Tryz.underlying42 m J K N rfl (by decide)
  v o.length _ ha.own (some ⟨W,0,none⟩) 1 1 x.cells rfl (fun _=>⟨_,0,rfl,Nat.zero_le _,by simp,fun j u g=>by
   have h:(W.alloc (.cells #[x.k,x.a,x.b,x.n] 63)).heap[W.heap.size]?=some (.cells #[x.k,x.a,x.b,x.n] 63):=by
    show(W.heap.push _)[W.heap.size]?=_
    simp
   simp only[World.cell?,h,Nat.zero_add]
   simpa[Nd.cells] using g⟩)
  (by intro u g;simp only[Nd.cells,List.mem_cons,List.not_mem_nil,or_false] at g;rcases g with rfl|rfl|rfl|rfl<;>rfl)
  (by simp only[maxLen];omega) (by omega) (by simp;omega)
 have d:w'.ownsRow base 63 4 v' (o++[x]).length ((o++[x]).flatMap Nd.cells):=by simpa using h2
 obtain⟨T,c,U,_⟩:=zF d;rw[show(o++[x]).length=o.length+1 by simp] at U
 subst U;have O:W.grownBy w' v.ownBlock:=(World.grownBy_alloc W _ _).trans h3
 have i:∀k,(Value.slice T (o.length+1) c).ownBlock=some k->v.ownBlock=some k\/W.heap.size<=k:=by
  intro k s
  rcases h4 with h4|h4
  ·exact .inl (h4▸s)
  rw[h4] at s
  simp at s
  exact .inr (by omega)
 exact⟨T,c,w',e,h.call ⟨d,O,i⟩,O⟩
end
end
end Go.Proofs.YtoglgeaiiipchaaGreatDoor

/-
  Lemmas, part 14.
-/
import Derived.Test.YtehomnafaoplgaaGreatZ13
namespace Go.Proofs.YtehomnafaoplgaaGreat
open Go Go.RowKit Eng
theorem tt_sw{p:Int}(h:time p=true){v:Topo}(h1:v.parents.length+1<=24)(h2:v.nodes.length<=24)(i:Nat)(k:Topo->Option (Topo×Bool)):J2 (swL p) i v k=k ⟨v.parents++[p],v.nodes⟩:=by
 unfold J2
 have hl:=J0 p
 have hp:Z3 (swL p) 32=some (Y2 32 (swL p)):=Yc (c:=32) (by simp[swL];omega)
 rw[hp,X1K,bS]
 have i0:idx [([115,119,105,116,99,104]:Str),numText p] 0=some [115,119,105,116,99,104]:=rfl
 have i1:idx [([115,119,105,116,99,104]:Str),numText p] 1=some (numText p):=rfl
 have e:((([([115,119,105,116,99,104]:Str),numText p].length:Nat):Int)==2)=true:=rfl
 rw[e,yN,i0,bS,beq_self_eq_true,Bool.and_self,yN,i1,bS,ZN h,bS,Q0 (by simp;omega),bS]
 unfold V8
 rw[show(decide ((24:Int)<((v.parents++[p]).length:Int))||decide ((24:Int)<(v.nodes.length:Int)))=false by simp;omega,yM]
theorem tt_nd{x:Node}(h:time x.leaf=true)(hv:U0 x.cap=true){v:Topo}(h1:v.parents.length<=24)(h2:v.nodes.length+1<=24)(i:Nat)(k:Topo->Option (Topo×Bool)):J2 (ndL x) i v k=k ⟨v.parents,v.nodes++[x]⟩:=by
 unfold J2
 have hl:=J0 x.leaf
 have hl2:=W7 x.cap
 have hp:Z3 (ndL x) 32=some (Y2 32 (ndL x)):=Yc (c:=32) (by simp[ndL];omega)
 rw[hp,M1M,bS]
 have i0:idx [([110,111,100,101]:Str),numText x.leaf,X4 x.cap] 0=some [110,111,100,101]:=rfl
 have i1:idx [([110,111,100,101]:Str),numText x.leaf,X4 x.cap] 1=some (numText x.leaf):=rfl
 have i2:idx [([110,111,100,101]:Str),numText x.leaf,X4 x.cap] 2=some (X4 x.cap):=rfl
 have e:((([([110,111,100,101]:Str),numText x.leaf,X4 x.cap].length:Nat):Int)==2)=false:=rfl
 have e3:((([([110,111,100,101]:Str),numText x.leaf,X4 x.cap].length:Nat):Int)==3)=true:=rfl
 simp only[e,e3,yN,yM,i0,i1,i2,bS,beq_self_eq_true,Bool.and_self,Bool.false_and,ZN h,W0A hv]
 rw[Q0 (by simp;omega),bS]
 unfold V8
 rw[show(decide ((24:Int)<(v.parents.length:Int))||decide ((24:Int)<((v.nodes++[x]).length:Int)))=false by simp;omega,yM]
theorem V2x{v:Topo}(h1:v.parents.length<=24)(h2:v.nodes.length<=24)(i:Nat)(k:Topo->Option (Topo×Bool)):J2 [] i v k=k v:=by
 unfold J2
 have hp:Z3 [] 32=some (Y2 32 []):=Yc (c:=32) (by simp)
 have e:((([([]:Str)].length:Nat):Int)==2)=false:=rfl
 have e3:((([([]:Str)].length:Nat):Int)==3)=false:=rfl
 rw[hp,show Y2 32 []=[[]] from rfl,bS]
 simp only[e,e3,yM,Bool.false_and,bS]
 unfold V8
 rw[show(decide ((24:Int)<(v.parents.length:Int))||decide ((24:Int)<(v.nodes.length:Int)))=false by simp;omega,yM]
theorem M26{kk:Topo->Option (Topo×Bool)}(m:tT):∀(l:tI) (i:Nat) (v:Topo),(∀p∈l,time p=true)->v.parents.length+l.length<=24->v.nodes.length<=24->rgl J2 kk (l.map swL++m) i v=rgl J2 kk m (i+l.length) ⟨v.parents++l,v.nodes⟩
 |[],i,v,_,_,_=>by simp
 |p::l,i,v,h,h1,h2=>by
  simp only[yT]at h1
  rw[List.map_cons,List.cons_append,rgl,tt_sw (h p (yJ ..)) (by omega) h2,M26 m l (i+1) ⟨v.parents++[p],v.nodes⟩ (λq hq=>h q (yH _ hq)) (by simp;omega) h2]
  rw[yT,show i+1+l.length=i+(l.length+1) by omega]
  simp
theorem J29{kk:Topo->Option (Topo×Bool)}(m:tT):∀(l:List Node) (i:Nat) (v:Topo),(∀x∈l,time x.leaf=true/\U0 x.cap=true)->v.parents.length<=24->v.nodes.length+l.length<=24->rgl J2 kk (l.map ndL++m) i v=rgl J2 kk m (i+l.length) ⟨v.parents,v.nodes++l⟩
 |[],i,v,_,_,_=>by simp
 |x::l,i,v,h,h1,h2=>by
  simp only[yT]at h2
  obtain⟨a,b⟩:=h x (yJ ..)
  rw[List.map_cons,List.cons_append,rgl,tt_nd a b h1 (by omega),J29 m l (i+1) ⟨v.parents,v.nodes++[x]⟩ (λq hq=>h q (yH _ hq)) h1 (by simp;omega)]
  rw[yT,show i+1+l.length=i+(l.length+1) by omega]
  simp
theorem Y1K{t:Topo}(h:topoOk t=true):Yi (Wb t)=some (t,true):=by
 have T:=Ma.1 h
 have hle:=T.tree.le
 have hpos:=T.tree.pos
 have hn:=T.nodes
 obtain⟨t1,t2⟩:=T.times
 unfold Yi
 have hp:Z3 (Wb t) 10=some (Y2 10 (Wb t)):=Yc (c:=10) (by have:=VI t;omega)
 rw[hp,V21 h,bS]
 unfold ZY
 rw[List.append_assoc,M26 _ _ _ _ t1 (by simp;omega) (by simp),J29 _ _ _ _ t2 (by simp;omega) (by simpa using hn)]
 have e:(⟨[0]++t.parents.drop 1,([]:List Node)++t.nodes⟩:Topo)=t:=by
  have h0:=T.tree.root
  obtain⟨P,N⟩:=t
  cases P with
  |nil=>simp at h0
  |cons a l=>simp at h0;subst h0;rfl
 simp only[rgl]
 rw[e,V2x hle hn]
 unfold Ud
 rw[Lu,Qb,h,bS]
 simp only[yL,yM,V00,bS,Bool.false_or,bne_self_eq_false]
theorem W2t(s:Str):∃p,U2 s=some p:=by
 unfold U2 Z0
 cases hw:(decide ((1:Int)<=(s.length:Int))&&decide ((s.length:Int)<=10))with
 |false=>exact⟨_,rfl⟩
 |true =>
  simp only[yL,yM]
  have hl:1<=s.length/\s.length<=10:=by simp at hw;omega
  refine Xw (λ_ (o:Option (Int×Bool))=>∃p,o=some p) (λv:Int×Int=>((s.length:Int)-v.2).toNat) (λv=>∃i:Nat,v.2=(i:Int)) (λv k hI hk=>?_) _ _ ⟨0,rfl⟩ (by simp only;omega)
  obtain⟨a,b⟩:=v
  obtain⟨i,hi⟩:=hI
  simp only at hi
  subst hi
  unfold Og
  dsimp only
  by_cases hlt:i<s.length
  .rw[show decide ((i:Int)<(s.length:Int))=true by simp;omega,yN,X3,yA hlt,bS]
   cases(decide ((s[i].toNat:Int)<48)||decide ((57:Int)<(s[i].toNat:Int)))with
   |true=>exact⟨_,rfl⟩
   |false =>
    rw[yM,Y5 (n:=(i:Int)+1) (by omega)]
    exact hk _ ⟨i+1,by simp⟩ (by simp only;omega)
  .rw[show decide ((i:Int)<(s.length:Int))=false by simp;omega,yM,Z7,bS]
   cases(numText a != s)<;>exact⟨_,rfl⟩
def numG(s:Str):Int:=((U2 s).getD (0,false)).1
theorem Jg{n:Int}(h:time n=true):numG (numText n)=n:=by unfold numG;rw[ZN h];rfl
theorem L06{l:tT}(h:l.length<=1048576):U07 l=some (l.map numG):=by
 unfold U07
 rw[Q7 (bd:=WN) (bs:=8) (p:=λ_=>true) (f:=numG) (λx hx i b k=>by
  obtain⟨p,hp⟩:=W2t x
  unfold WN numG
  rw[hp];rfl) (by simp;omega)]
 unfold V07
 simp[List.filter_eq_self.2]
theorem Y0e{α:Type}(a:α)(l:List α):cutL (a::l) (some 1) none=some l:=by
 unfold cutL bhi blo
 simp only
 rw[yd (by simp;omega)]
 simp
def lnOk(s:State):Ln->Prop
 |.hd v d n=>U0 v=true/\time d=true/\time n=true
 |.dn i=>i<s.up.length/\i<=1000
 |.wt j=>Y1 j=true/\s.queue.length<=1000
 |.rn x=>Y1 x.job=true/\time x.t=true/\1<=x.nodes.length/\x.nodes.length<=24/\(∀n∈x.nodes,time n=true)/\s.runs.length<=1000
 |.en e=>time e.id=true/\time e.t=true/\time e.why=true/\s.ends.length<=1000
 |.ov=>True
theorem V1D{α:Type}{l:List α}(h:l.length<=4194304):lenQ l=some ():=by unfold lenQ;rw[yd (by omega)]
theorem X1a(j:Job):(jobW j).length=7:=rfl
theorem Y2u{l:tI}(h:∀n∈l,time n=true):(l.map numText).map numG=l:=by
 induction l with
 |nil=>rfl
 |cons a l ih=>rw[List.map_cons,List.map_cons,Jg (h a (yJ ..)),ih λn hn=>h n (yH _ hn)]
theorem Y2s{s:State}{v:Vec}{d n:Int}(h:lnOk s (.hd v d n)):M0 s (lnW (.hd v d n))=some (true,lnGo s (.hd v d n)):=by
 obtain⟨h1,h2,h3⟩:=h
 unfold M0 lnW
 have i0:idx [([115,116,97,116,101]:Str),X4 v,numText d,numText n] 0=some [115,116,97,116,101]:=rfl
 have i1:idx [([115,116,97,116,101]:Str),X4 v,numText d,numText n] 1=some (X4 v):=rfl
 have j1:idx [numG (X4 v),d,n] 1=some d:=rfl
 have j2:idx [numG (X4 v),d,n] 2=some n:=rfl
 have e:((([([115,116,97,116,101]:Str),X4 v,numText d,numText n].length:Nat):Int)==4)=true:=rfl
 rw[Y0e,bS,L06 (by simp),bS]
 simp only[List.map_cons,List.map_nil,Jg h2,Jg h3,i0,i1,j1,j2,e,bS,beq_self_eq_true,Bool.and_self,yN,W0A h1]
 rfl
theorem V2s{s:State}{i:Nat}(h:lnOk s (.dn i))(hu:s.up.length<=1000):M0 s (lnW (.dn i))=some (true,lnGo s (.dn i)):=by
 obtain⟨h1,h2⟩:=h
 have t:time (i:Int)=true:=by unfold time;rw[yD,yO,yO];omega
 unfold M0 lnW
 have i0:idx [([100,111,119,110]:Str),numText i] 0=some [100,111,119,110]:=rfl
 have j0:idx [(i:Int)] 0=some (i:Int):=rfl
 have n1:(([100,111,119,110]:Str)==[115,116,97,116,101])=false:=rfl
 have e:((([([100,111,119,110]:Str),numText i].length:Nat):Int)==2)=true:=rfl
 have g:idx s.up (i:Int)=some (s.up[i]'h1):=by rw[X3];exact yA h1
 rw[Y0e,bS,L06 (by simp),bS]
 simp only[List.map_cons,List.map_nil,Jg t,i0,j0,e,n1,bS,beq_self_eq_true,Bool.and_self,Bool.false_and,yN,yM,V1D (l:=s.up) (by omega),V1D (l:=[([100,111,119,110]:Str),numText i]) (by simp),show decide ((i:Int)<(s.up.length:Int))=true by simp;omega,g]
 rfl
theorem L2r{s:State}{j:Job}(h:lnOk s (.wt j)):M0 s (lnW (.wt j))=some (true,lnGo s (.wt j)):=by
 obtain⟨h1,h2⟩:=h
 unfold M0 lnW
 have i0:idx (([119,97,105,116]:Str)::jobW j) 0=some [119,97,105,116]:=rfl
 have n1:(([119,97,105,116]:Str)==[115,116,97,116,101])=false:=rfl
 have n2:(([119,97,105,116]:Str)==[100,111,119,110])=false:=rfl
 have e:((((([119,97,105,116]:Str)::jobW j).length:Nat):Int)==8)=true:=rfl
 rw[Y0e,bS,L06 (by rw[X1a];omega),bS]
 simp only[i0,e,n1,n2,bS,beq_self_eq_true,Bool.and_self,Bool.false_and,yN,yM,X1E h1]
 rw[Q0 (by simp;omega),bS]
 rfl
theorem J2r{s:State}{x:Run}(h:lnOk s (.rn x)):M0 s (lnW (.rn x))=some (true,lnGo s (.rn x)):=by
 obtain⟨h1,h2,h3,h4,h5,h6⟩:=h
 unfold M0 lnW
 have tk:time (x.nodes.length:Int)=true:=by unfold time;rw[yD,yO,yO];omega
 have hN:((([x.t,(x.nodes.length:Int)]++x.nodes).map numText++jobW x.job).map numG)=x.t::(x.nodes.length:Int)::(x.nodes++(jobW x.job).map numG):=by
  rw[List.map_append,Y2u (l:=[x.t,(x.nodes.length:Int)]++x.nodes) (λn hn=>by
   rcases List.mem_append.1 hn with hn|hn
   .simp only[List.mem_cons,List.not_mem_nil,or_false]at hn
    rcases hn with rfl|rfl
    .exact h2
    .exact tk
   .exact h5 n hn)]
  simp
 have i0:idx (([114,117,110]:Str)::(([x.t,(x.nodes.length:Int)]++x.nodes).map numText++jobW x.job)) 0=some [114,117,110]:=rfl
 have j0:idx (x.t::(x.nodes.length:Int)::(x.nodes++(jobW x.job).map numG)) 0=some x.t:=rfl
 have j1:idx (x.t::(x.nodes.length:Int)::(x.nodes++(jobW x.job).map numG)) 1=some (x.nodes.length:Int):=rfl
 have n1:(([114,117,110]:Str)==[115,116,97,116,101])=false:=rfl
 have n2:(([114,117,110]:Str)==[100,111,119,110])=false:=rfl
 have n3:(([114,117,110]:Str)==[119,97,105,116])=false:=rfl
 have hlen:(([114,117,110]:Str)::(([x.t,(x.nodes.length:Int)]++x.nodes).map numText++jobW x.job)).length=10+x.nodes.length:=by
  simp[X1a];omega
 have e1:decide ((10:Int)<((([114,117,110]:Str)::(([x.t,(x.nodes.length:Int)]++x.nodes).map numText++jobW x.job)).length:Int))=true:=by rw[hlen];simp;omega
 have e2:(((([114,117,110]:Str)::(([x.t,(x.nodes.length:Int)]++x.nodes).map numText++jobW x.job)).length:Int)==w64 (10+(x.nodes.length:Int)))=true:=by rw[hlen,Y5 (by omega)];simp
 have c1:cutL (x.t::(x.nodes.length:Int)::(x.nodes++(jobW x.job).map numG)) (some 2) (some (w64 (2+(x.nodes.length:Int))))=some x.nodes:=by
  rw[Y5 (by omega),show(2:Int)+(x.nodes.length:Int)=((2+x.nodes.length:Nat):Int) by omega]
  have a1:(0:Int)<=((2+x.nodes.length:Nat):Int)/\((2+x.nodes.length:Nat):Int)<=((x.t::(x.nodes.length:Int)::(x.nodes++(jobW x.job).map numG)).length:Int):=by simp;omega
  have a2:(0:Int)<=2/\(2:Int)<=((2+x.nodes.length:Nat):Int):=by omega
  simp only[cutL,bhi,blo,yd a1,yd a2,yZ]
  rw[show 2+x.nodes.length=x.nodes.length+1+1 by omega]
  simp
 have c2:cutL (([114,117,110]:Str)::(([x.t,(x.nodes.length:Int)]++x.nodes).map numText++jobW x.job)) (some (w64 (3+(x.nodes.length:Int)))) none=some (jobW x.job):=by
  rw[Y5 (by omega),show(3:Int)+(x.nodes.length:Int)=((3+x.nodes.length:Nat):Int) by omega]
  have a2:(0:Int)<=((3+x.nodes.length:Nat):Int)/\((3+x.nodes.length:Nat):Int)<=((([114,117,110]:Str)::(([x.t,(x.nodes.length:Int)]++x.nodes).map numText++jobW x.job)).length:Int):=by rw[hlen];omega
  simp only[cutL,bhi,blo,yd a2,List.take_length,yZ]
  rw[show 3+x.nodes.length=x.nodes.length+1+1+1 by omega]
  simp
 rw[Y0e,bS,L06 (by simp[X1a];omega),bS,hN]
 simp only[i0,e1,e2,j0,j1,n1,n2,n3,c1,c2,bS,beq_self_eq_true,Bool.and_self,Bool.false_and,yN,yM,X1E h1]
 rw[Q0 (by simp;omega)]
 rfl
theorem X2s{s:State}{e:End}(h:lnOk s (.en e)):M0 s (lnW (.en e))=some (true,lnGo s (.en e)):=by
 obtain⟨h1,h2,h3,h4⟩:=h
 unfold M0 lnW
 have i0:idx [([101,110,100]:Str),numText e.id,numText e.t,numText e.why] 0=some [101,110,100]:=rfl
 have j0:idx [e.id,e.t,e.why] 0=some e.id:=rfl
 have j1:idx [e.id,e.t,e.why] 1=some e.t:=rfl
 have j2:idx [e.id,e.t,e.why] 2=some e.why:=rfl
 have n1:(([101,110,100]:Str)==[115,116,97,116,101])=false:=rfl
 have n2:(([101,110,100]:Str)==[100,111,119,110])=false:=rfl
 have n3:(([101,110,100]:Str)==[119,97,105,116])=false:=rfl
 have n4:(([101,110,100]:Str)==[114,117,110])=false:=rfl
 have el:((([([101,110,100]:Str),numText e.id,numText e.t,numText e.why].length:Nat):Int)==4)=true:=rfl
 rw[Y0e,bS,L06 (by simp),bS]
 simp only[List.map_cons,List.map_nil,Jg h1,Jg h2,Jg h3,i0,el,j0,j1,j2,n1,n2,n3,n4,bS,beq_self_eq_true,Bool.and_self,Bool.false_and,yN,yM]
 rw[Q0 (by simp;omega)]
 rfl
theorem Z2s(s:State):M0 s (lnW .ov)=some (true,s):=by
 unfold M0 lnW
 have i0:idx [ovL] 0=some ovL:=rfl
 have n1:(ovL==([115,116,97,116,101]:Str))=false:=rfl
 have n2:(ovL==([100,111,119,110]:Str))=false:=rfl
 have n3:(ovL==([119,97,105,116]:Str))=false:=rfl
 have n4:(ovL==([114,117,110]:Str))=false:=rfl
 have n5:(ovL==([101,110,100]:Str))=false:=rfl
 have n6:(ovL==([111,118,101,114]:Str))=true:=rfl
 have el:((([ovL].length:Nat):Int)==1)=true:=rfl
 rw[Y0e,bS,L06 (by simp),bS]
 simp only[i0,el,n1,n2,n3,n4,n5,n6,bS,Bool.and_self,Bool.false_and,yN,yM]
 rfl
theorem O27{s:State}{l:Ln}(h:lnOk s l)(hu:s.up.length<=1000):M0 s (lnW l)=some (true,lnGo s l):=by
 cases l with
 |hd v d n=>exact Y2s h
 |dn i=>exact V2s h hu
 |wt j=>exact L2r h
 |rn x=>exact J2r h
 |en e=>exact X2s h
 |ov=>exact Z2s s
def szOk(v:Topo):Prop:=v.parents.length<=24/\v.nodes.length<=24
def Y02(l:Str)(v:Topo):Topo:=match Y2 32 l with
 |[a,b]=>if a=[115,119,105,116,99,104]then⟨v.parents++[numG b],v.nodes⟩else v
 |[a,b,c]=>if a=[110,111,100,101]then⟨v.parents,v.nodes++[⟨numG b,((U9 c).getD (⟨0,0,0⟩,false)).1⟩]⟩else v
 |_=>v
theorem U1K{l:Str}(hl:l.length<=1048576){v:Topo}(hv:szOk v)(i:Nat)(k k2:Topo->Option (Topo×Bool)) :
  La l i v k=k (Y02 l v)/\J2 l i v k2=V8 k2 (Y02 l v):=by
 have hp:Z3 l 32=some (Y2 32 l):=Yc (c:=32) (by omega)
 have hm:∀w∈Y2 32 l,w.length<=1048576:=λw hw=>by have:=Xh 32 hw;omega
 obtain⟨v1,v2⟩:=hv
 unfold La J2 Y02
 rw[Zl,hp,bS,bS]
 have hsz:(decide ((24:Int)<(v.parents.length:Int))||decide ((24:Int)<(v.nodes.length:Int)))=false:=by simp;omega
 rw[hsz,yM]
 obtain⟨a,r,ha⟩:=Qo 32 l
 rw[ha]at hm ⊢
 have i0:idx (a::r) 0=some a:=rfl
 rw[i0,bS]
 unfold Yp
 match r with
 |[] =>
  have e2:((([a].length:Nat):Int)==2)=false:=rfl
  have e3:((([a].length:Nat):Int)==3)=false:=rfl
  simp only[e2,e3,Bool.and_false,Bool.false_and,yM,bS]
  exact⟨trivial,trivial⟩
 |[b] =>
  have e2:((([a,b].length:Nat):Int)==2)=true:=rfl
  have e3:((([a,b].length:Nat):Int)==3)=false:=rfl
  have i1:idx [a,b] 1=some b:=rfl
  obtain⟨n,q,hn,_⟩:=YN b
  have hg:numG b=n:=by unfold numG;rw[hn];rfl
  simp only[e2,e3,Bool.and_false,Bool.and_true,Bool.true_and,Bool.false_and,yN,yM,bS]
  by_cases h:a=[115,119,105,116,99,104]
  .rw[show(a==([115,119,105,116,99,104]:Str))=true by rw[h];rfl,yd h]
   simp only[yN,i1,bS,M0A,hn,hg]
   rw[Q0 (by simp;omega)]
   exact⟨rfl,rfl⟩
  .rw[show(a==([115,119,105,116,99,104]:Str))=false from beq_eq_false_iff_ne.2 h,ye h]
   exact⟨rfl,rfl⟩
 |[b,c] =>
  have e2:((([a,b,c].length:Nat):Int)==2)=false:=rfl
  have e3:((([a,b,c].length:Nat):Int)==3)=true:=rfl
  have i1:idx [a,b,c] 1=some b:=rfl
  have i2:idx [a,b,c] 2=some c:=rfl
  obtain⟨n,q,hn,_⟩:=YN b
  have hg:numG b=n:=by unfold numG;rw[hn];rfl
  obtain⟨u,w,hu1,hu2⟩:=Z02 (s:=c) (by have:=hm c (by simp);omega)
  have hu:((U9 c).getD (⟨0,0,0⟩,false)).1=u:=by rw[hu2];rfl
  simp only[e2,e3,Bool.and_false,Bool.and_true,Bool.true_and,Bool.false_and,yN,yM,bS]
  by_cases h:a=[110,111,100,101]
  .rw[show(a==([110,111,100,101]:Str))=true by rw[h];rfl,yd h]
   simp only[yN,i1,i2,bS,M0A,hn,hg,hu1,hu2]
   rw[Q0 (by simp;omega)]
   exact⟨rfl,rfl⟩
  .rw[show(a==([110,111,100,101]:Str))=false from beq_eq_false_iff_ne.2 h,ye h]
   exact⟨rfl,rfl⟩
 |b::c::d::r =>
  have e2:((((a::b::c::d::r).length:Nat):Int)==2)=false:=beq_eq_false_iff_ne.2 (by simp;omega)
  have e3:((((a::b::c::d::r).length:Nat):Int)==3)=false:=beq_eq_false_iff_ne.2 (by simp;omega)
  simp only[e2,e3,Bool.and_false,Bool.false_and,yM,bS]
  exact⟨trivial,trivial⟩
theorem J1v(s:Str):∀(L:tT) (i j:Nat) (v:Topo),(∀l∈L,l.length<=1048576)->szOk v->∃r:Topo×Bool,rgl La (Vd s) L i v=some r/\rgl J2 (Ud s) L j v=some r/\(r.2=true->topoOk r.1=true/\Wb r.1=s)
 |[],i,j,v,_,hv=>by
  rw[rgl,rgl]
  unfold Vd Ud
  rw[Lu,Qb,bS,bS]
  cases ho:topoOk v with
  |false=>exact⟨_,rfl,rfl,λh=>by cases h⟩
  |true =>
   simp only[yL,yM,W0m,V00,bS,Bool.false_or]
   cases hb:(Wb v != s)with
   |true=>exact⟨_,rfl,rfl,λh=>by cases h⟩
   |false=>exact⟨_,rfl,rfl,λ_=>⟨ho,by simpa using hb⟩⟩
 |l::L,i,j,v,hl,hv=>by
  obtain⟨h1,h2⟩:=U1K (hl l (yJ ..)) hv i (λb=>rgl La (Vd s) L (i+1) b) (λb=>rgl J2 (Ud s) L (j+1) b)
  obtain⟨_,h2⟩:=U1K (hl l (yJ ..)) hv j (λb=>rgl La (Vd s) L (i+1) b) (λb=>rgl J2 (Ud s) L (j+1) b)
  rw[rgl,rgl]
  rw[h1,h2]
  unfold V8
  by_cases hs:szOk (Y02 l v)
  .obtain⟨s1,s2⟩:=hs
   rw[show(decide ((24:Int)<((Y02 l v).parents.length:Int))||decide ((24:Int)<((Y02 l v).nodes.length:Int)))=false by simp;omega,yM]
   exact J1v s L (i+1) (j+1) _ (λx hx=>hl x (yH _ hx)) ⟨s1,s2⟩
  .have hov:(decide ((24:Int)<((Y02 l v).parents.length:Int))||decide ((24:Int)<((Y02 l v).nodes.length:Int)))=true:=by
    unfold szOk at hs
    simp;omega
   rw[hov,yN]
   refine⟨(⟨[],[]⟩,false),?_,rfl,λh=>by cases h⟩
   cases L with
   |nil =>
    rw[rgl]
    unfold Vd
    rw[Qb,bS]
    cases ho:topoOk (Y02 l v)with
    |false=>rfl
    |true =>
     exfalso
     have T:=Ma.1 ho
     exact hs ⟨T.tree.le,T.nodes⟩
   |cons l2 L =>
    have hp:∃y,Z3 l2 32=some y:=⟨_,Yc (c:=32) (by have:=hl l2 (by simp);omega)⟩
    obtain⟨y,hp⟩:=hp
    rw[rgl,La,Zl,hp,bS,hov,yN]
theorem O0Q{s:Str}(hs:s.length<=4194304)(hl:∀l∈Y2 10 s,l.length<=1048576):∃r:Topo×Bool,OA s=some r/\Yi s=some r/\(r.2=true->topoOk r.1=true/\Wb r.1=s):=by
 have hp:Z3 s 10=some (Y2 10 s):=Yc (c:=10) hs
 unfold OA Yi
 rw[Zl,hp,bS,bS]
 exact J1v s _ 0 0 _ hl ⟨by simp,by simp⟩
theorem X0f(s w:Str):Vc s w=some (decide (w.length<=s.length)&&(s.take w.length==w)):=by
 unfold Vc
 by_cases h:w.length<=s.length
 .rw[show decide ((w.length:Int)<=(s.length:Int))=true by simp;omega,yN,U1a h,bS,decide_eq_true h]
 .rw[show decide ((w.length:Int)<=(s.length:Int))=false by simp;omega,yM,decide_eq_false h]
  rfl
def U2u(l:Str):Prop:=Vc l [115,119,105,116,99,104,32]=some true\/(Vc l [115,119,105,116,99,104,32]=some false/\Vc l [110,111,100,101,32]=some true)
theorem O2q(p:Int):U2u (swL p):=.inl (by rw[X0f];simp[swL])
theorem L2t(x:Node):U2u (ndL x):=.inr ⟨by rw[X0f];simp[ndL],by rw[X0f];simp[ndL]⟩
theorem L2n(v:Vec)(d n:Int):Vc (hdL v d n) [115,119,105,116,99,104,32]=some false/\Vc (hdL v d n) [110,111,100,101,32]=some false:=⟨by rw[X0f];simp[hdL],by rw[X0f];simp[hdL]⟩
def U2x(s1:Str)(y2:tT)(v3:Int×Str):Option (State×Bool):=(Yi v3.2).bind λy12=>(bif !y12.2 then some default else(idx y2 (w64 ((y2.length:Int)-1)))).bind λe13=>bif (!y12.2)||(e13 != ([]:Str))then(some ((State.mk (Topo.mk [] []) [] (Vec.mk 0 0 0) 0 0 [] [] []),false))else(rgl Yn (Zn s1 y2 v3 y12) y12.1.nodes 0 [])
theorem V1l{s1:Str}{v:Vec}{d n:Int}{R:tT}:∀(B P:tT) (fuel:Nat),(∀l∈B,U2u l)->B.length<fuel->(P++B).length<=1000000->((P++B).flatMap nlS).length<=1000000000 ->
  whl (Qf s1 (P++B++hdL v d n::R)) fuel ((P.length:Int),P.flatMap nlS)=U2x s1 (P++B++hdL v d n::R) (((P++B).length:Int),(P++B).flatMap nlS)
 |[],P,fuel,_,hf,hl,ht=>by
  obtain⟨f,rfl⟩:∃f,fuel=f+1:=⟨fuel-1,by simp at hf;omega⟩
  rw[List.append_nil,whl,Qf]
  have hi:decide ((P.length:Int)<((P++hdL v d n::R).length:Int))=true:=by simp;omega
  have hx:idx (P++hdL v d n::R) (P.length:Int)=some (hdL v d n):=by rw[X3];simp
  simp only[hi,yN,hx,bS,(L2n v d n).1,(L2n v d n).2,yM,Bool.or_self,Bool.and_false]
  rfl
 |b::B,P,fuel,h,hf,hl,ht=>by
  simp only[yT]at hf
  obtain⟨f,rfl⟩:∃f,fuel=f+1:=⟨fuel-1,by omega⟩
  have e:P++b::B=(P++[b])++B:=by simp
  have hi:decide ((P.length:Int)<((P++b::B++hdL v d n::R).length:Int))=true:=by simp;omega
  have hx:idx (P++b::B++hdL v d n::R) (P.length:Int)=some b:=by rw[X3];simp
  have hb:b.length+(P.flatMap nlS).length+1<=1000000000:=by
   rw[e]at ht
   simp only[List.flatMap_append,ya,List.flatMap_nil,yU,nlS,yT,List.length_nil]at ht
   omega
  have c1:catS (P.flatMap nlS) b=some (P.flatMap nlS++b):=V0 (by omega)
  have c2:catS (P.flatMap nlS++b) [10]=some (P.flatMap nlS++b++[10]):=V0 (by simp only[yU,yT,List.length_nil];omega)
  have c3:w64 ((P.length:Int)+1)=((P++[b]).length:Int):=by rw[Y5 (by simp at hl;omega)];simp
  have c4:P.flatMap nlS++b++[10]=(P++[b]).flatMap nlS:=by simp[nlS]
  rw[whl,Qf]
  rcases h b (yJ ..)with h1|⟨h1,h2⟩
  .simp only[hi,yN,hx,bS,h1,Bool.true_and,Bool.true_or,c1,c2,c3,c4]
   rw[e]
   exact V1l B (P++[b]) f (λl hl=>h l (yH _ hl)) (by omega) (by rw[← e];exact hl) (by rw[← e];exact ht)
  .simp only[hi,yN,yM,hx,bS,h1,h2,Bool.true_and,Bool.false_or,c1,c2,c3,c4]
   rw[e]
   exact V1l B (P++[b]) f (λl hl=>h l (yH _ hl)) (by omega) (by rw[← e];exact hl) (by rw[← e];exact ht)
def Z1d:State->List Ln->Prop
 |_,[]=>True
 |s,l::B=>(lnOk s l/\s.up.length<=1000)/\Z1d (lnGo s l) B
theorem O0u:∀(A B:List Ln) (s:State),Z1d s A->Z1d (A.foldl lnGo s) B->Z1d s (A++B)
 |[],_,_,_,h=>h
 |_::A,B,_,h1,h2=>⟨h1.1,O0u A B _ h1.2 h2⟩
theorem J2B:∀(D:List Nat) (s:State),s.up.length<=1000->(∀d∈D,d<s.up.length)->Z1d s (D.map Ln.dn)
 |[],_,_,_=>trivial
 |d::D,s,h,hd=>by
  have:=hd d (yJ ..)
  exact⟨⟨⟨this,by omega⟩,h⟩,J2B D _ (by simpa[lnGo]using h) λx hx=>by simpa[lnGo]using hd x (yH _ hx)⟩
theorem O2B:∀(D:tJ) (s:State),s.up.length<=1000->s.queue.length+D.length<=1000->(∀j∈D,Y1 j=true)->Z1d s (D.map Ln.wt)
 |[],_,_,_,_=>trivial
 |d::D,s,h,hl,hd=>⟨⟨⟨hd d (yJ ..),by omega⟩,h⟩,O2B D _ h (by simp[lnGo]at hl ⊢;omega) λx hx=>hd x (yH _ hx)⟩
theorem M2B:∀(D:tR) (s:State),s.up.length<=1000->s.runs.length+D.length<=1000->(∀x∈D,Y1 x.job=true/\time x.t=true/\1<=x.nodes.length/\x.nodes.length<=24/\(∀n∈x.nodes,time n=true))->Z1d s (D.map Ln.rn)
 |[],_,_,_,_=>trivial
 |d::D,s,h,hl,hd=>by
  obtain⟨a,b,c,e,f⟩:=hd d (yJ ..)
  exact⟨⟨⟨a,b,c,e,f,by omega⟩,h⟩,M2B D _ h (by simp[lnGo]at hl ⊢;omega) λx hx=>hd x (yH _ hx)⟩
theorem L2B:∀(D:tE) (s:State),s.up.length<=1000->s.ends.length+D.length<=1000->(∀e∈D,time e.id=true/\time e.t=true/\time e.why=true)->Z1d s (D.map Ln.en)
 |[],_,_,_,_=>trivial
 |d::D,s,h,hl,hd=>by
  obtain⟨a,b,c⟩:=hd d (yJ ..)
  exact⟨⟨⟨a,b,c,by omega⟩,h⟩,L2B D _ h (by simp[lnGo]at hl ⊢;omega) λx hx=>hd x (yH _ hx)⟩
theorem Z1X{s:State}(h:StateP s):Z1d (st0 s.topo) (J0c s):=by
 have hn:=h.topo.nodes
 have hu:=h.up
 obtain⟨j1,j2⟩:=h.jobs
 have hnow:=Ob.1 h.now
 have hU:∀(D:List Nat) (u:tB),(D.foldl (λu i=>u.set i false) u).length=u.length:=by
  intro D
  induction D with
  |nil=>intro u;rfl
  |cons d D ih=>intro u;rw[List.foldl_cons,ih];simp
 unfold J0c
 refine⟨⟨⟨h.lic,Ob.2 (by have:=h.depth;omega),h.now⟩,by simp[st0];omega⟩,?_⟩
 refine O0u _ _ _ (J2B _ _ (by simp[lnGo,st0];omega) λd hd=>?_) ?_
 .have:=Y1Q s.up 0 d hd
  simp[lnGo,st0];omega
 rw[W2d]
 refine O0u _ _ _ (O2B _ _ (by simp[lnGo,st0,hU];omega) (by simp[lnGo,st0];omega) j2) ?_
 rw[V2d]
 refine O0u _ _ _ (M2B _ _ (by simp[lnGo,st0,hU];omega) (by simp[lnGo,st0];omega) λx hx=>?_) ?_
 .obtain⟨r1,r2,r3,r4,r5⟩:=h.runs.job x hx
  have hj:=(Xk.1 r1).2.2.1
  unfold U1B at r5
  simp only[yD]at r5
  refine⟨r1,r5.1.1.1,by omega,by omega,λn hn2=>?_⟩
  have:=(O5.1 r3).2 n hn2
  exact Ob.2 (by omega)
 rw[U2d]
 refine O0u _ _ _ (L2B _ _ (by simp[lnGo,st0,hU];omega) (by have:=h.ends;simp[lnGo,st0];omega) λe he=>?_) ?_
 .have:=h.fin e he
  unfold endOk at this
  simp only[yD,yO]at this
  exact⟨Ob.2 (by omega),Ob.2 (by omega),Ob.2 (by omega)⟩
 .exact⟨⟨trivial,by rw[Q2d];simp[lnGo,st0,hU];omega⟩,trivial⟩
def V2p(s1:Str)(st:State):Option (State×Bool):=(bif s1==([]:Str)then some default else(Zo st)).bind λw22=>bif (s1==([]:Str))||(w22 != s1)then(some ((State.mk (Topo.mk [] []) [] (Vec.mk 0 0 0) 0 0 [] [] []),false))else((X8 st).bind λy23=>some (y23,true))
theorem M1L{s1:Str}:∀(B:List Ln) (P:tT) (st:State) (fuel:Nat),Z1d st B->(∀l∈B,(lnS l).length<=1000000)->B.length<fuel->(P++B.map lnS).length<=1000000 ->
  whl (Uf s1 (P++B.map lnS++[[]])) fuel (st,(P.length:Int))=V2p s1 (B.foldl lnGo st)
 |[],P,st,fuel,_,_,hf,hl=>by
  obtain⟨f,rfl⟩:∃f,fuel=f+1:=⟨fuel-1,by simp at hf;omega⟩
  rw[whl,Uf]
  simp only[List.map_nil,List.append_nil]at hl ⊢
  rw[show w64 (((P++[([]:Str)]).length:Int)-1)=(P.length:Int) by rw[Y5 (by simp;omega)];simp]
  simp only[Int.lt_irrefl,decide_false,yM]
  rfl
 |l::B,P,st,fuel,ho,hs,hf,hl=>by
  simp only[yT]at hf
  obtain⟨f,rfl⟩:∃f,fuel=f+1:=⟨fuel-1,by omega⟩
  have e:P++(l::B).map lnS=(P++[lnS l])++B.map lnS:=by simp
  have hx:idx (P++(l::B).map lnS++[[]]) (P.length:Int)=some (lnS l):=by rw[X3];simp
  have hll:=hs l (yJ ..)
  have hp:Z3 (lnS l) 32=some (Y2 32 (lnS l)):=Yc (c:=32) (by omega)
  have hw:w64 (((P++(l::B).map lnS++[([]:Str)]).length:Int)-1)=((P++(l::B).map lnS).length:Int):=by rw[Y5 (by rw[yU];simp only[List.length_singleton];omega),yU];simp only[List.length_singleton];omega
  have hi:decide ((P.length:Int)<((P++(l::B).map lnS).length:Int))=true:=by simp;omega
  have c3:w64 ((P.length:Int)+1)=((P++[lnS l]).length:Int):=by rw[Y5 (by simp at hl;omega)];simp
  rw[whl,Uf]
  simp only[hw,hi,yN,hx,bS,hp,M1d,O27 ho.1.1 ho.1.2,yL,yM,c3]
  rw[e]
  exact M1L B (P++[lnS l]) (lnGo st l) f ho.2 (λx hx=>hs x (yH _ hx)) (by omega) (by rw[← e];exact hl)
theorem L0w{l:Str}:∀{L:tT},l∈L->l.length+1<=(L.flatMap nlS).length
 |[],h=>by cases h
 |a::L,h=>by
  rw[ya,yU]
  rcases yX h with rfl|h
  .simp[nlS]
  .have:=L0w h;omega
theorem U0K:∀(L:tT),L.length<=(L.flatMap nlS).length
 |[]=>by simp
 |a::L=>by
  have:=U0K L
  rw[ya,yU,yT]
  simp only[nlS,yU,List.length_singleton];omega
theorem Q26{s:State}(h:stateOk s=true):Vj (Q4 s)=some (s,true):=by
 have hP:=Uo h
 have hT:topoOk s.topo=true:=Ma.2 hP.topo
 have hsl:=Q0L s
 have hlines:=V04 h
 have hq:=hP.jobs.1
 unfold Vj
 have hp:Z3 (Q4 s) 10=some (Y2 10 (Q4 s)):=Yc (c:=10) (by omega)
 rw[hp,X1b h,bS]
 have hcnt:=U0K (ZY s.topo++(J0c s).map lnS)
 rw[← hlines]at hcnt
 have hcons:∃R,(J0c s).map lnS++[[]]=hdL s.lic s.depth s.now::R:=⟨_,rfl⟩
 obtain⟨R,hR⟩:=hcons
 have hY:ZY s.topo++(J0c s).map lnS++[[]]=[]++ZY s.topo++hdL s.lic s.depth s.now::R:=by rw[List.append_assoc,hR];rfl
 have htl:=WU hT
 have htlen:=VI s.topo
 have hcl:(ZY s.topo).length<=1000000:=by rw[yU]at hcnt;omega
 have L1:=V1l (s1:=Q4 s) (v:=s.lic) (d:=s.depth) (n:=s.now) (R:=R) (ZY s.topo) [] 9223372036854775807 (λl hl=>by
  unfold ZY at hl
  rcases List.mem_append.1 hl with hl|hl
  .obtain⟨x,_,rfl⟩:=yY hl;exact O2q x
  .obtain⟨x,_,rfl⟩:=yY hl;exact L2t x) (by omega) (by simpa using hcl) (by rw[List.nil_append,← htl];omega)
 rw[hY]
 refine Eq.trans L1 ?_
 rw[← hY,List.nil_append,← htl]
 unfold U2x
 dsimp only
 rw[Y1K hT,bS]
 have hlast:idx (ZY s.topo++(J0c s).map lnS++[([]:Str)]) (w64 (((ZY s.topo++(J0c s).map lnS++[([]:Str)]).length:Int)-1))=some []:=by
  have hl:(ZY s.topo++(J0c s).map lnS++[([]:Str)]).length=(ZY s.topo++(J0c s).map lnS).length+1:=by rw[yU,List.length_singleton]
  rw[hl,Y5 (by omega),show(((ZY s.topo++(J0c s).map lnS).length+1:Nat):Int)-1=((ZY s.topo++(J0c s).map lnS).length:Int) by omega,X3]
  simp
 simp only[yL,yM,hlast,bS,Bool.false_or,bne_self_eq_false]
 rw[Q7 (bd:=Yn) (bs:=1) (p:=λ_=>true) (f:=λ_=>true) (λx hx i b k=>rfl) (by have:=hP.topo.nodes;simp;omega)]
 unfold Zn
 have hrep:(([]:tB)++(s.topo.nodes.filter λ_=>true).map λ_=>true)=List.replicate s.topo.nodes.length true:=by rw[List.filter_eq_self.2 λ_ _=>rfl,List.nil_append,List.map_const']
 rw[hrep]
 have L2:=M1L (s1:=Q4 s) (J0c s) (ZY s.topo) (st0 s.topo) 9223372036854775807 (Z1X hP) (λl hl=>by
  have:=L0w (L:=ZY s.topo++(J0c s).map lnS) (l:=lnS l) (List.mem_append.2 (.inr (List.mem_map_of_mem hl)))
  rw[← hlines]at this;omega) (by rw[yU,List.length_map]at hcnt;omega) (by omega)
 refine Eq.trans L2 ?_
 rw[X1w hP.up]
 unfold V2p
 have hne:(Q4 s==([]:Str))=false:=by rw[VK,h];rfl
 rw[hne,yM,MT (by omega),bS,bne_self_eq_false,Bool.or_self,yM,Ue hP.small]
 rfl
theorem V1W{c:UInt8}:∀{s l:Str},l∈Y2 c s->c∉l
 |[],l,h=>by
  have:l=[]:=by simpa[Y2]using h
  rw[this];simp
 |x::s,l,h=>by
  rw[Y2]at h
  obtain⟨a,r,ha⟩:=Qo c s
  have ih:∀w∈a::r,c∉w:=λw hw=>V1W (by rw[ha];exact hw)
  split at h
  .rcases yX h with rfl|h
   .simp
   .exact ih l (by rw[← ha];exact h)
  .rename_i hx
   rw[ha]at h
   simp only at h
   rcases yX h with rfl|h
   .have:=ih a (yJ ..);simp[Ne.symm hx,this]
   .exact ih l (yH _ h)
theorem QQ(c:UInt8):∀s:Str,((Y2 c s).flatMap nlS).length=s.length+1
 |[]=>by simp[Y2,nlS]
 |x::s=>by
  have ih:=QQ c s
  obtain⟨a,r,ha⟩:=Qo c s
  rw[ha]at ih
  rw[Y2]
  split
  .rw[ha,ya,yU,ih];simp[nlS];omega
  .rw[ha]
   simp only[ya,yU,nlS,yT]at ih ⊢
   omega
theorem Y1b(L:tT)(k:Nat):((L.take k).flatMap nlS).length<=(L.flatMap nlS).length:=by
 have:L.flatMap nlS=(L.take k).flatMap nlS++(L.drop k).flatMap nlS:=by rw[← List.flatMap_append,List.take_append_drop]
 rw[this];simp
theorem J1y{s:Str}(hs:s.length<=1048576)(k:Nat):∃r:Topo×Bool,OA (((Y2 10 s).take k).flatMap nlS)=some r/\Yi (((Y2 10 s).take k).flatMap nlS)=some r/\(r.2=true->topoOk r.1=true/\Wb r.1=((Y2 10 s).take k).flatMap nlS):=by
 have h1:=Y1b (Y2 10 s) k
 have h2:=QQ 10 s
 refine O0Q (by omega) λl hl=>?_
 rw[M09 λl hl=>V1W (List.mem_of_mem_take hl)]at hl
 rcases List.mem_append.1 hl with hl|hl
 .have:=Xh 10 (List.mem_of_mem_take hl);omega
 .rw[List.mem_singleton.1 hl];simp
theorem V1C(s:Str):0<=numG s/\numG s<10000000000:=by
 obtain⟨n,b,h,_,h1,h2⟩:=YN s
 unfold numG
 rw[h]
 exact⟨h1,h2⟩
theorem V22(s:Str):∃b,U2 s=some (numG s,b):=by
 obtain⟨n,b,h,_⟩:=YN s
 refine⟨b,?_⟩
 unfold numG
 rw[h];rfl
theorem Z1b{l:tT}(h:l.length=7)(hl:∀w∈l,w.length<=1048576):∃j,Ve l=some j:=by
 match l,h with
 |[x1,x2,x3,x4,x5,x6,x7],_ =>
  have p0:idx [x1,x2,x3,x4,x5,x6,x7] 0=some x1:=rfl
  have p1:idx [x1,x2,x3,x4,x5,x6,x7] 1=some x2:=rfl
  have p2:idx [x1,x2,x3,x4,x5,x6,x7] 2=some x3:=rfl
  have p3:idx [x1,x2,x3,x4,x5,x6,x7] 3=some x4:=rfl
  have p4:idx [x1,x2,x3,x4,x5,x6,x7] 4=some x5:=rfl
  have p5:idx [x1,x2,x3,x4,x5,x6,x7] 5=some x6:=rfl
  have p6:idx [x1,x2,x3,x4,x5,x6,x7] 6=some x7:=rfl
  obtain⟨b1,e1⟩:=V22 x1
  obtain⟨b2,e2⟩:=V22 x2
  obtain⟨b3,e3⟩:=V22 x3
  obtain⟨m4,b4,_,f4⟩:=Z02 (s:=x4) (by have:=hl x4 (by simp);omega)
  obtain⟨m5,b5,_,f5⟩:=Z02 (s:=x5) (by have:=hl x5 (by simp);omega)
  obtain⟨b6,e6⟩:=V22 x6
  obtain⟨b7,e7⟩:=V22 x7
  unfold Ve
  simp only[p0,p1,p2,p3,p4,p5,p6,bS,e1,e2,e3,f4,f5,e6,e7]
  exact⟨_,rfl⟩
structure RdS(n:Nat)(s:State):Prop where
 up:s.up.length<=24
 sum:s.queue.length+s.runs.length+s.ends.length<=n
theorem RdS.suc{n:Nat}{s:State}(h:RdS n s):RdS (n+1) s:=⟨h.up,by have:=h.sum;omega⟩
theorem V2L{α:Type}[Inhabited α]{g:Bool}{o:Option α}{P:α->Prop}(h:g=true->∃x,o=some x/\P x):∃x,(bif g then o else some default)=some x/\(g=true->P x):=by
 cases g with
 |true=>obtain⟨x,rfl,hx⟩:=h rfl;exact⟨x,rfl,λ_=>hx⟩
 |false=>exact⟨default,rfl,λq=>by cases q⟩
theorem J2H{α:Type}{l:List α}{i:Nat}(h:i<l.length):idx l (i:Int)=some l[i]:=by rw[X3];exact yA h
theorem J1L{n:Nat}(hn:n<=1048576){s:State}(h:RdS n s){a:Str}{r:tT}(hl:∀w∈a::r,w.length<=1048576)(hr:r.length<=1048576):∃y:Bool×State,M0 s (a::r)=some y/\RdS (n+1) y.2:=by
 have hu:=h.up
 have hsum:=h.sum
 have hlr:∀w∈r,w.length<=1048576:=λw hw=>hl w (yH _ hw)
 have i0:idx (a::r) 0=some a:=rfl
 have fin:∀t:State,RdS (n+1) t->∃y:Bool×State,Q2 t=some y/\RdS (n+1) y.2:=λt ht=>⟨_,rfl,ht⟩
 unfold M0
 rw[Y0e,bS,L06 hr,bS,i0,bS]
 have hlen:(((a::r).length:Nat):Int)=(r.length:Int)+1:=by simp
 have hgl:(r.map numG).length=r.length:=by simp
 have get:∀{i:Nat} (hi:i<r.length),idx (r.map numG) (i:Int)=some (numG r[i]):=fun{i} hi=>by rw[J2H (by simpa using hi)];simp
 have getw:∀{i:Nat} (hi:i<r.length),idx (a::r) ((i+1:Nat):Int)=some r[i]:=fun{i} hi=>by rw[X3,List.getElem?_cons_succ];exact yA hi
 cases h1:((a==([115,116,97,116,101]:Str))&&(((a::r).length:Int)==4))with
 |true =>
  rw[yD]at h1
  have h3:r.length=3:=by have:=Ov h1.2;omega
  obtain⟨v,b,_,f⟩:=Z02 (s:=r[0]) (by have:=hlr r[0] (List.getElem_mem (by omega));omega)
  have g0:=getw (i:=0) (by omega)
  have g1:=get (i:=1) (by omega)
  have g2:=get (i:=2) (by omega)
  simp only[Nat.zero_add,Int.natCast_one]at g0 g1
  rw[yN,show idx (a::r) 1=some r[0] from g0,bS,f,bS,g1,bS,show idx (r.map numG) 2=some (numG r[2]) from g2,bS]
  exact fin _ ⟨hu,by simp only;omega⟩
 |false =>
 rw[yM]
 obtain⟨u10,q10,_⟩:=V2L (g:=(a==([100,111,119,110]:Str))) (o:=lenQ (a::r)) (P:=λ_=>True) λ_=>⟨(),V1D (by simp;omega),trivial⟩
 rw[q10,bS]
 obtain⟨e11,q11,p11⟩:=V2L (g:=(a==([100,111,119,110]:Str))&&(((a::r).length:Int)==2)) (o:=idx (r.map numG) 0) (P:=λx=>0<=x/\idx (r.map numG) 0=some x) λq=>by
  rw[yD]at q
  have h3:r.length=1:=by have:=Ov q.2;omega
  have g0:=get (i:=0) (by omega)
  exact⟨_,g0,(V1C _).1,g0⟩
 rw[q11,bS]
 obtain⟨u12,q12,_⟩:=V2L (g:=(a==([100,111,119,110]:Str))&&(((a::r).length:Int)==2)) (o:=lenQ s.up) (P:=λ_=>True) λ_=>⟨(),V1D (by omega),trivial⟩
 rw[q12,bS]
 cases h2:(((a==([100,111,119,110]:Str))&&(((a::r).length:Int)==2))&&decide (e11<(s.up.length:Int)))with
 |true =>
  rw[yD,yO]at h2
  obtain⟨p1,p2⟩:=p11 h2.1
  obtain⟨u,hu1,_⟩:=L0j (l:=s.up) (i:=e11) p1 h2.2
  rw[yN,p2,bS,hu1,bS]
  exact fin _ ⟨by simpa using hu,by simp only;omega⟩
 |false =>
 rw[yM]
 cases h3:((a==([119,97,105,116]:Str))&&(((a::r).length:Int)==8))with
 |true =>
  rw[yD]at h3
  have h7:r.length=7:=by have:=Ov h3.2;omega
  obtain⟨j,hj⟩:=Z1b h7 hlr
  rw[yN,bS,hj,bS,Q0 (by simp;omega),bS]
  exact fin _ ⟨hu,by simp;omega⟩
 |false =>
 rw[yM]
 obtain⟨e18,q18,p18⟩:=V2L (g:=(a==([114,117,110]:Str))&&decide ((10:Int)<((a::r).length:Int))) (o:=idx (r.map numG) 1) (P:=λx=>0<=x/\x<10000000000/\idx (r.map numG) 1=some x) λq=>by
  rw[yD,yO]at q
  have g1:=get (i:=1) (by omega)
  exact⟨_,g1,(V1C _).1,(V1C _).2,g1⟩
 rw[q18,bS]
 cases h4:(((a==([114,117,110]:Str))&&decide ((10:Int)<((a::r).length:Int)))&&(((a::r).length:Int)==w64 (10+e18)))with
 |true =>
  rw[yD]at h4
  obtain⟨p1,p2,p3⟩:=p18 h4.1
  have he:=Ov h4.2
  rw[Y5 (by omega)]at he
  have hk:(e18.toNat:Int)=e18:=Int.toNat_of_nonneg p1
  have hrl:r.length=9+e18.toNat:=by omega
  have g0:=get (i:=0) (by omega)
  rw[yN,show idx (r.map numG) 0=some (numG r[0]) from g0,bS,p3,bS]
  have c1:cutL (r.map numG) (some 2) (some (w64 (2+e18)))=some (((r.map numG).take (2+e18.toNat)).drop 2):=by
   rw[Y5 (by omega),show(2:Int)+e18=((2+e18.toNat:Nat):Int) by omega]
   exact J1I (i:=2) (j:=2+e18.toNat) (by omega) (by rw[hgl];omega)
  have c2:cutL (a::r) (some (w64 (3+e18))) none=some ((a::r).drop (3+e18.toNat)):=by
   rw[Y5 (by omega),show(3:Int)+e18=((3+e18.toNat:Nat):Int) by omega]
   have a2:(0:Int)<=((3+e18.toNat:Nat):Int)/\((3+e18.toNat:Nat):Int)<=((a::r).length:Int):=by omega
   simp only[cutL,bhi,blo,yd a2,List.take_length,yZ]
  obtain⟨j,hj⟩:=Z1b (l:=(a::r).drop (3+e18.toNat)) (by simp;omega) λw hw=>hl w (List.mem_of_mem_drop hw)
  rw[c1,bS,c2,bS,hj,bS,Q0 (by simp;omega),bS]
  exact fin _ ⟨hu,by simp;omega⟩
 |false =>
 rw[yM]
 cases h5:((a==([101,110,100]:Str))&&(((a::r).length:Int)==4))with
 |true =>
  rw[yD]at h5
  have h7:r.length=3:=by have:=Ov h5.2;omega
  have g0:=get (i:=0) (by omega)
  have g1:=get (i:=1) (by omega)
  have g2:=get (i:=2) (by omega)
  rw[yN,show idx (r.map numG) 0=some (numG r[0]) from g0,bS,show idx (r.map numG) 1=some (numG r[1]) from g1,bS,show idx (r.map numG) 2=some (numG r[2]) from g2,bS,Q0 (by simp;omega),bS]
  exact fin _ ⟨hu,by simp;omega⟩
 |false =>
 rw[yM]
 cases((a==([111,118,101,114]:Str))&&(((a::r).length:Int)==1))with
 |true=>exact fin s h.suc
 |false=>exact⟨_,rfl,h.suc⟩
theorem V1w(s w:Str):∃b,Vc s w=some b:=⟨_,X0f s w⟩
theorem U1v{s:Str}(hs:s.length<=1048576):∃r:State×Bool,Vj s=some r/\(r.2=true->stateOk r.1=true/\Q4 r.1=s)/\(r.2=false->r.1=zS):=by
 have hp:Z3 s 10=some (Y2 10 s):=Yc (c:=10) (by omega)
 unfold Vj
 rw[hp,bS]
 have hYl:=V1b 10 s
 have hYm:∀l∈Y2 10 s,l.length<=1048576:=λl hl=>by have:=Xh 10 hl;omega
 have hT:=QQ 10 s
 have hA:=λk=>J1y hs k
 have hne:(Y2 10 s)≠[]:=by obtain⟨a,r,h⟩:=Qo 10 s;rw[h];simp
 have hTk:=Y1b (Y2 10 s)
 generalize hY:Y2 10 s=Y at *
 have hpos:0<Y.length:=List.length_pos_iff.2 hne
 have bad:∃r:State×Bool,(some (zS,false):Option (State×Bool))=some r/\(r.2=true->stateOk r.1=true/\Q4 r.1=s)/\(r.2=false->r.1=zS):=⟨_,rfl,(λh=>by cases h),λ_=>rfl⟩
 refine Xw (λ_ (o:Option (State×Bool))=>∃r,o=some r/\(r.2=true->stateOk r.1=true/\Q4 r.1=s)/\(r.2=false->r.1=zS)) (λv:Int×Str=>((Y.length:Int)-v.1).toNat) (λv=>∃k:Nat,k<=Y.length/\v=((k:Int),(Y.take k).flatMap nlS)) (λv kk hI hk=>?_) _ _ ⟨0,by omega,by simp⟩ (by simp only;omega)
 obtain⟨k,hkl,rfl⟩:=hI
 unfold Qf
 dsimp only
 obtain⟨e4,q4,p4⟩:=V2L (g:=decide ((k:Int)<(Y.length:Int))) (o:=idx Y (k:Int)) (P:=λx=>idx Y (k:Int)=some x/\Y[k]?=some x) λq=>by
  have hlt:k<Y.length:=by simpa using q
  exact⟨_,J2H hlt,J2H hlt,yA hlt⟩
 rw[q4,bS]
 obtain⟨b5,q5,_⟩:=V2L (g:=decide ((k:Int)<(Y.length:Int))) (o:=Vc e4 ([115,119,105,116,99,104,32]:Str)) (P:=λ_=>True) λ_=>by
  obtain⟨b,hb⟩:=V1w e4 [115,119,105,116,99,104,32]
  exact⟨b,hb,trivial⟩
 rw[q5,bS]
 obtain⟨e6,q6,_⟩:=V2L (g:=decide ((k:Int)<(Y.length:Int))) (o:=bif b5 then some default else idx Y (k:Int)) (P:=λ_=>True) λq=>by
  cases b5 with
  |true=>exact⟨_,rfl,trivial⟩
  |false=>exact⟨e4,(p4 q).1,trivial⟩
 rw[q6,bS]
 obtain⟨b7,q7,_⟩:=V2L (g:=decide ((k:Int)<(Y.length:Int))) (o:=bif b5 then some default else Vc e6 ([110,111,100,101,32]:Str)) (P:=λ_=>True) λq=>by
  cases b5 with
  |true=>exact⟨_,rfl,trivial⟩
  |false =>
   obtain⟨b,hb⟩:=V1w e6 [110,111,100,101,32]
   exact⟨b,hb,trivial⟩
 rw[q7,bS]
 cases hc:(decide ((k:Int)<(Y.length:Int))&&(b5||b7))with
 |true =>
  rw[yD]at hc
  have hlt:k<Y.length:=by simpa using hc.1
  obtain⟨p1,p2⟩:=p4 hc.1
  have hel:e4.length<=1048576:=hYm _ (yE p2)
  have:=hTk k
  rw[yN,p1,bS,V0 (by omega),bS,V0 (by simp only[yU,yT,List.length_nil];omega),bS,Wn (by omega)]
  refine hk _ ⟨k+1,by omega,?_⟩ (by simp only;omega)
  obtain⟨_,hx⟩:=yB p2
  rw[List.take_succ_eq_append_getElem hlt,hx]
  simp[nlS]
 |false =>
  rw[yM]
  obtain⟨t,_,t2,t3⟩:=hA k
  rw[t2,bS]
  obtain⟨t,tb⟩:=t
  cases tb with
  |false=>exact bad
  |true =>
   have hlast:idx Y (w64 ((Y.length:Int)-1))=some Y[Y.length-1]:=by
    rw[Y5 (by omega),show(Y.length:Int)-1=((Y.length-1:Nat):Int) by omega]
    exact J2H _
   simp only[yL,yM,hlast,bS,Bool.false_or]
   cases(Y[Y.length-1]!=([]:Str))with
   |true=>exact bad
   |false =>
    have T:=Ma.1 (t3 rfl).1
    have hnl:=T.nodes
    simp only at hnl
    rw[yM,Q7 (bd:=Yn) (bs:=1) (p:=λ_=>true) (f:=λ_=>true) (λx hx i b k=>rfl) (by simp;omega)]
    unfold Zn
    rw[List.filter_eq_self.2 λ_ _=>rfl,List.nil_append,List.map_const']
    refine Xw (λ_ (o:Option (State×Bool))=>∃r,o=some r/\(r.2=true->stateOk r.1=true/\Q4 r.1=s)/\(r.2=false->r.1=zS)) (λv:State×Int=>((Y.length:Int)-v.2).toNat) (λv=>∃i j:Nat,v.2=(i:Int)/\i<=Y.length/\j<=i/\j+1<=Y.length/\RdS j v.1) (λv kk2 hI2 hk2=>?_) _ _ ⟨k,0,rfl,hkl,by omega,by omega,by simp;omega,by simp⟩ (by simp only;omega)
    obtain⟨st,i⟩:=v
    obtain⟨i,m,hi,hil,hmi,hml,hR⟩:=hI2
    simp only at hi hR
    subst hi
    unfold Uf
    dsimp only
    rw[Y5 (n:=(Y.length:Int)-1) (by omega)]
    by_cases hlt:(i:Int)<(Y.length:Int)-1
    .have hlt2:i<Y.length:=by omega
     have hel:=hYm _ (List.getElem_mem hlt2)
     have hpp:Z3 Y[i] 32=some (Y2 32 Y[i]):=Yc (c:=32) (by omega)
     have hw:∀w∈Y2 32 Y[i],w.length<=1048576:=λw hw=>by have:=Xh 32 hw;omega
     have hwl:=V1b 32 Y[i]
     obtain⟨a,r,ha⟩:=Qo 32 Y[i]
     rw[ha]at hw hwl
     obtain⟨y,y1,y2⟩:=J1L (n:=m) (by omega) hR hw (by simp at hwl;omega)
     rw[decide_eq_true hlt,yN,J2H hlt2,bS,hpp,bS,ha,y1,bS]
     cases y.1 with
     |false=>exact bad
     |true =>
      rw[yL,yM,Wn (by omega)]
      exact hk2 _ ⟨i+1,m+1,rfl,by omega,by omega,by omega,y2⟩ (by simp only;omega)
    .rw[decide_eq_false hlt,yM]
     have hsum:=hR.sum
     cases hse:(s==([]:Str))with
     |true=>exact bad
     |false =>
      rw[yM,MT (by omega),bS,Bool.false_or]
      cases hst:(Q4 st != s)with
      |true=>exact bad
      |false =>
       have e:Q4 st=s:=by simpa using hst
       have hok:stateOk st=true:=by
        have:=VK (s:=st)
        rw[e,hse]at this
        simpa using this.symm
       rw[yM,Ue (Uo hok).small]
       exact⟨_,rfl,(λ_=>⟨hok,e⟩),λh=>by cases h⟩
def JX(L:tT):Str:=L.flatMap λx=>32::x
theorem L1e:∀(a:Str) (r:tT),U1p 32 (a::r)=a++JX r
 |a,[]=>by simp[U1p,JX]
 |a,b::r=>by
  rw[U1p,L1e b r]
  simp[JX]
theorem O1y(L:tT):(JX L).length=(L.flatMap nlS).length:=by
 induction L with
 |nil=>rfl
 |cons a L ih=>unfold JX at ih ⊢;simp only[ya,yU,ih,nlS,yT,List.length_nil]
theorem M1e:∀(L:tT) (i:Nat) (acc:Str),0<i->acc.length+(JX L).length<=1000000000->rgl Yl UF L i acc=some (acc++JX L)
 |[],i,acc,_,_=>by simp[rgl,JX,UF]
 |x::L,i,acc,hi,h=>by
  have e:JX (x::L)=32::x++JX L:=by simp[JX]
  rw[e]at h
  simp only[yU,yT]at h
  rw[rgl,Yl,show decide ((0:Int)<(i:Int))=true by simp;omega,yN,V0 (by simp;omega),bS]
  unfold Wf
  rw[V0 (by simp;omega),bS,M1e L (i+1) _ (by omega) (by simp;omega),e]
  simp
theorem W2b{L:tT}(h:(L.flatMap nlS).length<=1000000):Yr L=some (U1p 32 L):=by
 unfold Yr
 cases L with
 |nil=>rfl
 |cons a r =>
  rw[← O1y]at h
  have e:(JX (a::r)).length=a.length+1+(JX r).length:=by simp[JX];omega
  rw[e]at h
  rw[rgl,Yl,show decide ((0:Int)<((0:Nat):Int))=false from rfl,yM]
  unfold Wf
  rw[V0 (by simp;omega),bS,List.nil_append,M1e r 1 a (by omega) (by omega),L1e]
theorem V1Z{L:tT}(h:(L.flatMap nlS).length<=2097152):∃w,Yr L=some w/\w.length<=2097152:=by
 unfold Yr
 cases L with
 |nil=>exact⟨[],rfl,by simp⟩
 |cons a r =>
  rw[← O1y]at h
  have e:(JX (a::r)).length=a.length+1+(JX r).length:=by simp[JX];omega
  rw[e]at h
  rw[rgl,Yl,show decide ((0:Int)<((0:Nat):Int))=false from rfl,yM]
  unfold Wf
  rw[V0 (by simp;omega),bS,List.nil_append,M1e r 1 a (by omega) (by omega)]
  exact⟨_,rfl,by simp;omega⟩
theorem Z1p{w:tT}{i:Nat}(h:i<w.length):U1 w (i:Int)=some (numG w[i]):=by
 obtain⟨b,hb⟩:=V22 w[i]
 unfold U1
 rw[show decide ((w.length:Int)<=(i:Int))=false by simp;omega,yM,J2H h,bS,M0A,hb]
 rfl
theorem XN(w:tT)(i:Nat):∃n,U1 w (i:Int)=some n/\0<=n/\n<10000000000:=by
 by_cases h:i<w.length
 .exact⟨_,Z1p h,V1C _⟩
 .unfold U1
  rw[show decide ((w.length:Int)<=(i:Int))=true by simp;omega]
  exact⟨0,rfl,by omega,by omega⟩
theorem W10{s:Str}(h:s.length<=2097152):∃r:Job×Bool,Ur s=some r:=by
 unfold Ur
 rw[V0 (by simp;omega),bS]
 obtain⟨r,h1,_⟩:=O0x (s:=[115,117,98,109,105,116,32]++s) (by simp;omega)
 rw[h1,bS]
 cases r.2<;>exact⟨_,rfl⟩
theorem Z1Q(L:tT)(k:Nat):((L.drop k).flatMap nlS).length<=(L.flatMap nlS).length:=by
 have:L.flatMap nlS=(L.take k).flatMap nlS++(L.drop k).flatMap nlS:=by rw[← List.flatMap_append,List.take_append_drop]
 rw[this];simp
theorem Y1D{n:Nat}(hn:n<=1000000){s:State}(h:RdS n s){a:Str}{r:tT}(hl:((a::r).flatMap nlS).length<=2097152):∃y:State,Y9 s (a::r)=some y/\RdS (n+1) y:=by
 have hu:=h.up
 have hsum:=h.sum
 have i0:idx (a::r) 0=some a:=rfl
 have fin:∀(u:tB) (q:tJ) (rs:tR) (es:tE),u.length<=24->q.length+rs.length+es.length<=n+1->∃y:State,L4 s (u,q,rs,es)=some y/\RdS (n+1) y:=λu q rs es h1 h2=>⟨_,rfl,h1,h2⟩
 have hr:=Z1Q (a::r) 1
 have hcl:=U0K (a::r)
 unfold Y9
 rw[i0,bS]
 cases(a==([100,111,119,110]:Str))with
 |true =>
  obtain⟨m,m1,m2,_⟩:=XN (a::r) 1
  rw[yN,show U1 (a::r) 1=some m from m1,bS]
  by_cases hm:m<(s.up.length:Int)
  .obtain⟨u,hu1,_⟩:=L0j (l:=s.up) (i:=m) m2 hm
   rw[decide_eq_true hm,yN,hu1,bS]
   exact fin _ _ _ _ (by simpa using hu) (by omega)
  .rw[decide_eq_false hm,yM]
   exact fin _ _ _ _ hu (by omega)
 |false =>
 rw[yM]
 cases(a==([119,97,105,116]:Str))with
 |true =>
  obtain⟨w,w1,w2⟩:=V1Z (L:=r) (by simp only[List.drop_succ_cons,List.drop_zero]at hr;omega)
  obtain⟨j,hj⟩:=W10 w2
  rw[yN,Y0e,bS,w1,bS,hj,bS,Q0 (by simp;omega),bS]
  exact fin _ _ _ _ hu (by simp;omega)
 |false =>
 rw[yM]
 cases(a==([114,117,110]:Str))with
 |true =>
  obtain⟨t,t1,_⟩:=XN (a::r) 1
  obtain⟨k,k1,k2,k3⟩:=XN (a::r) 2
  rw[yN,show U1 (a::r) 1=some t from t1,bS,show U1 (a::r) 2=some k from k1,bS]
  refine Xw (λ_ (o:Option State)=>∃y,o=some y/\RdS (n+1) y) (λv:Int×tI=>24-v.1.toNat) (λv=>∃i:Nat,v.1=(i:Int)/\i<=24/\v.2.length=i) (λv kk hI hk=>?_) _ _ ⟨0,rfl,by omega,rfl⟩ (by simp only;omega)
  obtain⟨v1,v2⟩:=v
  obtain⟨i,hi,hi2,hi3⟩:=hI
  simp only at hi hi3
  subst hi
  unfold Uh
  dsimp only
  by_cases hc:(i:Int)<k/\(i:Int)<24
  .obtain⟨m,m1,_⟩:=XN (a::r) (3+i)
   rw[decide_eq_true hc.1,decide_eq_true hc.2,Bool.and_self,yN,Y5 (n:=3+(i:Int)) (by omega),show(3:Int)+(i:Int)=((3+i:Nat):Int) by omega,m1,bS,Q0 (by simp;omega),bS,Wn (by omega)]
   exact hk _ ⟨i+1,rfl,by omega,by simp;omega⟩ (by simp only;omega)
  .have:(decide ((i:Int)<k)&&decide ((i:Int)<24))=false:=by simpa using λq=>by omega
   rw[this,yM,Y5 (n:=3+k) (by omega)]
   have fin2:∀x:Run,∃y:State,O7 s x=some y/\RdS (n+1) y:=λx=>by
    unfold O7
    rw[Q0 (by simp;omega),bS]
    exact fin _ _ _ _ hu (by simp;omega)
   by_cases hle:3+k<=((a::r).length:Int)
   .have c2:cutL (a::r) (some (3+k)) none=some ((a::r).drop (3+k.toNat)):=by
     rw[show(3:Int)+k=((3+k.toNat:Nat):Int) by omega]
     have a2:(0:Int)<=((3+k.toNat:Nat):Int)/\((3+k.toNat:Nat):Int)<=((a::r).length:Int):=by omega
     simp only[cutL,bhi,blo,yd a2,List.take_length,yZ]
    obtain⟨w,w1,w2⟩:=V1Z (L:=(a::r).drop (3+k.toNat)) (by have:=Z1Q (a::r) (3+k.toNat);omega)
    obtain⟨j,hj⟩:=W10 w2
    rw[decide_eq_true hle,yN,c2,bS,w1,bS,hj,bS]
    exact fin2 _
   .rw[decide_eq_false hle,yM]
    exact fin2 _
 |false =>
 rw[yM]
 cases(a==([101,110,100]:Str))with
 |true =>
  obtain⟨n1,m1,_⟩:=XN (a::r) 1
  obtain⟨n2,m2,_⟩:=XN (a::r) 2
  obtain⟨n3,m3,_⟩:=XN (a::r) 3
  rw[yN,show U1 (a::r) 1=some n1 from m1,bS,show U1 (a::r) 2=some n2 from m2,bS,show U1 (a::r) 3=some n3 from m3,bS,Q0 (by simp;omega),bS]
  exact fin _ _ _ _ hu (by simp;omega)
 |false=>exact fin _ _ _ _ hu (by omega)
theorem V1v{s:Str}(hs:s.length<=1048576):∃r:State×Bool,Oi s=some r/\(r.2=true->stateOk r.1=true/\Q4 r.1=s)/\(r.2=false->r.1=zS):=by
 have hp:Z3 s 10=some (Y2 10 s):=Yc (c:=10) (by omega)
 unfold Oi
 rw[Zl,hp,bS]
 have hYm:∀l∈Y2 10 s,l.length<=1048576:=λl hl=>by have:=Xh 10 hl;omega
 have hT:=QQ 10 s
 have hA:=λk=>J1y hs k
 have hTk:=Y1b (Y2 10 s)
 generalize hY:Y2 10 s=Y at *
 have bad:∃r:State×Bool,(some (zS,false):Option (State×Bool))=some r/\(r.2=true->stateOk r.1=true/\Q4 r.1=s)/\(r.2=false->r.1=zS):=⟨_,rfl,(λh=>by cases h),λ_=>rfl⟩
 refine Lh (λi (v:State×Str×Bool)=>(v.2.2=false->v.1=zS/\v.2.1=(Y.take i).flatMap nlS)/\(v.2.2=true->RdS 361 v.1)) (λ(o:Option (State×Bool))=>∃r,o=some r/\(r.2=true->stateOk r.1=true/\Q4 r.1=s)/\(r.2=false->r.1=zS)) (λi x v k hx hI hk=>?_) (λv hI=>?_) ⟨λ_=>⟨rfl,by simp⟩,λh=>by cases h⟩
 .obtain⟨st,w,beg⟩:=v
  obtain⟨I1,I2⟩:=hI
  simp only at I1 I2
  obtain⟨hil,hxe⟩:=yB hx
  have hxl:=hYm x (yE hx)
  have hpp:Z3 x 32=some (Y2 32 x):=Yc (c:=32) (by omega)
  have hft:=QQ 32 x
  have hwm:∀w∈Y2 32 x,w.length<=1048576:=λw hw=>by have:=Xh 32 hw;omega
  unfold Z6
  dsimp only
  rw[Zl,hpp,bS]
  obtain⟨a,r,ha⟩:=Qo 32 x
  rw[ha]at hft hwm ⊢
  have i0:idx (a::r) 0=some a:=rfl
  rw[i0,bS]
  cases beg with
  |false =>
   obtain⟨rfl,rfl⟩:=I1 rfl
   simp only[Bool.not_false,Bool.and_true,yN]
   cases(a==([115,116,97,116,101]:Str))with
   |true =>
    obtain⟨t,t1,_,t3⟩:=hA i
    rw[yN,t1,bS]
    obtain⟨t,tb⟩:=t
    cases tb with
    |false=>exact bad
    |true =>
     simp only[yL,Bool.false_or]
     cases h4:(((a::r).length:Int)!=4)with
     |true=>exact bad
     |false =>
      have hl4:r.length=3:=by simp at h4;omega
      have T:=Ma.1 (t3 rfl).1
      have hnl:=T.nodes
      simp only at hnl
      obtain⟨u,b,hu1,_⟩:=Z02 (s:=r[0]) (by have:=hwm r[0] (yH _ (List.getElem_mem (by omega)));omega)
      have g0:idx (a::r) 1=some r[0]:=by
       show idx (a::r) ((1:Nat):Int)=_
       rw[X3,List.getElem?_cons_succ];exact yA (by omega)
      obtain⟨n2,m2,_⟩:=XN (a::r) 2
      obtain⟨n3,m3,_⟩:=XN (a::r) 3
      rw[yM,Q7 (bd:=Uv) (bs:=1) (p:=λ_=>true) (f:=λ_=>true) (λx hx i b k=>rfl) (by simp;omega)]
      unfold Vv
      rw[g0,bS,hu1,bS,show U1 (a::r) 2=some n2 from m2,bS,show U1 (a::r) 3=some n3 from m3,bS]
      refine hk _ ⟨(λh=>by cases h),λ_=>⟨?_,by simp⟩⟩
      rw[List.filter_eq_self.2 λ_ _=>rfl,List.nil_append]
      simp;omega
   |false =>
    have:=hTk i
    rw[yM,V0 (by omega),bS,V0 (by simp only[yU,yT,List.length_nil];omega),bS]
    refine hk _ ⟨λ_=>⟨rfl,?_⟩,λh=>by cases h⟩
    rw[List.take_succ_eq_append_getElem hil,hxe]
    simp[nlS]
  |true =>
   have hR:=I2 rfl
   have hsum:=hR.sum
   simp only[yL,Bool.and_false,yM]
   rw[Y5 (n:=(st.queue.length:Int)+(st.runs.length:Int)) (by omega),Y5 (by omega)]
   by_cases h3:(st.queue.length:Int)+(st.runs.length:Int)+(st.ends.length:Int)<=360
   .rw[decide_eq_true h3,yN]
    obtain⟨y,y1,y2⟩:=Y1D (n:=360) (by omega) ⟨hR.up,by omega⟩ (a:=a) (r:=r) (by omega)
    rw[y1,bS]
    exact hk _ ⟨(λh=>by cases h),λ_=>y2⟩
   .rw[decide_eq_false h3,yM]
    exact hk _ ⟨(λh=>by cases h),λ_=>hR⟩
 .obtain⟨st,w,beg⟩:=v
  obtain⟨I1,I2⟩:=hI
  simp only at I1 I2
  have hsum:st.queue.length+st.runs.length<=1048576:=by
   cases beg with
   |false=>rw[(I1 rfl).1];simp
   |true=>have:=(I2 rfl).sum;omega
  unfold Za
  cases hse:(s==([]:Str))with
  |true=>exact bad
  |false =>
   rw[yM,OR hsum,bS,Bool.false_or]
   cases hst:(Q4 st != s)with
   |true=>exact bad
   |false =>
    have e:Q4 st=s:=by simpa using hst
    have hok:stateOk st=true:=by
     have:=VK (s:=st)
     rw[e,hse]at this
     simpa using this.symm
    exact⟨_,rfl,(λ_=>⟨hok,e⟩),λh=>by cases h⟩
theorem J1e(j:Job):U1p 32 (jobW j)=Zh j:=by
 rw[← WX,W0W]
theorem J1N(j:Job):((jobW j).flatMap nlS).length<=200:=by
 have h:=QQ 32 (Zh j)
 rw[WX]at h
 have:=UB j
 omega
theorem O10{j:Job}(h:Y1 j=true):Ur (Zh j)=some (j,true):=by
 have hl:=UB j
 have hs:Y2 32 ([115,117,98,109,105,116,32]++Zh j)=[115,117,98,109,105,116]::jobW j:=by
  rw[show([115,117,98,109,105,116,32]++Zh j:Str)=[115,117,98,109,105,116]++32::Zh j by simp,Z0U _ (by decide),WX]
 have hp:Z3 ([115,117,98,109,105,116,32]++Zh j) 32=some (Y2 32 ([115,117,98,109,105,116,32]++Zh j)):=Yc (c:=32) (by simp;omega)
 have himpl:Jy ([115,117,98,109,105,116,32]++Zh j)=some (Cmd.mk 1 j 0 (Vec.mk 0 0 0),true):=by
  unfold Jy
  rw[hp,bS,hs,Q1O]
  have hk:O2i [115,117,98,109,105,116] 0 M1V=1:=rfl
  rw[hk]
  unfold U1U
  have e:((1:Int)==1)=true:=rfl
  have e8:((((([115,117,98,109,105,116]:Str)::jobW j).length:Nat):Int)==8)=true:=rfl
  rw[e,e8,Bool.and_self,yN,Y0e,bS,X1E h,bS]
  unfold J5 JJ
  have hok:XU (Cmd.mk 1 j 0 (Vec.mk 0 0 0))=some true:=by
   rw[Q1J]
   unfold Wl
   simp[h]
  have hne:(([115,117,98,109,105,116,32]++Zh j:Str)==[])=false:=rfl
  rw[hne,yM,hok,bS]
  simp only[yL,yM,e,yN,MN,bS]
  rw[Wm _ (by simp[Yt];omega),bS,bS]
  have:((Yt [([115,117,98,109,105,116]:Str),Zh j]) != [115,117,98,109,105,116,32]++Zh j)=false:=by simp[Yt]
  rw[this]
  rfl
 obtain⟨r,r1,r2,_⟩:=O0x (s:=[115,117,98,109,105,116,32]++Zh j) (by simp;omega)
 rw[himpl]at r2
 cases r2
 unfold Ur
 rw[V0 (by simp;omega),bS,r1]
 rfl
theorem Y1p{s:State}{l:Ln}(h:lnOk s l)(hhd:∀v d n,l≠.hd v d n):Y9 s (lnW l)=some (lnGo s l):=by
 unfold Y9
 cases l with
 |hd v d n=>exact absurd rfl (hhd v d n)
 |dn i =>
  obtain⟨h1,h2⟩:=h
  have t:time (i:Int)=true:=Ob.2 (by omega)
  have i0:idx (lnW (.dn i)) 0=some [100,111,119,110]:=rfl
  have n1:U1 (lnW (.dn i)) 1=some (i:Int):=by
   have:=Z1p (w:=lnW (.dn i)) (i:=1) (by simp[lnW])
   rw[show U1 (lnW (.dn i)) 1=_ from this]
   simp only[lnW,List.getElem_cons_succ,List.getElem_cons_zero,Jg t]
  rw[i0,bS,beq_self_eq_true,yN,n1,bS,show decide ((i:Int)<(s.up.length:Int))=true by simp;omega,yN,J2H h1,bS]
  rfl
 |wt j =>
  obtain⟨h1,h2⟩:=h
  have i0:idx (lnW (.wt j)) 0=some [119,97,105,116]:=rfl
  have e1:(([119,97,105,116]:Str)==[100,111,119,110])=false:=rfl
  have hc:cutL (lnW (.wt j)) (some 1) none=some (jobW j):=Y0e _ _
  rw[i0,bS,e1,yM,beq_self_eq_true,yN,hc,bS,W2b (by have:=J1N j;omega),bS,J1e,O10 h1,bS,Q0 (by simp;omega),bS]
  rfl
 |rn x =>
  obtain⟨h1,h2,h3,h4,h5,h6⟩:=h
  have i0:idx (lnW (.rn x)) 0=some [114,117,110]:=rfl
  have e1:(([114,117,110]:Str)==[100,111,119,110])=false:=rfl
  have e2:(([114,117,110]:Str)==[119,97,105,116])=false:=rfl
  have tk:time (x.nodes.length:Int)=true:=Ob.2 (by omega)
  have hlen:(lnW (.rn x)).length=10+x.nodes.length:=by simp[lnW,X1a];omega
  have n1:U1 (lnW (.rn x)) 1=some x.t:=by
   rw[show U1 (lnW (.rn x)) 1=_ from Z1p (w:=lnW (.rn x)) (i:=1) (by omega)]
   simp[lnW,Jg h2]
  have n2:U1 (lnW (.rn x)) 2=some (x.nodes.length:Int):=by
   rw[show U1 (lnW (.rn x)) 2=_ from Z1p (w:=lnW (.rn x)) (i:=2) (by omega)]
   simp[lnW,Jg tk]
  have nn:∀(i:Nat) (hi:i<x.nodes.length),U1 (lnW (.rn x)) ((3+i:Nat):Int)=some x.nodes[i]:=λi hi=>by
   rw[Z1p (w:=lnW (.rn x)) (i:=3+i) (by omega)]
   have:(lnW (.rn x))[3+i]'(by omega)=numText x.nodes[i]:=by
    have hg:(lnW (.rn x))[3+i]?=some (numText x.nodes[i]):=by
     simp only[lnW]
     rw[show 3+i=(2+i)+1 by omega,List.getElem?_cons_succ,yK (by simp;omega),yF,show 2+i=i+1+1 by omega]
     simp[hi]
    exact(yB hg).2
   rw[this,Jg (h5 _ (List.getElem_mem hi))]
  rw[i0,bS,e1,yM,e2,yM,beq_self_eq_true,yN,n1,bS,n2,bS]
  refine Xw (λ_ (o:Option State)=>o=some (lnGo s (.rn x))) (λv:Int×tI=>x.nodes.length-v.1.toNat) (λv=>∃i:Nat,v=((i:Int),x.nodes.take i)/\i<=x.nodes.length) (λv kk hI hk=>?_) _ _ ⟨0,rfl,by omega⟩ (by simp only;omega)
  obtain⟨i,rfl,hi⟩:=hI
  unfold Uh
  dsimp only
  by_cases hc:i<x.nodes.length
  .rw[show decide ((i:Int)<(x.nodes.length:Int))=true by simp;omega,show decide ((i:Int)<24)=true by simp;omega,Bool.and_self,yN,Y5 (n:=3+(i:Int)) (by omega),show(3:Int)+(i:Int)=((3+i:Nat):Int) by omega,nn i hc,bS,Q0 (by simp;omega),bS,Wn (by omega)]
   refine hk _ ⟨i+1,?_,by omega⟩ (by simp only;omega)
   rw[List.take_succ_eq_append_getElem hc]
  .have:i=x.nodes.length:=by omega
   subst this
   rw[show(decide ((x.nodes.length:Int)<(x.nodes.length:Int))&&decide ((x.nodes.length:Int)<24))=false by simp,yM,Y5 (n:=3+(x.nodes.length:Int)) (by omega),hlen,show decide ((3:Int)+(x.nodes.length:Int)<=((10+x.nodes.length:Nat):Int))=true by(rw[yO];omega),yN]
   have c2:cutL (lnW (.rn x)) (some (3+(x.nodes.length:Int))) none=some (jobW x.job):=by
    rw[show(3:Int)+(x.nodes.length:Int)=((3+x.nodes.length:Nat):Int) by omega]
    have a2:(0:Int)<=((3+x.nodes.length:Nat):Int)/\((3+x.nodes.length:Nat):Int)<=((lnW (.rn x)).length:Int):=by rw[hlen];omega
    simp only[cutL,bhi,blo,yd a2,List.take_length,yZ]
    simp only[lnW]
    rw[show 3+x.nodes.length=x.nodes.length+1+1+1 by omega]
    simp
   rw[c2,bS,W2b (by have:=J1N x.job;omega),bS,J1e,O10 h1,bS,List.take_length]
   unfold O7
   rw[Q0 (by simp;omega),bS]
   rfl
 |en e =>
  obtain⟨h1,h2,h3,h4⟩:=h
  have i0:idx (lnW (.en e)) 0=some [101,110,100]:=rfl
  have e1:(([101,110,100]:Str)==[100,111,119,110])=false:=rfl
  have e2:(([101,110,100]:Str)==[119,97,105,116])=false:=rfl
  have e3:(([101,110,100]:Str)==[114,117,110])=false:=rfl
  have n1:U1 (lnW (.en e)) 1=some e.id:=by
   rw[show U1 (lnW (.en e)) 1=_ from Z1p (w:=lnW (.en e)) (i:=1) (by simp[lnW])]
   simp[lnW,Jg h1]
  have n2:U1 (lnW (.en e)) 2=some e.t:=by
   rw[show U1 (lnW (.en e)) 2=_ from Z1p (w:=lnW (.en e)) (i:=2) (by simp[lnW])]
   simp[lnW,Jg h2]
  have n3:U1 (lnW (.en e)) 3=some e.why:=by
   rw[show U1 (lnW (.en e)) 3=_ from Z1p (w:=lnW (.en e)) (i:=3) (by simp[lnW])]
   simp[lnW,Jg h3]
  rw[i0,bS,e1,yM,e2,yM,e3,yM,beq_self_eq_true,yN,n1,bS,n2,bS,n3,bS,Q0 (by simp;omega),bS]
  rfl
 |ov =>
  have i0:idx (lnW .ov) 0=some ovL:=rfl
  rw[i0,bS]
  rfl
theorem Y1y{s1:Str}(R:tT):∀(A:tT) (i:Nat) (st:State) (w:Str),(∀l∈A,l.length<=1000/\∃a r,Y2 32 l=a::r/\(a==([115,116,97,116,101]:Str))=false)->w.length+(A.flatMap nlS).length<=1000000000 ->
  rgl Z6 (Za s1) (A++R) i (st,w,false)=rgl Z6 (Za s1) R (i+A.length) (st,w++A.flatMap nlS,false)
 |[],i,st,w,_,_=>by simp
 |l::A,i,st,w,h,hw=>by
  obtain⟨hl,a,r,ha,he⟩:=h l (yJ ..)
  have hpp:Z3 l 32=some (Y2 32 l):=Yc (c:=32) (by omega)
  have i0:idx (a::r) 0=some a:=rfl
  have hlen:((l::A).flatMap nlS).length=l.length+1+(A.flatMap nlS).length:=by rw[ya,yU];simp only[nlS,yU,List.length_singleton]
  rw[hlen]at hw
  rw[List.cons_append,rgl,Z6]
  dsimp only
  rw[Zl,hpp,bS,ha,i0,bS,he]
  simp only[Bool.false_and,yM,Bool.not_false,yN]
  rw[V0 (by omega),bS,V0 (by simp only[yU,yT,List.length_nil];omega),bS,Y1y R A (i+1) st _ (λx hx=>h x (yH _ hx)) (by simp only[yU,yT,List.length_nil];omega)]
  rw[yT,show i+1+A.length=i+(A.length+1) by omega]
  simp[nlS]
theorem O1L{s1:Str}(R:tT)(w:Str):∀(B:List Ln) (i:Nat) (st:State),Z1d st B->(∀l∈B,(lnS l).length<=1000000/\∀v d n,l≠.hd v d n)->(∀C D,B=C++D->(C.foldl lnGo st).queue.length+(C.foldl lnGo st).runs.length+(C.foldl lnGo st).ends.length<=360) ->
  rgl Z6 (Za s1) (B.map lnS++R) i (st,w,true)=rgl Z6 (Za s1) R (i+B.length) (B.foldl lnGo st,w,true)
 |[],i,st,_,_,_=>by simp
 |l::B,i,st,ho,hl,hc=>by
  obtain⟨h1,h2⟩:=hl l (yJ ..)
  have h0:=hc [] (l::B) rfl
  simp only[List.foldl_nil]at h0
  have hpp:Z3 (lnS l) 32=some (Y2 32 (lnS l)):=Yc (c:=32) (by omega)
  obtain⟨a,r,ha⟩:=Qo 32 (lnS l)
  have i0:idx (a::r) 0=some a:=rfl
  have hr:=Y1p ho.1.1 h2
  rw[← M1d,ha]at hr
  rw[List.map_cons,List.cons_append,rgl,Z6]
  dsimp only
  rw[Zl,hpp,bS,ha,i0,bS]
  simp only[yL,Bool.and_false,yM]
  rw[Y5 (n:=(st.queue.length:Int)+(st.runs.length:Int)) (by omega),Y5 (by omega),show decide ((st.queue.length:Int)+(st.runs.length:Int)+(st.ends.length:Int)<=360)=true by simp;omega,yN,hr,bS]
  rw[O1L R w B (i+1) (lnGo st l) ho.2 (λx hx=>hl x (yH _ hx)) (λC D e=>hc (l::C) D (by rw[e];rfl)),yT,show i+1+B.length=i+(B.length+1) by omega]
  rfl
theorem O2u(l:Ln)(s:State):s.queue.length+s.runs.length+s.ends.length<=(lnGo s l).queue.length+(lnGo s l).runs.length+(lnGo s l).ends.length:=by
 cases l<;>simp[lnGo]<;>omega
theorem Y1P:∀(D:List Ln) (s:State),s.queue.length+s.runs.length+s.ends.length<=(D.foldl lnGo s).queue.length+(D.foldl lnGo s).runs.length+(D.foldl lnGo s).ends.length
 |[],_=>yV _
 |l::D,s=>Nat.le_trans (O2u l s) (Y1P D (lnGo s l))
theorem Y1n{s:State}(h:stateOk s=true):Oi (Q4 s)=some (s,true):=by
 have hP:=Uo h
 have hT:topoOk s.topo=true:=Ma.2 hP.topo
 have hsl:=Q0L s
 have hlines:=V04 h
 have hq:=hP.jobs.1
 have hends:=hP.ends
 have htlen:=VI s.topo
 have htl:=WU hT
 have hp:Z3 (Q4 s) 10=some (Y2 10 (Q4 s)):=Yc (c:=10) (by omega)
 unfold Oi
 rw[Zl,hp,X1b h,bS,List.append_assoc]
 have hmem:∀l∈ZY s.topo,l.length<=1000/\∃a r,Y2 32 l=a::r/\(a==([115,116,97,116,101]:Str))=false:=λl hl=>by
  unfold ZY at hl
  rcases List.mem_append.1 hl with hl|hl
  .obtain⟨x,_,rfl⟩:=yY hl
   exact⟨by have:=J0 x;simp[swL];omega,_,_,X1K x,rfl⟩
  .obtain⟨x,_,rfl⟩:=yY hl
   exact⟨by have:=J0 x.leaf;have:=W7 x.cap;simp[ndL];omega,_,_,M1M x,rfl⟩
 rw[Y1y _ _ _ _ _ hmem (by rw[← htl];simp;omega),← htl,List.nil_append]
 have ok:=Z1X hP
 have hread:=X1w hP.up
 unfold J0c at ok hread ⊢
 generalize hB:((V0E s.up 0).map Ln.dn++(s.queue.map Ln.wt++(s.runs.map Ln.rn++(s.ends.map Ln.en++[Ln.ov]))))=B at ok hread
 have hBm:∀l∈B,∀v d n,l≠.hd v d n:=λl hl v d n e=>by
  subst e
  rw[← hB]at hl
  simp at hl
 have hlen:∀l∈B,(lnS l).length<=1000000:=λl hl=>by
  have:=L0w (L:=ZY s.topo++(J0c s).map lnS) (l:=lnS l) (List.mem_append.2 (.inr (List.mem_map_of_mem (by unfold J0c;rw[hB];exact yH _ hl))))
  rw[← hlines]at this;omega
 rw[List.map_cons,List.cons_append,rgl,Z6]
 dsimp only
 have hv:=W7 s.lic
 have n1:=J0 s.depth
 have n2:=J0 s.now
 have hhl:(lnS (.hd s.lic s.depth s.now)).length<=1000:=by simp[lnS,hdL,QN];omega
 have hpp:Z3 (lnS (.hd s.lic s.depth s.now)) 32=some (Y2 32 (lnS (.hd s.lic s.depth s.now))):=Yc (c:=32) (by omega)
 rw[Zl,hpp,bS,M1d]
 have i0:idx (lnW (.hd s.lic s.depth s.now)) 0=some [115,116,97,116,101]:=rfl
 have i1:idx (lnW (.hd s.lic s.depth s.now)) 1=some (X4 s.lic):=rfl
 obtain⟨t,t1,t2,_⟩:=O0Q (s:=Wb s.topo) (by omega) (λl hl=>by have:=Xh 10 hl;omega)
 rw[Y1K hT]at t2
 cases t2
 obtain⟨⟨⟨o1,o2,o3⟩,_⟩,ok2⟩:=ok
 obtain⟨u,b,hu1,hu2⟩:=Z02 (s:=X4 s.lic) (by omega)
 rw[W0A o1]at hu2
 cases hu2
 have m2:U1 (lnW (.hd s.lic s.depth s.now)) 2=some s.depth:=by
  rw[show U1 (lnW (.hd s.lic s.depth s.now)) 2=_ from Z1p (w:=lnW (.hd s.lic s.depth s.now)) (i:=2) (by simp[lnW])]
  simp[lnW,Jg o2]
 have m3:U1 (lnW (.hd s.lic s.depth s.now)) 3=some s.now:=by
  rw[show U1 (lnW (.hd s.lic s.depth s.now)) 3=_ from Z1p (w:=lnW (.hd s.lic s.depth s.now)) (i:=3) (by simp[lnW])]
  simp[lnW,Jg o3]
 have e4:(((lnW (.hd s.lic s.depth s.now)).length:Int)!=4)=false:=rfl
 have hnn:=hP.topo.nodes
 rw[i0,bS,beq_self_eq_true,Bool.not_false,Bool.and_self,yN,t1,bS,e4]
 simp only[yL,Bool.or_self,yM]
 rw[Q7 (bd:=Uv) (bs:=1) (p:=λ_=>true) (f:=λ_=>true) (λx hx i b k=>rfl) (by simp;omega)]
 unfold Vv
 rw[i1,bS,hu1,bS,m2,bS,m3,bS,List.filter_eq_self.2 λ_ _=>rfl,List.nil_append,List.map_const']
 have hst:State.mk s.topo (List.replicate s.topo.nodes.length true) s.lic s.depth s.now [] [] []=lnGo (st0 s.topo) (.hd s.lic s.depth s.now):=rfl
 dsimp only
 rw[hst]
 rw[O1L _ _ B _ _ ok2 (λl hl=>⟨hlen l hl,hBm l hl⟩) (λC D e=>by
  have hg:=Y1P D (C.foldl lnGo (lnGo (st0 s.topo) (.hd s.lic s.depth s.now)))
  rw[← List.foldl_append,← e]at hg
  rw[List.foldl_cons]at hread
  rw[hread]at hg
  omega)]
 rw[List.foldl_cons]at hread
 rw[hread]
 rw[rgl,Z6]
 dsimp only
 have hp0:Z3 [] 32=some [[]]:=Yc (s:=[]) (c:=32) (by simp)
 have j0:idx [([]:Str)] 0=some []:=rfl
 rw[Zl,hp0,bS,j0,bS]
 simp only[yL,Bool.and_false,yM]
 rw[Y5 (n:=(s.queue.length:Int)+(s.runs.length:Int)) (by omega),Y5 (by omega),show decide ((s.queue.length:Int)+(s.runs.length:Int)+(s.ends.length:Int)<=360)=true by simp;omega,yN]
 have hl0:Y9 s [[]]=some s:=rfl
 rw[hl0,bS,rgl]
 unfold Za
 have hne:(Q4 s==([]:Str))=false:=by rw[VK,h];rfl
 dsimp only
 rw[hne,yM,OR (s:=s) (by omega),bS,bne_self_eq_false,Bool.or_self,yM]
theorem Q1v{s:Str}(hs:s.length<=1048576):∃r:State×Bool,Oi s=some r/\Vj s=some r/\(r.2=true->stateOk r.1=true/\Q4 r.1=s)/\(r.2=false->r.1=zS):=by
 obtain⟨a,a1,a2,a3⟩:=V1v hs
 obtain⟨b,b1,b2,b3⟩:=U1v hs
 obtain⟨sa,ab⟩:=a
 obtain⟨sb,bb⟩:=b
 cases ab with
 |true =>
  obtain⟨o,e⟩:=a2 rfl
  have:=Q26 o
  simp only at e
  rw[e]at this
  exact⟨_,a1,this,a2,a3⟩
 |false =>
  cases bb with
  |true =>
   obtain⟨o,e⟩:=b2 rfl
   have:=Y1n o
   simp only at e
   rw[e]at this
   exact⟨_,this,b1,b2,b3⟩
  |false =>
   have e1:=a3 rfl
   have e2:=b3 rfl
   simp only at e1 e2
   subst e1;subst e2
   exact⟨_,a1,b1,(λh=>by cases h),λ_=>rfl⟩
abbrev zJ:Journal:=Journal.mk [] 0 0
abbrev zP:Pack:=Pack.mk [] zJ
theorem W1v{p:Pack}(hs:p.snap.length<=1048576)(hB:By p.journal.bytes)(hb:p.journal.bytes.length<=1048576):∃r:State×Bool,OD p=some r/\JE p=some r/\SmallS r.1:=by
 unfold OD JE
 obtain⟨t,t1,t2,t3,t4⟩:=Q1v hs
 rw[t1,t2,bS,bS]
 obtain⟨t,tb⟩:=t
 cases tb with
 |false=>exact⟨(zS,false),rfl,rfl,J01⟩
 |true =>
  obtain⟨o,_⟩:=t3 rfl
  have hsm:=(Uo o).small
  simp only at hsm
  obtain⟨b,b1,b2⟩:=O1v hB hb
  simp only[yL,yM,b1,b2,bS,Bool.false_or]
  cases b with
  |false=>exact⟨(zS,false),rfl,rfl,J01⟩
  |true =>
   obtain⟨q,q1,q2,_,_,q5⟩:=L1L hB hb
   obtain⟨r,r1,r2,r3,r4⟩:=M1c q.1 0 t hsm q5
   unfold Xs Xo
   simp only[yL,yM,q1,q2,bS,r1,r2]
   obtain⟨rs,rb⟩:=r
   cases rb with
   |false =>
    have e:=r4 rfl
    simp only at e
    subst e
    exact⟨(zS,false),rfl,rfl,J01⟩
   |true=>exact⟨(rs,true),rfl,rfl,r3⟩
def Z2I(a1:Vec):Option Vec :=
 some a1
theorem L2L{a1 r:Vec}(H:Z2I a1=some r):SQ O2J [eVec a1] (eVec r):=by
 exact wa [.c 2 3 true] (sI H▸wQ [(2,[])] [])
def W2H(a1:Vec):Vec :=
 a1
theorem L2M(a1:Vec):Z2I a1=some (W2H a1):=by
 unfold Z2I W2H
 first|rfl|simp only[U4]
theorem L2I(a1:Vec):Snd Tryz.prog O2J [eVec a1] (eVec (W2H a1)) []:=L2L (L2M a1)
def Y2I(a1:Job):Option Job :=
 some (Job.mk a1.id a1.prio a1.nodes (W2H a1.need) (W2H a1.lic) a1.wall a1.level)
theorem J2L{a1 r:Job}(H:Y2I a1=some r):SQ M2J [eJob a1] (eJob r):=by
 exact wa [.c 2 11 true] (wH [.c 15 (L2I a1.need),.c 19 (L2I a1.lic)] (sI H▸wM [(2,[])] []))
def L2G(a1:Job):Job :=
 (Job.mk a1.id a1.prio a1.nodes (W2H a1.need) (W2H a1.lic) a1.wall a1.level)
theorem J2M(a1:Job):Y2I a1=some (L2G a1):=by
 unfold Y2I L2G
 first|rfl|simp only[U4]
theorem X2M(a1:Job):Snd Tryz.prog M2J [eJob a1] (eJob (L2G a1)) []:=J2L (J2M a1)
def WZ(a1:tI)(v4:Int×tI)(k4:(Int×tI)->Option tI):Option tI :=
 bif decide (v4.1<(a1.length:Int))then((idx a1 v4.1).bind λe6=>(idx v4.2 v4.1).bind λ_=>k4 ((w64 (v4.1+1)),(v4.2.set v4.1.toNat e6)))else(some v4.2)
def UX(a1:tI):Option tI :=
 (mkL 1 (a1.length:Int) 0).bind λxs2=>whl (WZ a1) 9223372036854775807 (0,xs2)
theorem Z1e{a1:tI}{r:tI}(H:UX a1=some r):SP L0G [zrc a1] (.sref 0) [zwc r]:=by
 refine wa [.t 2] (bC H λxs2 h2 H=>wG [.l 6 a1 eB,.u 7 (.ms _ _ _ _ λ_=>O2a eB h2)] λq3=>wW (λ(v4:Int×tI)=>⟨[(0,zrc a1),(3,.sref 7),(4,iV v4.1)],[],[],[(7,zwc v4.2)]⟩) H (λv4 I m k4 H N13=>?_))
 refine wG [.l 10 a1 eB] λq5=>X0 H (λH=>?_) λH=>sI H▸wY [] [(7,some 7,0)] [] [some 7] [znc v4.2]
 exact bC2 H λe6 h6 e7 h7 H=>wH [.x 18 eB h6,.x 20 eB h7,.u 1000000 (.sto _ _ _ (eB e6) _ (λ_=>gm eB (V4 h7)) (λ_=>YS ..))] (wT (N13 _ H))
def OZ(a1 b2:tI)(v4:Int)(k4:Int->Option Bool):Option Bool :=
 bif decide (v4<(a1.length:Int))then((idx a1 v4).bind λe6=>(idx b2 v4).bind λe7=>bif e6 != e7 then(some false)else(k4 (w64 (v4+1))))else(some true)
def QX(a1 b2:tI):Option Bool :=
 bif (a1.length:Int)!=(b2.length:Int)then(some false)else(whl (OZ a1 b2) 9223372036854775807 0)
theorem X1e{a1 b2:tI}{r:Bool}(H:QX a1 b2=some r):SQ J0G [zrc a1,zrc b2] (.bool r):=by
 refine wc [(6,9)] [.t 4] (wG [.l 7 a1 eB,.l 9 b2 eB] λq3=>X0 H (λH=>sI H▸wV) λH=>wP (wW (λ(v4:Int)=>⟨[(0,zrc a1),(1,zrc b2),(5,iV v4)],[],[],[]⟩) H (λv4 I m k4 H N25=>?_)))
 refine wG [.l 13 a1 eB] λq5=>X0 H (λH=>?_) λH=>sI H▸wV
 exact bC2 H λe6 h6 e7 h7 H=>wH [.x 19 eB h6,.x 23 eB h7] (X0 H (λH=>sI H▸wV) λH=>wP (wT (N25 _ H)))
def UN(a1:tI)(v3:Int×Int)(k3:(Int×Int)->Option Int):Option Int :=
 bif decide (v3.2<(a1.length:Int))then((idx a1 v3.2).bind λe5=>bif e5 != (IntKind.wrap .u8 v3.1)then(some (-1))else(k3 ((w64 (v3.1+1)),(w64 (v3.2+1)))))else(some v3.1)
def ZE(a1:tI)(k2:Int):Option Int :=
 whl (UN a1) 9223372036854775807 (k2,0)
theorem V0W{a1:tI}{k2 r:Int}(H:ZE a1 k2=some r):SQ J0o [zrc a1,iV k2] (iV r):=by
 refine wa [.t 4] (wP (wW (λ(v3:Int×Int)=>⟨[(0,zrc a1),(1,iV v3.1),(5,iV v3.2)],[],[],[]⟩) H (λv3 I m k3 H N20=>?_)))
 refine wG [.l 8 a1 eB] λq4=>X0 H (λH=>?_) λH=>sI H▸wV
 exact bC H λe5 h5 H=>wH [.x 14 eB h5] (X0 H (λH=>sI H▸wV) λH=>wP (wT (N20 _ H)))
def ZW(a1:Journal):Option Journal :=
 (UX a1.bytes).bind λy2=>some (Journal.mk y2 a1.synced a1.count)
theorem Z0W{a1 r:Journal}(H:ZW a1=some r):SP L0o [MP .rd a1] (.agg [.sref 0,iV r.synced,iV r.count]) [zwc r.bytes]:=by
 exact wd [(6,1)] [.c 2 3 true] (bC H λy2 h2 H=>wH [.c 6 (Z1e h2)] (sI H▸wO [(2,[])] [(7000,some 7000,0)] [] [some 7000] [znc y2]))
def YW(a1:tI)(left2:Int):Option Int :=
 bif decide ((w64 (left2-(a1.length:Int)))<0)then(some (-1))else(some (w64 (left2-(a1.length:Int))))
theorem X0W{a1:tI}{left2 r:Int}(H:YW a1 left2=some r):SQ M0e [zrc a1,iV left2] (iV r):=by
 exact wa [.t 4] (wG [.l 7 a1 eB] λq3=>X0 H (λH=>sI H▸wV) λH=>sI H▸wV)
def Mr(a1:tI)(left2:Int):Int :=
 bif decide ((w64 (left2-(a1.length:Int)))<0)then((-1))else((w64 (left2-(a1.length:Int))))
theorem V1p(a1:tI)(left2:Int):YW a1 left2=some (Mr a1 left2):=by
 unfold YW Mr
 first|rfl|simp only[U4]
theorem Y1e(a1:tI)(left2:Int):Snd Tryz.prog M0e [rV 1 (a1.map eB),iV left2] (iV (Mr a1 left2)) []:=X0W (V1p a1 left2)
def WG(a1:Journal)(left2:Int):Option Int :=
 bif decide ((Mr a1.bytes left2)<0)then(some (-1))else(some (Mr a1.bytes left2))
theorem Z0J{a1:Journal}{left2 r:Int}(H:WG a1 left2=some r):SQ U01 [MP .rd a1,iV left2] (iV r):=by
 exact wa [.t 4] (wH [.c 8 (Y1e a1.bytes left2)] (X0 H (λH=>sI H▸wV) λH=>sI H▸wV))
def Xj(a1:Journal)(left2:Int):Int :=
 bif decide ((Mr a1.bytes left2)<0)then((-1))else((Mr a1.bytes left2))
theorem L14(a1:Journal)(left2:Int):WG a1 left2=some (Xj a1 left2):=by
 unfold WG Xj
 first|rfl|simp only[U4]
theorem Y0W(a1:Journal)(left2:Int):Snd Tryz.prog U01 [MP .rd a1,iV left2] (iV (Xj a1 left2)) []:=Z0J (L14 a1 left2)
def VW(a1 b2:Journal):Option Bool :=
 (QX a1.bytes b2.bytes).bind λb3=>bif !b3 then(some false)else(bif a1.synced != b2.synced then(some false)else(bif a1.count != b2.count then(some false)else(some true)))
theorem U0W{a1 b2:Journal}{r:Bool}(H:VW a1 b2=some r):SQ Z0p [MP .rd a1,MP .rd b2] (.bool r):=by
 exact wa [.t 4] (bC H λb3 h3 H=>wH [.c 9 (X1e h3)] (X0 H (λH=>sI H▸wV) λH=>wP (X0 H (λH=>sI H▸wV) λH=>wP (X0 H (λH=>sI H▸wV) λH=>sI H▸wV))))
def OG(a1:Journal)(k2:Int):Option Int :=
 (ZE a1.bytes k2).bind λn3=>bif decide (n3<0)then(some (-1))else(some n3)
theorem X0J{a1:Journal}{k2 r:Int}(H:OG a1 k2=some r):SQ L0b [MP .rd a1,iV k2] (iV r):=by
 exact wa [.t 4] (bC H λn3 h3 H=>wH [.c 8 (V0W h3)] (X0 H (λH=>sI H▸wV) λH=>sI H▸wV))
def X2I(a1:Cmd):Option Cmd :=
 some (Cmd.mk a1.kind (Job.mk ((L2G a1.job).id) ((L2G a1.job).prio) ((L2G a1.job).nodes) ((L2G a1.job).need) ((L2G a1.job).lic) ((L2G a1.job).wall) ((L2G a1.job).level)) a1.n (W2H a1.lic))
theorem Z2M{a1 r:Cmd}(H:X2I a1=some r):SQ L2J [eCmd a1] (eCmd r):=by
 exact wa [.c 2 16 true] (wH [.c 9 (X2M a1.job),.c 16 (L2I a1.lic)] (sI H▸wM [(2,[])] []))
def Or(a1:Cmd):Cmd :=
 (Cmd.mk a1.kind (Job.mk ((L2G a1.job).id) ((L2G a1.job).prio) ((L2G a1.job).nodes) ((L2G a1.job).need) ((L2G a1.job).lic) ((L2G a1.job).wall) ((L2G a1.job).level)) a1.n (W2H a1.lic))
theorem Z2N(a1:Cmd):X2I a1=some (Or a1):=by
 unfold X2I Or
 first|rfl|simp only[U4]
theorem J2I(a1:Cmd):Snd Tryz.prog L2J [eCmd a1] (eCmd (Or a1)) []:=Z2M (Z2N a1)
def Zy(a1 b2:Pack):Option Bool :=
 bif a1.snap != b2.snap then(some false)else((VW a1.journal b2.journal).bind λb3=>bif !b3 then(some false)else(some true))
theorem XW{a1 b2:Pack}{r:Bool}(H:Zy a1 b2=some r):SQ V0S [Z09 .rd a1,Z09 .rd b2] (.bool r):=by
 exact wa [.t 4] (wP (X0 H (λH=>sI H▸wV) λH=>bC H λb3 h3 H=>wH [.c 14 (U0W h3)] (X0 H (λH=>sI H▸wV) λH=>sI H▸wV)))
def Js(a1:Pack)(k2:Int):Option Int :=
 (OG a1.journal k2).bind λn3=>bif decide (n3<0)then(some (-1))else(some n3)
theorem X0n{a1:Pack}{k2 r:Int}(H:Js a1 k2=some r):SQ Y0z [Z09 .rd a1,iV k2] (iV r):=by
 exact wa [.t 4] (bC H λn3 h3 H=>wH [.c 8 (X0J h3)] (X0 H (λH=>sI H▸wV) λH=>sI H▸wV))
def Jx(a1:Pack):Option Pack :=
 (ZW a1.journal).bind λy2=>some (Pack.mk a1.snap y2)
theorem JV{a1 r:Pack}(H:Jx a1=some r):SP X0S [Z09 .rd a1] (.agg [.str r.snap,.sref 0,iV r.journal.synced,iV r.journal.count]) [zwc r.journal.bytes]:=by
 exact wd [(9,1)] [.c 2 4 true] (bC H λy2 h2 H=>wH [.c 9 (Z0W h2)] (sI H▸wO [(2,[])] [(10000,some 10000,0)] [] [some 10000] [znc y2.bytes]))
def L02(a1:Pack)(left2:Int):Option Int :=
 bif decide ((w64 (left2-(a1.snap.length:Int)))<0)then(some (-1))else(bif decide ((Xj a1.journal (w64 (left2-(a1.snap.length:Int))))<0)then(some (-1))else(some (Xj a1.journal (w64 (left2-(a1.snap.length:Int))))))
theorem M14{a1:Pack}{left2 r:Int}(H:L02 a1 left2=some r):SQ Y0l [Z09 .rd a1,iV left2] (iV r):=by
 exact wa [.t 4] (wP (X0 H (λH=>sI H▸wV) λH=>wH [.u 15 (.call _ _ _ _ _ (AEs.refl _) (λ_=>Y0W a1.journal (w64 (left2-(a1.snap.length:Int)))))] (X0 H (λH=>sI H▸wV) λH=>sI H▸wV)))
def WH(a1:Pack)(left2:Int):Int :=
 bif decide ((w64 (left2-(a1.snap.length:Int)))<0)then((-1))else(bif decide ((Xj a1.journal (w64 (left2-(a1.snap.length:Int))))<0)then((-1))else((Xj a1.journal (w64 (left2-(a1.snap.length:Int))))))
theorem O1D(a1:Pack)(left2:Int):L02 a1 left2=some (WH a1 left2):=by
 unfold L02 WH
 first|rfl|simp only[U4]
theorem X1p(a1:Pack)(left2:Int):Snd Tryz.prog Y0l [Z09 .rd a1,iV left2] (iV (WH a1 left2)) []:=M14 (O1D a1 left2)
noncomputable def M0J:L :=
 lf Tryz.prog VH [] [] [] [] [] [] []
def M0I:List Rv:=[.t 4]
theorem M0K:YQ Tryz.prog VH 2 M0J M0I=true:=by kernel_rfl
def LC(v3:Int×Int×tI)(k3:(Int×Int×tI)->Option (Int×tI)):Option (Int×tI) :=
 bif decide (v3.2.1<(v3.2.2.length:Int))then((idx v3.2.2 v3.2.1).bind λ_=>k3 ((w64 (v3.1+1)),(w64 (v3.2.1+1)),(v3.2.2.set v3.2.1.toNat (IntKind.wrap .u8 v3.1))))else(some (v3.1,v3.2.2))
def Jt(a1:tI)(k2:Int):Option (Int×tI) :=
 whl LC 9223372036854775807 (k2,0,a1)
set_option maxRecDepth 20000 in
theorem Y0J{a1:tI}{k2:Int}{r:Int×tI}(H:Jt a1 k2=some r):ConD Tryz.prog VH [.sref 0,iV k2] [] [(1,a1.map eB)] (iV r.1) [] [some (r.2.map eB)] []:=by
 refine M0C [true] M0K rfl (by kernel_rfl) ?_
 unfold Jt at H
 refine wP ?_
 refine wW (λ(v3:Int×Int×tI)=>⟨[(0,.sref 1000000000),(1,iV v3.1),(5,iV v3.2.1)],[],[],[(1000000000,zwc v3.2.2)]⟩) H (λv3 I m k3 H N14=>?_)
 unfold LC at H
 refine wG [.l 8 v3.2.2 eB] λq4=>?_
 refine X0 H ?_ ?_<;>intro H
 .obtain⟨e5,h5,H⟩:=bB H
  exact wH [.x 16 eB h5,.u 1000000 (.sto _ _ _ (eB (IntKind.wrap .u8 v3.1)) _ (λ_=>gm eB (V4 h5)) (λ_=>YS ..))] (wT (N14 _ H))
 .refine wP ?_
  replace H:=sI H;subst H
  exact Jk [(4,.d)] [] [(1000000000,some 1000000000,0)] [] [] (by kernel_rfl)
noncomputable def U0v:L :=
 lf Tryz.prog Mv [] [(8,2)] [] [] [] [] []
def X0u:List Rv:=[.t 4]
theorem U0x:YQ Tryz.prog Mv 2 U0v X0u=true:=by kernel_rfl
def Qv(a1:Journal)(k2:Int):Option (Int×tI) :=
 (Jt a1.bytes k2).bind λy3=>some (y3.1,y3.2)
set_option maxRecDepth 20000 in
theorem Y0v{a1:Journal}{k2:Int}{r:Int×tI}(H:Qv a1 k2=some r):ConD Tryz.prog Mv [.agg [.sref 0,iV a1.synced,iV a1.count],iV k2] [] [(1,a1.bytes.map eB)] (iV r.1) [] [some (r.2.map eB)] []:=by
 refine M0C [true] U0x rfl (by kernel_rfl) ?_
 unfold Qv at H
 obtain⟨y3,h3,H⟩:=bB H
 refine wH [.u 8 (.cw VH [] [1000000000] [] [(1,a1.bytes.map eB)] [.sref 0,iV k2] _ _ _ _ _ (GEs.of [true,false] (by simp)) (by simp) (by simp) (by simp) (λ_=>Y0J h3))] ?_
 replace H:=sI H;subst H
 exact Jk [(4,.d)] [] [(1000000000,some 1000000000,0)] [] [] (by kernel_rfl)
noncomputable def Z0O:L :=
 lf Tryz.prog Uz [] [(8,2)] [] [] [] [] []
def W0M:List Rv:=[.t 4]
theorem V0Q:YQ Tryz.prog Uz 2 Z0O W0M=true:=by kernel_rfl
def Wp(a1:Pack)(k2:Int):Option (Int×tI) :=
 (Qv a1.journal k2).bind λy3=>some (y3.1,y3.2)
set_option maxRecDepth 20000 in
theorem Q0a{a1:Pack}{k2:Int}{r:Int×tI}(H:Wp a1 k2=some r):ConD Tryz.prog Uz [.agg [.str a1.snap,.sref 0,iV a1.journal.synced,iV a1.journal.count],iV k2] [] [(1,a1.journal.bytes.map eB)] (iV r.1) [] [some (r.2.map eB)] []:=by
 refine M0C [true] V0Q rfl (by kernel_rfl) ?_
 unfold Wp at H
 obtain⟨y3,h3,H⟩:=bB H
 refine wH [.u 8 (.cw Mv [] [1000000000] [] [(1,a1.journal.bytes.map eB)] [.agg [.sref 0,iV a1.journal.synced,iV a1.journal.count],iV k2] _ _ _ _ _ (GEs.of [true,false] (by simp)) (by simp) (by simp) (by simp) (λ_=>Y0v h3))] ?_
 replace H:=sI H;subst H
 exact Jk [(4,.d)] [] [(1000000000,some 1000000000,0)] [] [] (by kernel_rfl)
noncomputable def Y2J:L :=
 lf Tryz.prog J2G [] [(30,1),(35,1),(54,2),(70,2)] [] [] [(10,5)] [(5,[],[8],[0,2,4,6,8,10,12,14],9),(7,[],[7],[2,4,1,7,9,12,11],8),(24,[],[8],[0,2,4,6,8,10,12,14],9)] []
def Z2H(aP1:Pack)(aC2:Cmd):Option Bool :=
 bif decide ((WH aP1 1048576)<0)then(some true)else((Jx aP1).bind λy3=>(L2H y3 (Cmd.mk ((Or aC2).kind) (Job.mk (((Or aC2).job).id) (((Or aC2).job).prio) (((Or aC2).job).nodes) (((Or aC2).job).need) (((Or aC2).job).lic) (((Or aC2).job).wall) (((Or aC2).job).level)) ((Or aC2).n) ((Or aC2).lic))).bind λy4=>(Jx aP1).bind λy5=>(O2H y5 (Cmd.mk ((Or aC2).kind) (Job.mk (((Or aC2).job).id) (((Or aC2).job).prio) (((Or aC2).job).nodes) (((Or aC2).job).need) (((Or aC2).job).lic) (((Or aC2).job).wall) (((Or aC2).job).level)) ((Or aC2).n) ((Or aC2).lic))).bind λy6=>(Zy y6.1 y4.1).bind λb7=>bif (!b7)||(y6.2 != y4.2)then(some false)else((Jx aP1).bind λy8=>(Zy y5 y8).bind λb9=>bif !b9 then(some false)else((Wp y5 1).bind λy10=>(bif decide (y10.1<0)then some default else(Zy y6.1 y4.1)).bind λb11=>bif (decide (y10.1<0)||(!b11))||(y6.2 != y4.2)then(some false)else((Wp y6.1 1).bind λy12=>(Js (Pack.mk y6.1.snap (Journal.mk y12.2 y6.1.journal.synced y6.1.journal.count)) 1).bind λn13=>bif decide (n13<0)then(some false)else(bif n13 != y12.1 then(some false)else((Jx aP1).bind λy14=>(O2H y14 (Cmd.mk ((Or aC2).kind) (Job.mk (((Or aC2).job).id) (((Or aC2).job).prio) (((Or aC2).job).nodes) (((Or aC2).job).need) (((Or aC2).job).lic) (((Or aC2).job).wall) (((Or aC2).job).level)) ((Or aC2).n) ((Or aC2).lic))).bind λy15=>(Zy y15.1 y4.1).bind λb16=>bif (!b16)||(y15.2 != y4.2)then(some false)else((Js (Pack.mk y6.1.snap (Journal.mk y12.2 y6.1.journal.synced y6.1.journal.count)) 1).bind λn17=>bif decide (n17<0)then(some false)else(bif n17 != y12.1 then(some false)else(some true)))))))))
theorem Z2J{aP1:Pack}{aC2:Cmd}{r:Bool}(H:Z2H aP1 aC2=some r):SQ J2G [Z09 .rd aP1,eCmd aC2] (.bool r):=by
 refine wS Y2J [.t 4] ?_
 refine wH [.c 18 (X1p aP1 1048576)] ?_
 refine X0 H (λH=>sI H▸wV) λH=>?_
 obtain⟨y3,h3,y4,h4,y5,h5,H⟩:=bB3 H
 obtain⟨y6,h6,b7,h7,H⟩:=bB2 H
 refine wH [.c 23 (JV h3),.c 25 (J2I aC2),.c 26 (Q2L h4),.c 30 (JV h5),.c 34 (J2I aC2),.c 35 (X2J h6),.c 40 (XW h7)] ?_
 refine X0 H (λH=>sI H▸wV) λH=>?_
 obtain⟨y8,h8,b9,h9,H⟩:=bB2 H
 refine wH [.c 49 (JV h8),.c 50 (XW h9)] ?_
 refine X0 H (λH=>sI H▸wV) λH=>?_
 obtain⟨y10,h10,b11,h11,H⟩:=bB2 H
 refine wH [.u 54 (.cw Uz [] [31000] [] [(1,y5.journal.bytes.map eB)] [.agg [.str y5.snap,.sref 0,iV y5.journal.synced,iV y5.journal.count],iV 1] _ _ _ _ _ (GEs.of [true,false] (by simp)) (by simp) (by simp) (by simp) (λ_=>Q0a h10)),.d 60 [(_,false)] λq=>XW (bF q.1 h11)] ?_
 refine X0 H (λH=>sI H▸wV) λH=>?_
 obtain⟨y12,h12,n13,h13,H⟩:=bB2 H
 refine wH [.u 70 (.cw Uz [] [36000] [] [(1,y6.1.journal.bytes.map eB)] [.agg [.str y6.1.snap,.sref 0,iV y6.1.journal.synced,iV y6.1.journal.count],iV 1] _ _ _ _ _ (GEs.of [true,false] (by simp)) (by simp) (by simp) (by simp) (λ_=>Q0a h12)),.c 73 (X0n h13)] ?_
 refine X0 H (λH=>sI H▸wV) λH=>?_
 refine wP ?_
 refine X0 H (λH=>sI H▸wV) λH=>?_
 obtain⟨y14,h14,y15,h15,b16,h16,H⟩:=bB3 H
 refine wH [.c 81 (JV h14),.c 83 (J2I aC2),.c 84 (X2J h15),.c 89 (XW h16)] ?_
 refine X0 H (λH=>sI H▸wV) λH=>?_
 obtain⟨n17,h17,H⟩:=bB H
 refine wH [.c 98 (X0n h17)] ?_
 refine X0 H (λH=>sI H▸wV) λH=>?_
 refine wP ?_
 refine X0 H (λH=>sI H▸wV) λH=>?_
 exact sI H▸wV
end Go.Proofs.YtehomnafaoplgaaGreat
namespace Go.Proofs.YtehomnafaoplgaaGreat.Eng
open Go Go.RowKit
section
def CE(a b:AV):Prop:=AE a b/\(a.one=true->b.one=true)
def CEs(l m:List AV):Prop:=l.length=m.length/\∀(i:Nat) (a b:AV),l[i]?=some a->m[i]?=some b->CE a b
theorem CE.refl(a:AV):CE a a:=⟨AE.refl a,id⟩
theorem CEs.refl(l:List AV):CEs l l:=⟨rfl,λi a b h h'=>by rw[h]at h';cases h';exact .refl a⟩
theorem CEs.one{a b:AV}(h:CE a b):CEs [a] [b]:=⟨rfl,λi x y hx hy=>by
 cases i with
 |zero=>simp at hx hy;subst hx;subst hy;exact h
 |succ i=>simp at hx⟩
theorem CEs.append{l1 l2 m1 m2:List AV}(h1:CEs l1 m1)(h2:CEs l2 m2):CEs (l1++l2) (m1++m2):=by
 refine⟨by rw[yU,yU,h1.1,h2.1],λi a b ha hb=>?_⟩
 by_cases hi:i<l1.length
 .rw[yK hi]at ha
  rw[yK (by rw[← h1.1];exact hi)]at hb
  exact h1.2 i a b ha hb
 .rw[yS (by omega)]at ha
  rw[yS (by rw[← h1.1];omega),← h1.1]at hb
  exact h2.2 _ a b ha hb
theorem CEs.flat{α:Type}{E:α->AV}:∀{es:List AV} {ys:List α},es.length=ys.length->(∀(i:Nat) (x:AV) (y:α),es[i]?=some x->ys[i]?=some y->CEs x.cells (E y).cells)->CEs (Eng.flat es) (Eng.flat (ys.map E))
 |[],[],_,_=>CEs.refl []
 |x::es,y::ys,hl,h=>by
  have h0:=h 0 x y rfl rfl
  have h1:=CEs.flat (es:=es) (ys:=ys) (by simpa using hl) λi x y hx hy=>h (i+1) x y (by simpa using hx) (by simpa using hy)
  simpa[Eng.flat]using h0.append h1
 |[],_::_,hl,_=>by simp at hl
 |_::_,[],hl,_=>by simp at hl
theorem AE.agg{cs ds:List AV}(h:CEs cs ds):AE (.agg cs) (.agg ds):=by
 intro w S v hr
 cases hr with
 |agg _ vs hl h1 h2 =>
  refine .agg ds vs (by rw[← h.1,hl]) (λb hb=>?_) λi b u hb hu=>?_
  .obtain⟨i,hi⟩:=List.getElem?_of_mem hb
   have hlt:i<cs.length:=by rw[h.1];grind
   exact(h.2 i cs[i] b (by simp) hi).2 (by grind)
  .have hlt:i<cs.length:=by rw[h.1];grind
   exact(h.2 i cs[i] b (by simp) hb).1 w S u (by grind)
theorem AE.nl{sz:Nat}:AE .nl (.sl .rd sz []):=by
 intro w S v hr
 cases hr
 exact .sl0 _ _ _ _ λ_ _=>trivial
theorem AE.sl{g:Tag}{sz:Nat}{es ds:List AV}(hl:es.length=ds.length)(hs:∀e∈ds,e.cells.length=sz)(h:CEs (Eng.flat es) (Eng.flat ds)):AE (.sl g sz es) (.sl g sz ds):=by
 intro w S v hr
 cases hr with
 |sl0 _ _ a c ho =>
  cases ds with
  |nil=>exact .sl0 _ _ _ _ ho
  |cons _ _=>simp at hl
 |sl _ _ _ b o c cv hc hm _ hw ho h2 =>
  rw[hl]
  have hx:∀(j:Nat) (d:AV),(Eng.flat ds)[j]?=some d->∃e,(Eng.flat es)[j]?=some e/\CE e d:=λj d hj=>by
   have hlt:j<(Eng.flat es).length:=by rw[h.1];grind
   exact⟨_,yA hlt,h.2 j _ d (by simp) hj⟩
  refine .sl g sz ds b o c cv (by rw[← hl];exact hc) hm hs (λj d hj=>?_) ho λj d hj=>?_
  .obtain⟨e,he,hce⟩:=hx j d hj
   obtain⟨q1,q2,q3,_⟩:=hw j e he
   exact⟨q1,q2,hce.2 q3,trivial⟩
  .obtain⟨e,he,hce⟩:=hx j d hj
   exact hce.1 w S _ (h2 j e he)
theorem Snd.wkS{P:Program}{f:FuncId}{xs1 xs2:List AV}{res:AV}{rows:List Row}(h:Snd P f xs2 res rows)(hae:AEs xs1 xs2):Snd P f xs1 res rows:=by
 intro w S N vs hS hl hr
 have hal:=hae.1
 refine h w S TT vs hS (by omega) λi b v hb hv=>?_
 have hi:i<xs1.length:=by have:=(yB hb).1;omega
 exact hae.2 w S i _ b v (by simp) hb ((hr i _ v (yA hi) hv).mono (λ_ _ h=>h) ⟨λ_ _ _ _ _ _ _ _=>trivial,λ_ _ _ _=>trivial⟩ λ_ _ _=>rfl)
def Z0f{α:Type}(τ:Ty)(e:α->List AV)(W:α->Prop):Prop:=∀l,τ.ok l->∃y,CEs l (e y)/\W y
def L01{α:Type}(τs:List Ty)(e:α->List AV)(W:α->Prop):Prop:=∀l,okL τs l->∃y,CEs l (e y)/\W y
def FitL{α:Type}(W:α->Prop)(l:List α):Prop:=l.length<=maxLen/\∀x∈l,W x
def FitT{α:Type}(_:α):Prop:=True
section
variable{α β:Type}
theorem Z0f.int(k:IntKind):Z0f (.int k) (λn:Int=>[.int k n]) FitT:=by
 intro l h
 obtain⟨n,rfl,_⟩:=h
 exact⟨n,.refl _,trivial⟩
theorem Z0f.str:Z0f .str (λs:List UInt8=>[.str s]) (λs=>s.length<=maxLen):=by
 intro l h
 obtain⟨s,rfl,hs⟩:=h
 exact⟨s,.refl _,hs⟩
theorem L01.nil:L01 [] (λ_:Unit=>[]) FitT:=by
 intro l h
 simp only[okL]at h
 subst h
 exact⟨(),.refl _,trivial⟩
theorem L01.cons{f:Ty}{fs:List Ty}{e1:α->List AV}{e2:β->List AV}{W1:α->Prop}{W2:β->Prop}(h1:Z0f f e1 W1)(h2:L01 fs e2 W2):L01 (f::fs) (λp:α×β=>e1 p.1++e2 p.2) (λp=>W1 p.1/\W2 p.2):=by
 intro l h
 simp only[okL]at h
 obtain⟨l1,l2,rfl,q1,q2⟩:=h
 obtain⟨y1,c1,w1⟩:=h1 l1 q1
 obtain⟨y2,c2,w2⟩:=h2 l2 q2
 exact⟨(y1,y2),c1.append c2,w1,w2⟩
theorem L01.st{fs:List Ty}{e:α->List AV}{W:α->Prop}(h:L01 fs e W)(g:α->β){e':β->List AV}{W':β->Prop}(he:∀x,e x=e' (g x))(hW:∀x,W x->W' (g x)):Z0f (.st fs) e' W':=by
 intro l hl
 simp only[Ty.ok]at hl
 obtain⟨y,c,w⟩:=h l hl
 grind
theorem exL{R:AV->α->Prop}:∀{es:List AV},(∀x∈es,∃y,R x y)->∃ys:List α,es.length=ys.length/\∀(i:Nat) (x:AV) (y:α),es[i]?=some x->ys[i]?=some y->R x y
 |[],_=>⟨[],rfl,λi x y h=>by simp at h⟩
 |x::es,h=>by
  obtain⟨y,hy⟩:=h x (yJ ..)
  obtain⟨ys,hl,hys⟩:=exL (es:=es) λz hz=>h z (yH _ hz)
  refine⟨y::ys,by simp[hl],λi a b ha hb=>?_⟩
  cases i with
  |zero=>simp at ha hb;subst ha;subst hb;exact hy
  |succ i=>exact hys i a b (by simpa using ha) (by simpa using hb)
theorem Z0f.sl{τ:Ty}{e:α->List AV}{W:α->Prop}(h:Z0f τ e W)(E:α->AV)(hE:∀y,(E y).cells=e y){n:Nat}(hn:τ.size=n):Z0f (.sl τ) (λl:List α=>[.sl .rd n (l.map E)]) (FitL W):=by
 intro l hl
 simp only[Ty.ok]at hl
 rcases hl with rfl|⟨es,rfl,hm,h2⟩
 .exact⟨[],.one ⟨AE.nl,λ_=>rfl⟩,Nat.zero_le _,λx hx=>by simp at hx⟩
 .obtain⟨ys,hys,hR⟩:=exL (α:=α) (R:=λx y=>CEs x.cells (E y).cells/\W y/\x.cells.length=τ.size) (es:=es) λx hx=>by
   obtain⟨a1,_,a3⟩:=h2 x hx
   obtain⟨y,c,w⟩:=h _ a3
   grind
  have get:∀y∈ys,∃(i:Nat) (x:AV),es[i]?=some x/\ys[i]?=some y:=λy hy=>by
   obtain⟨i,hi⟩:=List.getElem?_of_mem hy
   exact⟨i,_,yA (by rw[hys];exact(yB hi).1),hi⟩
  refine⟨ys,.one ⟨?_,λ_=>rfl⟩,by rw[← hys];exact hm,λy hy=>?_⟩
  .rw[hn]
   refine AE.sl (by simpa using hys) (λd hd=>?_) (by grind[CEs.flat])
   obtain⟨y,hy,rfl⟩:=yY hd
   obtain⟨i,x,hx,hy'⟩:=get y hy
   have:=hR i x y hx hy'
   rw[← this.1.1,this.2.2,hn]
  grind
theorem Z0f.okV_st{fs:List Ty}{e:α->List AV}{W:α->Prop}(h:Z0f (.st fs) e W){a:AV}(ha:(Ty.st fs).okV a):∃y,AE a (.agg (e y))/\W y:=by
 obtain⟨cs,rfl,hc⟩:=ha
 obtain⟨y,c,w⟩:=h cs (by grind[Ty.ok])
 exact⟨y,.agg c,w⟩
end
end
end Go.Proofs.YtehomnafaoplgaaGreat.Eng
namespace Go.Proofs.YtehomnafaoplgaaGreat
open Go Go.RowKit Eng
def V2N:Ty:=.st [.int .i64,.int .i64,.int .i64]
def Y2N(x:Vec):Prop:=FitT x.a/\FitT x.b/\FitT x.c/\True
theorem X2O:Z0f V2N (λx:Vec=>(eVec x).cells) Y2N:=L01.st (L01.cons (Z0f.int .i64) (L01.cons (Z0f.int .i64) (L01.cons (Z0f.int .i64) L01.nil))) (λp=>⟨p.1,p.2.1,p.2.2.1⟩) (λ_=>by rfl) (λ_ h=>by exact h)
def Q2O:Ty:=.st [.int .i64,.int .i64,.int .i64,V2N,V2N,.int .i64,.int .i64]
def M2N(x:Job):Prop:=FitT x.id/\FitT x.prio/\FitT x.nodes/\Y2N x.need/\Y2N x.lic/\FitT x.wall/\FitT x.level/\True
theorem ofJob:Z0f Q2O (λx:Job=>(eJob x).cells) M2N:=L01.st (L01.cons (Z0f.int .i64) (L01.cons (Z0f.int .i64) (L01.cons (Z0f.int .i64) (L01.cons X2O (L01.cons X2O (L01.cons (Z0f.int .i64) (L01.cons (Z0f.int .i64) L01.nil))))))) (λp=>⟨p.1,p.2.1,p.2.2.1,p.2.2.2.1,p.2.2.2.2.1,p.2.2.2.2.2.1,p.2.2.2.2.2.2.1⟩) (λ_=>by rfl) (λ_ h=>by exact h)
def Z1K:Ty:=.st [.sl (.int .u8),.int .i64,.int .i64]
def Y1W:Ty:=.st [.str,Z1K]
def U2N:Ty:=.st [.int .i64,Q2O,.int .i64,V2N]
def L2N(x:Cmd):Prop:=FitT x.kind/\M2N x.job/\FitT x.n/\Y2N x.lic/\True
theorem ofCmd:Z0f U2N (λx:Cmd=>(eCmd x).cells) L2N:=L01.st (L01.cons (Z0f.int .i64) (L01.cons ofJob (L01.cons (Z0f.int .i64) (L01.cons X2O L01.nil)))) (λp=>⟨p.1,p.2.1,p.2.2.1,p.2.2.2.1⟩) (λ_=>by rfl) (λ_ h=>by exact h)
theorem W24{a:tI}(h:a.length<=1048576):UX a=some a:=by
 unfold UX
 have hm:mkL 1 (a.length:Int) (0:Int)=some (List.replicate a.length (0:Int)):=by
  unfold mkL
  rw[yd (by omega)]
  simp
 rw[hm,bS]
 refine Xw (λ_ (o:Option tI)=>o=some a) (λv:Int×tI=>((a.length:Int)-v.1).toNat) (λv=>∃i:Nat,v=((i:Int),a.take i++List.replicate (a.length-i) 0)/\i<=a.length) (λv k hI hk=>?_) _ _ ⟨0,by simp,by omega⟩ (by simp only;omega)
 obtain⟨i,rfl,hi⟩:=hI
 unfold WZ
 dsimp only
 by_cases hlt:i<a.length
 .have h2:(a.take i++List.replicate (a.length-i) (0:Int))[i]?=some 0:=by
   rw[yS (by simp;omega),List.getElem?_replicate,yd (by simp;omega)]
  rw[show decide ((i:Int)<(a.length:Int))=true by simp;omega,yN,J2H hlt,bS,X3,h2,bS,Wn (by omega),yZ]
  refine hk _ ⟨i+1,?_,by omega⟩ (by simp only;omega)
  have hl:(a.take i).length=i:=by simp;omega
  rw[List.set_append_right _ _ (by omega),hl,Nat.sub_self,show a.length-i=(a.length-(i+1))+1 by omega,List.replicate_succ,List.set_cons_zero,List.take_succ_eq_append_getElem hlt,List.append_assoc,List.singleton_append]
 .have:i=a.length:=by omega
  subst this
  rw[show decide ((a.length:Int)<(a.length:Int))=false by simp,yM]
  simp
theorem X2k{a:tI}(h:a.length<=1048576):QX a a=some true:=by
 unfold QX
 rw[bne_self_eq_false,yM]
 refine Xw (λ_ (o:Option Bool)=>o=some true) (λv:Int=>((a.length:Int)-v).toNat) (λv=>∃i:Nat,v=(i:Int)/\i<=a.length) (λv k hI hk=>?_) _ _ ⟨0,rfl,by omega⟩ (by omega)
 obtain⟨i,rfl,hi⟩:=hI
 unfold OZ
 by_cases hlt:i<a.length
 .rw[show decide ((i:Int)<(a.length:Int))=true by simp;omega,yN,J2H hlt,bS,bS,bne_self_eq_false,yM,Wn (by omega)]
  exact hk _ ⟨i+1,rfl,by omega⟩ (by omega)
 .rw[show decide ((i:Int)<(a.length:Int))=false by simp;omega,yM]
def VQ(n:Nat):tI:=(List.range n).map λ(i:Nat)=>IntKind.wrap .u8 ((i:Int)+1)
theorem U22{a:tI}(h:a.length<=1048576):Jt a 1=some ((a.length:Int)+1,VQ a.length):=by
 unfold Jt
 refine Xw (λ_ (o:Option (Int×tI))=>o=some ((a.length:Int)+1,VQ a.length)) (λv:Int×Int×tI=>((a.length:Int)-v.2.1).toNat) (λv=>∃i:Nat,v=((i:Int)+1,(i:Int),VQ i++a.drop i)/\i<=a.length) (λv k hI hk=>?_) _ _ ⟨0,by simp[VQ],by omega⟩ (by simp only;omega)
 obtain⟨i,rfl,hi⟩:=hI
 have hml:(VQ i).length=i:=by simp[VQ]
 have hl:(VQ i++a.drop i).length=a.length:=by rw[yU,hml,List.length_drop];omega
 unfold LC
 dsimp only
 rw[hl]
 by_cases hlt:i<a.length
 .rw[show decide ((i:Int)<(a.length:Int))=true by simp;omega,yN,J2H (l:=VQ i++a.drop i) (i:=i) (by omega),bS,Y5 (n:=(i:Int)+1+1) (by omega),Wn (by omega),yZ]
  refine hk _ ⟨i+1,?_,by omega⟩ (by simp only;omega)
  rw[List.drop_eq_getElem_cons hlt,List.set_append_right _ _ (by omega),hml,Nat.sub_self,List.set_cons_zero]
  simp[VQ,List.range_succ]
 .have:i=a.length:=by omega
  subst this
  rw[show decide ((a.length:Int)<(a.length:Int))=false by simp,yM]
  simp
theorem U23{n:Nat}(h:n<=1048576):ZE (VQ n) 1=some ((n:Int)+1):=by
 have hml:(VQ n).length=n:=by simp[VQ]
 unfold ZE
 refine Xw (λ_ (o:Option Int)=>o=some ((n:Int)+1)) (λv:Int×Int=>((n:Int)-v.2).toNat) (λv=>∃i:Nat,v=((i:Int)+1,(i:Int))/\i<=n) (λv k hI hk=>?_) _ _ ⟨0,by simp,by omega⟩ (by simp only;omega)
 obtain⟨i,rfl,hi⟩:=hI
 unfold UN
 dsimp only
 rw[hml]
 by_cases hlt:i<n
 .have hx:(VQ n)[i]'(by omega)=IntKind.wrap .u8 ((i:Int)+1):=by simp[VQ]
  rw[show decide ((i:Int)<(n:Int))=true by simp;omega,yN,J2H (l:=VQ n) (i:=i) (by omega),bS,hx,bne_self_eq_false,yM,Y5 (n:=(i:Int)+1+1) (by omega),Wn (by omega)]
  exact hk _ ⟨i+1,by simp,by omega⟩ (by simp only;omega)
 .have:i=n:=by omega
  subst this
  rw[show decide ((i:Int)<(i:Int))=false by simp,yM]
theorem J2e{p:Pack}(h:p.journal.bytes.length<=1048576):Jx p=some p:=by
 unfold Jx ZW
 rw[W24 h]
 rfl
theorem Y2e{p:Pack}(h:p.journal.bytes.length<=1048576):Zy p p=some true:=by
 unfold Zy VW
 simp only[bne_self_eq_false,yM,X2k h,bS,yL]
theorem X1N{p:Pack}(h:p.journal.bytes.length<=1048576):Wp p 1=some ((p.journal.bytes.length:Int)+1,VQ p.journal.bytes.length):=by
 unfold Wp Qv
 rw[U22 h]
 rfl
theorem Q2c{x:Str}{n:Nat}{a b:Int}(h:n<=1048576):Js (Pack.mk x (Journal.mk (VQ n) a b)) 1=some ((n:Int)+1):=by
 unfold Js OG
 have e:decide ((n:Int)+1<0)=false:=by simp;omega
 simp only[U23 h,bS,e,yM]
theorem W2q{p:Pack}(hm:p.snap.length<=maxLen)(hb:p.journal.bytes.length<=maxLen)(h:¬ WH p 1048576<0):p.snap.length+p.journal.bytes.length<=1048576:=by
 have e:(maxLen:Nat)<=9223372036854775807:=by decide
 unfold WH Xj Mr at h
 rw[Y5 (n:=1048576-(p.snap.length:Int)) (by omega)]at h
 by_cases h1:1048576-(p.snap.length:Int)<0
 .rw[decide_eq_true h1]at h
  simp at h
 .rw[decide_eq_false h1]at h
  simp only[yM]at h
  rw[Y5 (n:=1048576-(p.snap.length:Int)-(p.journal.bytes.length:Int)) (by omega)]at h
  by_cases h2:1048576-(p.snap.length:Int)-(p.journal.bytes.length:Int)<0
  .rw[decide_eq_true h2]at h
   simp at h
  .omega
theorem Z2O(w:Str):By (strB w):=by
 intro x hx
 obtain⟨b,_,rfl⟩:=yY hx
 have:=b.toNat_lt
 omega
theorem By.app{a b:tI}(ha:By a)(hb:By b):By (a++b):=by
 intro x hx
 rcases List.mem_append.1 hx with h|h
 .exact ha x h
 .exact hb x h
theorem By.nil:By []:=λx hx=>by cases hx
theorem Y2M{j:Journal}{w:Str}(hB:By j.bytes)(hb:j.bytes.length<=1048576)(hw:w.length<=1048576):∃r:Journal×Int,U2H j w=some r/\Q2H j w=some r/\By r.1.bytes/\r.1.bytes.length<=1048576:=by
 unfold U2H Q2H
 obtain⟨b,b1,b2⟩:=O1v hB hb
 rw[b1,b2,bS,bS]
 cases b with
 |false=>exact⟨(zJ,1),rfl,rfl,.nil,by simp⟩
 |true =>
  unfold Z2K YD V2H
  have n1:=J0 j.count
  have k1:catS (numText j.count) ([32]:Str)=some (numText j.count++[32]):=V0 (by simp;omega)
  have k2:catS (numText j.count++[32]) w=some (numText j.count++[32]++w):=V0 (by simp;omega)
  obtain⟨T,hT⟩:∃T,T=numText j.count++[32]++w++[10]:=⟨_,rfl⟩
  have k3:catS (numText j.count++[32]++w) ([10]:Str)=some T:=by rw[hT];exact V0 (by simp;omega)
  have hl:T.length<=1048600:=by rw[hT];simp;omega
  have e1:s2bQ T=some (strB T):=by unfold s2bQ strB;rw[yd (by omega)]
  have hs:(strB T).length=T.length:=by simp[strB]
  have k4:appL 1 ([]:tI) j.bytes=some j.bytes:=Q0 (by simp;omega)
  have k5:appL 1 j.bytes (strB T)=some (j.bytes++strB T):=Q0 (by rw[hs];omega)
  have e2:((j.bytes++strB T).length:Int)=(j.bytes.length:Int)+(T.length:Int):=by simp[hs]
  simp only[yL,yM,M2h hw,L2h hw,bS,Bool.false_or,Z7,V9,k1,k2,k3,k4,k5,e1,e2]
  rw[Y5 (n:=(j.bytes.length:Int)+(T.length:Int)) (by omega)]
  cases(!decide ((10:UInt8)∈w))&&(decide (1<=w.length)&&decide (w.length<=200))with
  |false=>exact⟨(zJ,1),rfl,rfl,.nil,by simp⟩
  |true =>
   simp only[yL,yM]
   by_cases h4:(40000:Int)<(j.bytes.length:Int)+(T.length:Int)
   .rw[decide_eq_true h4]
    exact⟨(zJ,2),rfl,rfl,.nil,by simp⟩
   .rw[decide_eq_false h4,yM]
    exact⟨_,rfl,rfl,hB.app (Z2O T),by simp only[yU,hs];omega⟩
theorem M2L{j:Journal}(hB:By j.bytes)(hb:j.bytes.length<=1048576):∃r:Journal,Y2H j=some r/\X2H j=some r/\By r.bytes/\r.bytes.length<=1048576:=by
 unfold Y2H X2H
 obtain⟨b,b1,b2⟩:=O1v hB hb
 rw[b1,b2,bS,bS]
 cases b with
 |false=>exact⟨zJ,rfl,rfl,.nil,by simp⟩
 |true =>
  unfold M2H V2H
  have e:lenQ j.bytes=some ():=by unfold lenQ;rw[yd (by omega)]
  simp only[yL,yM,e,bS]
  rw[Q0 (l:=([]:tI)) (m:=j.bytes) (by simp;omega),List.nil_append]
  exact⟨_,rfl,rfl,hB,hb⟩
theorem M2M{p:Pack}(c:Cmd)(hs:p.snap.length<=1048576)(hB:By p.journal.bytes)(hb:p.journal.bytes.length<=1048576):∃r:Pack×Int,L2H p c=some r/\O2H p c=some r/\By r.1.journal.bytes/\r.1.journal.bytes.length<=1048576:=by
 unfold L2H O2H
 obtain⟨y,y1,y2,y3⟩:=W1v hs hB hb
 rw[y1,y2,bS,bS]
 cases y.2 with
 |false=>exact⟨(zP,30),rfl,rfl,.nil,by simp⟩
 |true =>
  obtain⟨q,q1,q2,_⟩:=X25 y3 c
  simp only[yL,yM,q1,q2,bS]
  cases q.2 != 0 with
  |true=>exact⟨(zP,q.2),rfl,rfl,.nil,by simp⟩
  |false =>
   obtain⟨w,w1,w2,w3⟩:=O1Q c
   obtain⟨a,a1,a2,a3,a4⟩:=Y2M (w:=w) hB hb (by omega)
   simp only[yM,w1,w2,a1,a2,bS]
   cases a.2 != 0 with
   |true=>exact⟨(zP,31),rfl,rfl,.nil,by simp⟩
   |false =>
    obtain⟨z,z1,z2,z3,z4⟩:=M2L a3 a4
    simp only[yM,z1,z2,bS]
    exact⟨_,rfl,rfl,z3,z4⟩
theorem X2N(c:Cmd):Or c=c:=rfl
theorem X2L{p:Pack}(c:Cmd)(hm:p.snap.length<=maxLen)(hb:p.journal.bytes.length<=maxLen)(hB:By p.journal.bytes):Z2H p c=some true:=by
 unfold Z2H
 by_cases hs:WH p 1048576<0
 .rw[decide_eq_true hs];rfl
 rw[decide_eq_false hs,yM]
 have hz:=W2q hm hb hs
 obtain⟨r,r1,r2,_,hr⟩:=M2M (p:=p) c (by omega) hB (by omega)
 have c1:=J2e (p:=p) (by omega)
 have ep:=Y2e (p:=p) (by omega)
 have er:=Y2e (p:=r.1) hr
 have mp:=X1N (p:=p) (by omega)
 have mr:=X1N (p:=r.1) hr
 have hd:∀(a b:Int),Js (Pack.mk r.1.snap (Journal.mk (VQ r.1.journal.bytes.length) a b)) 1=some ((r.1.journal.bytes.length:Int)+1):=λa b=>Q2c hr
 have n1:decide ((p.journal.bytes.length:Int)+1<0)=false:=by simp;omega
 have n2:decide ((r.1.journal.bytes.length:Int)+1<0)=false:=by simp;omega
 simp only[X2N]
 simp only[c1,r1,r2,er,ep,mp,mr,hd,n1,n2,bS,bne_self_eq_false,yL,Bool.or_self,yM]
def FitB(n:Int):Prop:=0<=n/\n<256
theorem Z0f.u8:Z0f (.int .u8) (λn:Int=>[.int .u8 n]) FitB:=by
 intro l h
 obtain⟨n,rfl,hw⟩:=h
 refine⟨n,.refl _,?_⟩
 simp[Lit.wf]at hw
 have e1:IntKind.min .u8=0:=rfl
 have e2:IntKind.max .u8=255:=rfl
 rw[e1,e2]at hw
 exact⟨by omega,by omega⟩
theorem X22:Z0f Z1K (λx:Journal=>(MP .rd x).cells) (λx=>x.bytes.length<=maxLen/\By x.bytes):=L01.st (L01.cons (Z0f.sl Z0f.u8 eB (λ_=>rfl) rfl) (L01.cons (Z0f.int .i64) (L01.cons (Z0f.int .i64) L01.nil))) (λp=>⟨p.1,p.2.1,p.2.2.1⟩) (λ_=>by rfl) (λ_ h=>by exact⟨h.1.1,h.1.2⟩)
theorem V2t:Z0f Y1W (λx:Pack=>(Z09 .rd x).cells) (λx=>x.snap.length<=maxLen/\x.journal.bytes.length<=maxLen/\By x.journal.bytes):=L01.st (L01.cons Z0f.str (L01.cons X22 L01.nil)) (λp=>⟨p.1,p.2.1⟩) (λ_=>by rfl) (λ_ h=>by exact⟨h.1,h.2.1⟩)
theorem X2l{a:AV}(h:Y1W.okV a):∃s,AE a (Z09 .rd s)/\s.snap.length<=maxLen/\s.journal.bytes.length<=maxLen/\By s.journal.bytes:=Z0f.okV_st V2t h
theorem V2O{a:AV}(h:U2N.okV a):∃c,AE a (eCmd c)/\L2N c:=Z0f.okV_st ofCmd h
theorem Z2L(xs:List AV)(h:okVs [Y1W,U2N] xs):SQ J2G xs (.bool true):=by
 obtain⟨a,_,rfl,ha,b,_,rfl,hb,rfl⟩:=h
 obtain⟨s,ha,h1,h2,h3⟩:=X2l ha
 obtain⟨c,hb,_⟩:=V2O hb
 exact(Z2J (X2L c h1 h2 h3)).wkS (.cons ha (.cons hb .nil))
end Go.Proofs.YtehomnafaoplgaaGreat

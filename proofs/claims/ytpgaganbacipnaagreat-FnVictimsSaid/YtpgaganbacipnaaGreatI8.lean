/-
  Lemmas, part 8.
-/
import Derived.Test.YtpgaganbacipnaaGreatI7
import Derived.Test.YtpgaganbacipnaaGreatRows
namespace Go.Proofs.YtpgaganbacipnaaGreat
open Go Go.RowKit Eng
def Mv:Nat:=3
def MU:Nat:=8
def X0j:Nat:=9
def W0i:Nat:=10
def O0s:Nat:=11
def Y0j:Nat:=12
def O0i:Nat:=23
def V0j:Nat:=39
def W02:Nat:=40
def VI:Nat:=41
def JN:Nat:=42
def V0:Nat:=43
def Ov:Nat:=44
def O0c:Nat:=45
def W0A:Nat:=46
def O05:Nat:=47
def X4:Nat:=48
def Q05:Nat:=49
def Zl:Nat:=50
def Ue:Nat:=51
def W05:Nat:=52
def Z0j:Nat:=54
def V0c:Nat:=55
def J0h:Nat:=56
def M0h:Nat:=57
def W0b:Nat:=58
def XI:Nat:=59
def L0r:Nat:=60
def Ze:Nat:=61
def W0q:Nat:=62
def U0s:Nat:=63
def M0c:Nat:=64
def YO:Nat:=65
def UI:Nat:=66
def X0r:Nat:=79
def L0i:Nat:=80
def US:Nat:=81
def W0r:Nat:=82
def Ya:Nat:=89
def Z0r:Nat:=97
def L0h:Nat:=98
def M0b:Nat:=99
def L7:Nat:=100
def X03:Nat:=101
def U0j:Nat:=102
def QS:Nat:=103
def Q0A:Nat:=104
def W0s:Nat:=105
def Jj:Nat:=106
def Xc:Nat:=107
def L3:Nat:=108
def Qr:Nat:=109
def W0c:Nat:=110
def Q4:Nat:=111
def Jt:Nat:=112
def Z0c:Nat:=114
def Lv:Nat:=117
def Lt:Nat:=118
def V0b:Nat:=119
def M02:Nat:=120
def L0q:Nat:=121
def X0s:Nat:=122
def V03:Nat:=123
def O0A:Nat:=124
def U0A:Nat:=125
def Jo:Nat:=126
def V0s:Nat:=127
def Jg:Nat:=128
def Uj:Nat:=129
def UX:Nat:=130
def JZ:Nat:=131
def Y0s:Nat:=132
def J0b:Nat:=133
def QI:Nat:=134
def WI:Nat:=135
def XO:Nat:=136
def Y0A:Nat:=137
def O0r:Nat:=138
def X0S:Nat:=139
def V0r:Nat:=140
def U0r:Nat:=141
def YX:Nat:=142
def L0a:Nat:=145
def V0i:Nat:=146
def M0i:Nat:=147
def Q0i:Nat:=148
def X0b:Nat:=149
def Z0A:Nat:=150
def O0h:Nat:=166
def J0a:Nat:=169
def Y0r:Nat:=170
def Z0b:Nat:=171
def M0q:Nat:=172
def Y03:Nat:=173
def O0q:Nat:=174
def Of:Nat:=175
def Z0s:Nat:=176
def M0A:Nat:=177
def Q0c:Nat:=178
def L0A:Nat:=179
def VO:Nat:=180
def UC:Nat:=191
def Q02:Nat:=192
def J0r:Nat:=193
def QX:Nat:=194
def LU:Nat:=195
def Y0c:Nat:=196
def Q0s:Nat:=197
def U03:Nat:=198
def WS:Nat:=199
def Y9:Nat:=200
def Q03:Nat:=201
def M05:Nat:=203
def W03:Nat:=204
def V0A:Nat:=205
def Mt:Nat:=206
def U0c:Nat:=207
def ZO:Nat:=208
def Ot:Nat:=209
def Wt:Nat:=210
def ZX:Nat:=211
def J0q:Nat:=212
def VX:Nat:=213
def U0i:Nat:=214
def Q0b:Nat:=215
def Q0r:Nat:=220
def Z0i:Nat:=221
def J0i:Nat:=222
def XX:Nat:=223
def M0r:Nat:=224
def O0b:Nat:=225
def X0A:Nat:=226
def X0c:Nat:=232
def L0b:Nat:=233
def U0b:Nat:=244
def Y0i:Nat:=245
def U05:Nat:=246
def J0z:Nat:=249
def J02:Nat:=250
def V05:Nat:=251
def L0z:Nat:=252
def X0i:Nat:=253
def VM:Nat:=254
def Y0b:Nat:=268
def Z03:Nat:=269
def L02:Nat:=270
def O02:Nat:=272
theorem Tryz.own:ownKnob Tryz.prog.godebug=none:=by kernel_rfl
theorem Tryz.laidOut:laidOutB Tryz.prog=true:=by kernel_rfl
namespace Eng
theorem WT{α:Type}(e:α->AV)(h:∀x,(e x).rdt=e x)(l:List α):rdtL (l.map e)=l.map e:=by
 rw[J2,List.map_map]
 exact List.map_congr_left λx _=>h x
theorem M0a{α:Type}(e:α->AV)(h:∀x,Nw (e x))(l:List α):NwL (l.map e):=by
 rw[U02]
 intro a ha
 obtain⟨x,_,rfl⟩:=yY ha
 exact h x
structure Tok(I:Nat->St->Prop):Type where mk ::
def rng(n:Nat)(I:Nat->St->Prop)(_:Tok I)(m:Nat)(s:St):Prop:=∃i,m=n-i/\i<=n/\I i s
theorem W_rng{P:Program}{R:Ex->St->Prop}{k:List It}{s:St}{x:L}(n:Nat)(I:Nat->St->Prop)(h0:I 0 s)
  (h:∀i s',i<=n->I i s'->W P R (.l x::.lp (rng n I ⟨⟩) (n-i)::k) s'):W P R (.l (.loop x)::k) s :=
 L1G (rng n I ⟨⟩) n ⟨0,by simp[h0]⟩ λ_ s' ⟨i,e,hi,hI⟩=>by rw[e];exact h i s' hi hI
structure TokJ(J:St->Prop):Type where mk ::
def beh(J:St->Prop)(_:TokJ J)(s:St):Prop:=J s
theorem W1O{J:St->Prop}{t:TokJ J}{s:St}(h:J s):beh J t s:=h
theorem U24{P:Program}{R:Ex->St->Prop}{k:List It}{s:St}{x:L}{id:Nat}(n:Nat)(I:Nat->St->Prop)(J:St->Prop)(h0:I 0 s)
  (h:∀i s',i<=n->I i s'->W P R (.l x::.lp (rng n I ⟨⟩) (n-i)::.mk id::.jn (beh J ⟨⟩)::k) s') (hk:∀s',J s'->W P R k s'):W P R (.l (.loop x)::.mk id::k) s:=by
 have h1:W P R (.l (.loop x)::.mk id::.jn (beh J ⟨⟩)::k) s:=W_rng n I h0 h
 refine Y1a (K:=denK P R (.mk id::.jn (beh J ⟨⟩)::k)) (K':=denK P R (.mk id::k)) (λe s' q=>?_) h1
 have jn:∀e s',denK P R (.jn (beh J ⟨⟩)::k) e s'->denK P R k e s':=λe s' q=>by
  cases e with
  |nrm=>exact hk s' q
  |ext i=>exact q
  |ret=>exact q
 cases e with
 |nrm=>exact jn .nrm s' q
 |ext i =>
  rw[W0R]at q ⊢
  split
  .rename_i e;rw[yd e]at q;exact jn .nrm s' q
  .rename_i e;rw[ye e]at q;exact jn (.ext i) s' q
 |ret=>exact jn .ret s' q
theorem J1H{n i:Nat}{I:Nat->St->Prop}{t:Tok I}{s:St}(h:i<n)(hI:I (i+1) s):∃m',m'<n-i/\rng n I t m' s:=⟨n-(i+1),by omega,i+1,rfl,h,hI⟩
attribute [simp] wop.eq_38 wop.eq_40 St.hi St.lo
theorem Z1T{α:Type}(e:α->AV){es:List AV}(h:∀x∈es,∃y,x=e y):∃l:List α,es=l.map e:=by
 induction es with
 |nil=>exact⟨[],rfl⟩
 |cons a es ih =>
  obtain⟨y,hy⟩:=h a (by simp)
  obtain⟨l,hl⟩:=ih λx hx=>h x (by simp[hx])
  exact⟨y::l,by simp[hy,hl]⟩
end Eng
def w64(n:Int):Int:=IntKind.i64.wrap n
@[simp] def eI (n:Int):AV:=.int .i64 n
@[simp] theorem rdt_IS (l:List Int):rdtL (l.map eI)=l.map eI:=WT _ (λ_=>rfl) l
@[simp] theorem nw_IS (l:List Int):NwL (l.map eI):=M0a _ (λ_=>by simp) l
@[simp] def eB (n:Int):AV:=.int .u8 n
@[simp] theorem rdt_BS (l:List Int):rdtL (l.map eB)=l.map eB:=WT _ (λ_=>rfl) l
@[simp] def eBo (b:Bool):AV:=.bool b
@[simp] theorem rdt_BoS (l:List Bool):rdtL (l.map eBo)=l.map eBo:=WT _ (λ_=>rfl) l
@[simp] theorem O20 (l:List Bool):NwL (l.map eBo):=M0a _ (λ_=>by simp) l
@[simp] theorem noO_I (l:List Int):noOL (l.map eI):=VH _ (λ_=>by simp) l
theorem nw_I(l:List Int):NwL (l.map eI):=nw_IS l
@[simp] theorem noO_B (l:List Int):noOL (l.map eB):=VH _ (λ_=>by simp) l
@[simp] theorem noO_Bo (l:List Bool):noOL (l.map eBo):=VH _ (λ_=>by simp) l
theorem Mr(l:List Bool):NwL (l.map eBo):=O20 l
structure Vec where
 a:Int
 b:Int
 c:Int
 deriving DecidableEq,Inhabited
@[simp] def eVec (x:Vec):AV:=.agg [.int .i64 x.a,.int .i64 x.b,.int .i64 x.c]
@[simp] theorem V25 (l:List Vec):rdtL (l.map eVec)=l.map eVec:=WT _ (λ_=>rfl) l
structure Node where
 leaf:Int
 cap:Vec
 deriving DecidableEq,Inhabited
@[simp] def V1 (x:Node):AV:=.agg [.int .i64 x.leaf,.int .i64 x.cap.a,.int .i64 x.cap.b,.int .i64 x.cap.c]
@[simp] theorem Y21 (l:List Node):noOL (l.map V1):=VH _ (λ_=>by simp) l
@[simp] theorem J1Z (l:List Node):rdtL (l.map V1)=l.map V1:=WT _ (λ_=>rfl) l
@[simp] theorem Q1I (l:List Node):NwL (l.map V1):=M0a _ (λ_=>by simp) l
theorem L2(l:List Node):NwL (l.map V1):=Q1I l
structure Topo where
 parents:List Int
 nodes:List Node
 deriving DecidableEq,Inhabited
@[simp] def M4 (g:Tag)(x:Topo):AV:=.agg [.sl g 1 (x.parents.map eI),.sl g 4 (x.nodes.map V1)]
structure Job where
 id:Int
 prio:Int
 nodes:Int
 need:Vec
 lic:Vec
 wall:Int
 level:Int
 deriving DecidableEq,Inhabited
@[simp] def eJob (x:Job):AV:=.agg [.int .i64 x.id,.int .i64 x.prio,.int .i64 x.nodes,.int .i64 x.need.a,.int .i64 x.need.b,.int .i64 x.need.c,.int .i64 x.lic.a,.int .i64 x.lic.b,.int .i64 x.lic.c,.int .i64 x.wall,.int .i64 x.level]
@[simp] theorem O25 (l:List Job):noOL (l.map eJob):=VH _ (λ_=>by simp) l
@[simp] theorem Q25 (l:List Job):rdtL (l.map eJob)=l.map eJob:=WT _ (λ_=>rfl) l
@[simp] theorem X1S (l:List Job):NwL (l.map eJob):=M0a _ (λ_=>by simp) l
theorem VC(l:List Job):NwL (l.map eJob):=X1S l
structure Run where
 job:Job
 t:Int
 nodes:List Int
 deriving DecidableEq,Inhabited
@[simp] def Z1 (g:Tag)(x:Run):AV:=.agg [.int .i64 x.job.id,.int .i64 x.job.prio,.int .i64 x.job.nodes,.int .i64 x.job.need.a,.int .i64 x.job.need.b,.int .i64 x.job.need.c,.int .i64 x.job.lic.a,.int .i64 x.job.lic.b,.int .i64 x.job.lic.c,.int .i64 x.job.wall,.int .i64 x.job.level,.int .i64 x.t,.sl g 1 (x.nodes.map eI)]
@[simp] theorem U25 (g:Tag)(l:List Run):rdtL (l.map (Z1 g))=l.map (Z1 .rd):=by
 rw[J2,List.map_map];exact List.map_congr_left λx _=>by simp[AV.rdt,rdtL]
@[simp] theorem UE (l:List Run):NwL (l.map (Z1 .nw)):=M0a _ (λ_=>by simp) l
@[simp] theorem Q1S (l:List Run):noOL (l.map (Z1 .nw)):=VH _ (λ_=>by simp) l
@[simp] theorem U1S (l:List Run):noOL (l.map (Z1 .rd)):=VH _ (λ_=>by simp) l
structure End where
 id:Int
 t:Int
 why:Int
 deriving DecidableEq,Inhabited
@[simp] def eEnd (x:End):AV:=.agg [.int .i64 x.id,.int .i64 x.t,.int .i64 x.why]
@[simp] theorem M25 (l:List End):noOL (l.map eEnd):=VH _ (λ_=>by simp) l
@[simp] theorem W25 (l:List End):rdtL (l.map eEnd)=l.map eEnd:=WT _ (λ_=>rfl) l
@[simp] theorem V1S (l:List End):NwL (l.map eEnd):=M0a _ (λ_=>by simp) l
theorem VY(l:List End):NwL (l.map eEnd):=V1S l
structure State where
 topo:Topo
 up:List Bool
 lic:Vec
 depth:Int
 now:Int
 queue:List Job
 runs:List Run
 ends:List End
 deriving DecidableEq,Inhabited
@[simp] def V2 (g:Tag)(x:State):AV:=.agg [.sl g 1 (x.topo.parents.map eI),.sl g 4 (x.topo.nodes.map V1),.sl g 1 (x.up.map eBo),.int .i64 x.lic.a,.int .i64 x.lic.b,.int .i64 x.lic.c,.int .i64 x.depth,.int .i64 x.now,.sl g 11 (x.queue.map eJob),.sl g 13 (x.runs.map (Z1 g)),.sl g 3 (x.ends.map eEnd)]
structure Pt where
 t:Int
 free:Vec
 deriving DecidableEq,Inhabited
@[simp] def ePt (x:Pt):AV:=.agg [.int .i64 x.t,.int .i64 x.free.a,.int .i64 x.free.b,.int .i64 x.free.c]
@[simp] theorem noO_PtS (l:List Pt):noOL (l.map ePt):=VH _ (λ_=>by simp) l
@[simp] theorem rdt_PtS (l:List Pt):rdtL (l.map ePt)=l.map ePt:=WT _ (λ_=>rfl) l
@[simp] theorem W20 (l:List Pt):NwL (l.map ePt):=M0a _ (λ_=>by simp) l
theorem Wl(l:List Pt):NwL (l.map ePt):=W20 l
@[simp] def J1 (g:Tag)(x:List Pt):AV:=.agg [.sl g 4 (x.map ePt)]
@[simp] theorem L1Z (g:Tag)(l:List (List Pt)):rdtL (l.map (J1 g))=l.map (J1 .rd):=by
 rw[J2,List.map_map];exact List.map_congr_left λx _=>by simp[AV.rdt,rdtL]
@[simp] theorem Q9 (l:List (List Pt)):NwL (l.map (J1 .nw)):=M0a _ (λ_=>by simp) l
@[simp] theorem J1M (l:List (List Pt)):noOL (l.map (J1 .nw)):=VH _ (λ_=>by simp) l
structure Room where
 topo:Topo
 up:List Bool
 profs:List (List Pt)
 lics:List Pt
 deriving DecidableEq,Inhabited
@[simp] def Oe (g:Tag)(x:Room):AV:=.agg [.sl g 1 (x.topo.parents.map eI),.sl g 4 (x.topo.nodes.map V1),.sl g 1 (x.up.map eBo),.sl g 1 (x.profs.map (J1 g)),.sl g 4 (x.lics.map ePt)]
structure l01Cur where
 b:List Int
 i:Int
 h:Int
 deriving DecidableEq,Inhabited
@[simp] def Y0 (g:Tag)(x:l01Cur):AV:=.agg [.sl g 1 (x.b.map eB),.int .i64 x.i,.int .i64 x.h]
structure Held where
 id:Int
 t:Int
 nodes:List Int
 deriving DecidableEq,Inhabited
@[simp] def Y0a (g:Tag)(x:Held):AV:=.agg [.int .i64 x.id,.int .i64 x.t,.sl g 1 (x.nodes.map eI)]
end Go.Proofs.YtpgaganbacipnaaGreat

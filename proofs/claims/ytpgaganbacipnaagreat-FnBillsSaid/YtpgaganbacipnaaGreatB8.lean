/-
  Lemmas, part 8.
-/
import Derived.Test.YtpgaganbacipnaaGreatB7
import Derived.Test.YtpgaganbacipnaaGreatRows
namespace Go.Proofs.YtpgaganbacipnaaGreat
open Go Go.RowKit Eng
def ZT:Nat:=4
def ZQ:Nat:=13
def U0c:Nat:=14
def X0c:Nat:=15
def MC:Nat:=16
def Y0c:Nat:=17
def YO:Nat:=18
def J01:Nat:=19
def Q0c:Nat:=20
def M5:Nat:=23
def XT:Nat:=39
def LI:Nat:=40
def Z0:Nat:=43
def JD:Nat:=45
def M01:Nat:=47
def M07:Nat:=55
def Vp:Nat:=56
def YC:Nat:=57
def Ls:Nat:=58
def W0i:Nat:=63
def Qn:Nat:=65
def Va:Nat:=66
def J0b:Nat:=67
def VJ:Nat:=68
def QY:Nat:=69
def UA:Nat:=70
def YT:Nat:=71
def M0i:Nat:=72
def ZJ:Nat:=79
def UC:Nat:=80
def O5:Nat:=81
def Y0i:Nat:=82
def X8:Nat:=89
def YY:Nat:=97
def Ua:Nat:=98
def WN:Nat:=99
def J2:Nat:=100
def U1:Nat:=101
def V0c:Nat:=102
def JN:Nat:=103
def YQ:Nat:=104
def O0i:Nat:=105
def Wn:Nat:=106
def Q4:Nat:=107
def U2:Nat:=108
def On:Nat:=109
def V6:Nat:=110
def Qa:Nat:=111
def ON:Nat:=114
def Ue:Nat:=118
def U3:Nat:=119
def Jd:Nat:=121
def YJ:Nat:=122
def Ze:Nat:=123
def Z0p:Nat:=124
def J0o:Nat:=125
def Wl:Nat:=126
def Q0i:Nat:=127
def Ql:Nat:=128
def Ug:Nat:=129
def XC:Nat:=134
def VC:Nat:=135
def OI:Nat:=136
def V07:Nat:=137
def Zx:Nat:=138
def X0e:Nat:=139
def XY:Nat:=140
def VY:Nat:=141
def M3:Nat:=142
def U0i:Nat:=143
def Z02:Nat:=144
def UN:Nat:=145
def OS:Nat:=146
def JS:Nat:=147
def Up:Nat:=148
def Ww:Nat:=149
def X07:Nat:=150
def US:Nat:=166
def L06:Nat:=169
def Lw:Nat:=170
def J06:Nat:=171
def Z0i:Nat:=172
def UY:Nat:=173
def MX:Nat:=174
def Zd:Nat:=175
def V0i:Nat:=176
def XQ:Nat:=177
def LN:Nat:=178
def Y0p:Nat:=179
def MI:Nat:=180
def Vx:Nat:=191
def Ow:Nat:=192
def OY:Nat:=193
def OC:Nat:=194
def VQ:Nat:=195
def O07:Nat:=196
def XJ:Nat:=197
def WY:Nat:=198
def ZO:Nat:=199
def Q7:Nat:=200
def MY:Nat:=201
def L01:Nat:=203
def WI:Nat:=208
def Li:Nat:=209
def Mi:Nat:=210
def ZC:Nat:=211
def JI:Nat:=212
def QC:Nat:=213
def MS:Nat:=214
def QN:Nat:=215
def Jw:Nat:=220
def QS:Nat:=221
def WC:Nat:=222
def Qp:Nat:=223
def X0i:Nat:=224
def Q07:Nat:=225
def L0o:Nat:=226
def MN:Nat:=232
def W07:Nat:=233
def U07:Nat:=244
def WS:Nat:=245
def O01:Nat:=246
def Y07:Nat:=249
def JX:Nat:=250
def W01:Nat:=251
def Ul:Nat:=252
def Z0c:Nat:=253
def JG:Nat:=254
def Z07:Nat:=268
def ZY:Nat:=269
def LX:Nat:=270
def Mw:Nat:=272
theorem Tryz.own:ownKnob Tryz.prog.godebug=none:=by kernel_rfl
theorem Tryz.laidOut:laidOutB Tryz.prog=true:=by kernel_rfl
abbrev Str:=List UInt8
namespace Eng
theorem Mq{α:Type}(e:α->AV)(h:∀x,(e x).rdt=e x)(l:List α):rdtL (l.map e)=l.map e:=by
 rw[W2,List.map_map]
 exact List.map_congr_left fun x _=>h x
theorem VS{α:Type}(e:α->AV)(h:∀x,Nw (e x))(l:List α):NwL (l.map e):=by
 rw[OX]
 intro a ha
 obtain⟨x,_,rfl⟩:=yY ha
 exact h x
structure Tok(I:Nat->St->Prop):Type where mk ::
def rng(n:Nat)(I:Nat->St->Prop)(_:Tok I)(m:Nat)(s:St):Prop:=∃i,m=n-i/\i<=n/\I i s
theorem W_rng{P:Program}{R:Ex->St->Prop}{k:List It}{s:St}{x:L}(n:Nat)(I:Nat->St->Prop)(h0:I 0 s)
  (h:∀i s',i<=n->I i s'->W P R (.l x::.lp (rng n I ⟨⟩) (n-i)::k) s'):W P R (.l (.loop x)::k) s :=
 Z1n (rng n I ⟨⟩) n ⟨0,by simp[h0]⟩ fun _ s' ⟨i,e,hi,hI⟩=>by rw[e];exact h i s' hi hI
structure TokJ(J:St->Prop):Type where mk ::
def beh(J:St->Prop)(_:TokJ J)(s:St):Prop:=J s
theorem Z1u{J:St->Prop}{t:TokJ J}{s:St}(h:J s):beh J t s:=h
theorem Z1K{P:Program}{R:Ex->St->Prop}{k:List It}{s:St}{x:L}{id:Nat}(n:Nat)(I:Nat->St->Prop)(J:St->Prop)(h0:I 0 s)
  (h:∀i s',i<=n->I i s'->W P R (.l x::.lp (rng n I ⟨⟩) (n-i)::.mk id::.jn (beh J ⟨⟩)::k) s') (hk:∀s',J s'->W P R k s'):W P R (.l (.loop x)::.mk id::k) s:=by
 have h1:W P R (.l (.loop x)::.mk id::.jn (beh J ⟨⟩)::k) s:=W_rng n I h0 h
 refine V0U (K:=denK P R (.mk id::.jn (beh J ⟨⟩)::k)) (K':=denK P R (.mk id::k)) (fun e s' q=>?_) h1
 have jn:∀e s',denK P R (.jn (beh J ⟨⟩)::k) e s'->denK P R k e s':=fun e s' q=>by
  cases e with
  |nrm=>exact hk s' q
  |ext i=>exact q
  |ret=>exact q
 cases e with
 |nrm=>exact jn .nrm s' q
 |ext i =>
  rw[M0D]at q ⊢
  split
  .rename_i e;rw[yd e]at q;exact jn .nrm s' q
  .rename_i e;rw[ye e]at q;exact jn (.ext i) s' q
 |ret=>exact jn .ret s' q
theorem Y1o{n i:Nat}{I:Nat->St->Prop}{t:Tok I}{s:St}(h:i<n)(hI:I (i+1) s):∃m',m'<n-i/\rng n I t m' s:=⟨n-(i+1),by omega,i+1,rfl,h,hI⟩
attribute [simp] wop.eq_38 wop.eq_40 St.hi St.lo
theorem U1y{α:Type}(e:α->AV){es:List AV}(h:∀x∈es,∃y,x=e y):∃l:List α,es=l.map e:=by
 induction es with
 |nil=>exact⟨[],rfl⟩
 |cons a es ih =>
  obtain⟨y,hy⟩:=h a (by simp)
  obtain⟨l,hl⟩:=ih fun x hx=>h x (by simp[hx])
  exact⟨y::l,by simp[hy,hl]⟩
end Eng
def w64(n:Int):Int:=IntKind.i64.wrap n
@[simp] def eI (n:Int):AV:=.int .i64 n
@[simp] theorem rdt_IS (l:List Int):rdtL (l.map eI)=l.map eI:=Mq _ (fun _=>rfl) l
@[simp] theorem nw_IS (l:List Int):NwL (l.map eI):=VS _ (fun _=>by simp) l
@[simp] def eS (s:Str):AV:=.str s
@[simp] theorem rdt_SS (l:List Str):rdtL (l.map eS)=l.map eS:=Mq _ (fun _=>rfl) l
@[simp] def eB (n:Int):AV:=.int .u8 n
@[simp] theorem rdt_BS (l:List Int):rdtL (l.map eB)=l.map eB:=Mq _ (fun _=>rfl) l
@[simp] def eBo (b:Bool):AV:=.bool b
@[simp] theorem rdt_BoS (l:List Bool):rdtL (l.map eBo)=l.map eBo:=Mq _ (fun _=>rfl) l
@[simp] theorem O1G (l:List Bool):NwL (l.map eBo):=VS _ (fun _=>by simp) l
@[simp] theorem noO_I (l:List Int):noOL (l.map eI):=JH _ (fun _=>by simp) l
theorem nw_I(l:List Int):NwL (l.map eI):=nw_IS l
@[simp] theorem noO_B (l:List Int):noOL (l.map eB):=JH _ (fun _=>by simp) l
@[simp] theorem noO_Bo (l:List Bool):noOL (l.map eBo):=JH _ (fun _=>by simp) l
theorem Js(l:List Bool):NwL (l.map eBo):=O1G l
structure Vec where
 a:Int
 b:Int
 c:Int
 deriving DecidableEq,Inhabited
@[simp] def eVec (x:Vec):AV:=.agg [.int .i64 x.a,.int .i64 x.b,.int .i64 x.c]
@[simp] theorem J1K (l:List Vec):rdtL (l.map eVec)=l.map eVec:=Mq _ (fun _=>rfl) l
structure Node where
 leaf:Int
 cap:Vec
 deriving DecidableEq,Inhabited
@[simp] def V1 (x:Node):AV:=.agg [.int .i64 x.leaf,.int .i64 x.cap.a,.int .i64 x.cap.b,.int .i64 x.cap.c]
@[simp] theorem Z1H (l:List Node):noOL (l.map V1):=JH _ (fun _=>by simp) l
@[simp] theorem L1F (l:List Node):rdtL (l.map V1)=l.map V1:=Mq _ (fun _=>rfl) l
@[simp] theorem O1o (l:List Node):NwL (l.map V1):=VS _ (fun _=>by simp) l
theorem M2(l:List Node):NwL (l.map V1):=O1o l
structure Topo where
 parents:List Int
 nodes:List Node
 deriving DecidableEq,Inhabited
@[simp] def W4 (g:Tag)(x:Topo):AV:=.agg [.sl g 1 (x.parents.map eI),.sl g 4 (x.nodes.map V1)]
structure Job where
 id:Int
 prio:Int
 nodes:Int
 need:Vec
 lic:Vec
 wall:Int
 level:Int
 deriving DecidableEq,Inhabited
@[simp] def eJob (x:Job):AV:=.agg [.int .i64 x.id,.int .i64 x.prio,.int .i64 x.nodes,.int .i64 x.need.a,.int .i64 x.need.b,.int .i64 x.need.c,.int .i64 x.lic.a,.int .i64 x.lic.b,.int .i64 x.lic.c,.int .i64 x.wall,.int .i64 x.level]
@[simp] theorem V1L (l:List Job):noOL (l.map eJob):=JH _ (fun _=>by simp) l
@[simp] theorem Y1L (l:List Job):rdtL (l.map eJob)=l.map eJob:=Mq _ (fun _=>rfl) l
@[simp] theorem M1x (l:List Job):NwL (l.map eJob):=VS _ (fun _=>by simp) l
theorem WL(l:List Job):NwL (l.map eJob):=M1x l
structure Run where
 job:Job
 t:Int
 nodes:List Int
 deriving DecidableEq,Inhabited
@[simp] def Z1 (g:Tag)(x:Run):AV:=.agg [.int .i64 x.job.id,.int .i64 x.job.prio,.int .i64 x.job.nodes,.int .i64 x.job.need.a,.int .i64 x.job.need.b,.int .i64 x.job.need.c,.int .i64 x.job.lic.a,.int .i64 x.job.lic.b,.int .i64 x.job.lic.c,.int .i64 x.job.wall,.int .i64 x.job.level,.int .i64 x.t,.sl g 1 (x.nodes.map eI)]
@[simp] theorem Z1L (g:Tag)(l:List Run):rdtL (l.map (Z1 g))=l.map (Z1 .rd):=by
 rw[W2,List.map_map];exact List.map_congr_left fun x _=>by simp[AV.rdt,rdtL]
@[simp] theorem UR (l:List Run):NwL (l.map (Z1 .nw)):=VS _ (fun _=>by simp) l
@[simp] theorem J1x (l:List Run):noOL (l.map (Z1 .nw)):=JH _ (fun _=>by simp) l
structure End where
 id:Int
 t:Int
 why:Int
 deriving DecidableEq,Inhabited
@[simp] def eEnd (x:End):AV:=.agg [.int .i64 x.id,.int .i64 x.t,.int .i64 x.why]
@[simp] theorem U1L (l:List End):noOL (l.map eEnd):=JH _ (fun _=>by simp) l
@[simp] theorem X1L (l:List End):rdtL (l.map eEnd)=l.map eEnd:=Mq _ (fun _=>rfl) l
@[simp] theorem L1x (l:List End):NwL (l.map eEnd):=VS _ (fun _=>by simp) l
theorem J0a(l:List End):NwL (l.map eEnd):=L1x l
structure State where
 topo:Topo
 up:List Bool
 lic:Vec
 depth:Int
 now:Int
 queue:List Job
 runs:List Run
 ends:List End
 deriving DecidableEq,Inhabited
@[simp] def L2 (g:Tag)(x:State):AV:=.agg [.sl g 1 (x.topo.parents.map eI),.sl g 4 (x.topo.nodes.map V1),.sl g 1 (x.up.map eBo),.int .i64 x.lic.a,.int .i64 x.lic.b,.int .i64 x.lic.c,.int .i64 x.depth,.int .i64 x.now,.sl g 11 (x.queue.map eJob),.sl g 13 (x.runs.map (Z1 g)),.sl g 3 (x.ends.map eEnd)]
structure Bill where
 id:Int
 fr:Int
 to_:Int
 nodes:Int
 need:Vec
 deriving DecidableEq,Inhabited
@[simp] def Wc (x:Bill):AV:=.agg [.int .i64 x.id,.int .i64 x.fr,.int .i64 x.to_,.int .i64 x.nodes,.int .i64 x.need.a,.int .i64 x.need.b,.int .i64 x.need.c]
@[simp] theorem J1F (l:List Bill):rdtL (l.map Wc)=l.map Wc:=Mq _ (fun _=>rfl) l
@[simp] theorem M1o (l:List Bill):NwL (l.map Wc):=VS _ (fun _=>by simp) l
theorem M12(l:List Bill):NwL (l.map Wc):=M1o l
structure Owner where
 id:Int
 name:Str
 deriving DecidableEq,Inhabited
@[simp] def U01 (x:Owner):AV:=.agg [.int .i64 x.id,.str x.name]
@[simp] theorem L1A (l:List Owner):rdtL (l.map U01)=l.map U01:=Mq _ (fun _=>rfl) l
structure Account where
 name:Str
 share:Int
 used:Int
 deriving DecidableEq,Inhabited
@[simp] def O3 (x:Account):AV:=.agg [.str x.name,.int .i64 x.share,.int .i64 x.used]
@[simp] theorem L1r (l:List Account):rdtL (l.map O3)=l.map O3:=Mq _ (fun _=>rfl) l
@[simp] theorem L12 (l:List Account):NwL (l.map O3):=VS _ (fun _=>by simp) l
theorem O08(l:List Account):NwL (l.map O3):=L12 l
structure Pt where
 t:Int
 free:Vec
 deriving DecidableEq,Inhabited
@[simp] def ePt (x:Pt):AV:=.agg [.int .i64 x.t,.int .i64 x.free.a,.int .i64 x.free.b,.int .i64 x.free.c]
@[simp] theorem noO_PtS (l:List Pt):noOL (l.map ePt):=JH _ (fun _=>by simp) l
@[simp] theorem rdt_PtS (l:List Pt):rdtL (l.map ePt)=l.map ePt:=Mq _ (fun _=>rfl) l
@[simp] theorem W1G (l:List Pt):NwL (l.map ePt):=VS _ (fun _=>by simp) l
theorem Ji(l:List Pt):NwL (l.map ePt):=W1G l
@[simp] def V2 (g:Tag)(x:List Pt):AV:=.agg [.sl g 4 (x.map ePt)]
@[simp] theorem M1F (g:Tag)(l:List (List Pt)):rdtL (l.map (V2 g))=l.map (V2 .rd):=by
 rw[W2,List.map_map];exact List.map_congr_left fun x _=>by simp[AV.rdt,rdtL]
@[simp] theorem M7 (l:List (List Pt)):NwL (l.map (V2 .nw)):=VS _ (fun _=>by simp) l
@[simp] theorem U1s (l:List (List Pt)):noOL (l.map (V2 .nw)):=JH _ (fun _=>by simp) l
structure Room where
 topo:Topo
 up:List Bool
 profs:List (List Pt)
 lics:List Pt
 deriving DecidableEq,Inhabited
@[simp] def Xj (g:Tag)(x:Room):AV:=.agg [.sl g 1 (x.topo.parents.map eI),.sl g 4 (x.topo.nodes.map V1),.sl g 1 (x.up.map eBo),.sl g 1 (x.profs.map (V2 g)),.sl g 4 (x.lics.map ePt)]
structure l01Cur where
 b:List Int
 i:Int
 h:Int
 deriving DecidableEq,Inhabited
@[simp] def U0 (g:Tag)(x:l01Cur):AV:=.agg [.sl g 1 (x.b.map eB),.int .i64 x.i,.int .i64 x.h]
structure Held where
 id:Int
 t:Int
 nodes:List Int
 deriving DecidableEq,Inhabited
@[simp] def X06 (g:Tag)(x:Held):AV:=.agg [.int .i64 x.id,.int .i64 x.t,.sl g 1 (x.nodes.map eI)]
end Go.Proofs.YtpgaganbacipnaaGreat

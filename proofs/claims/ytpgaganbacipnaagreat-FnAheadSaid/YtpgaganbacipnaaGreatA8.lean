/-
  Lemmas, part 8.
-/
import Derived.Test.YtpgaganbacipnaaGreatA7
import Derived.Test.YtpgaganbacipnaaGreatRows
namespace Go.Proofs.YtpgaganbacipnaaGreat
open Go Go.RowKit Eng
def LG:Nat:=6
def O0h:Nat:=23
def O04:Nat:=28
def O0A:Nat:=29
def W0z:Nat:=30
def X0R:Nat:=31
def J0b:Nat:=32
def Q0q:Nat:=33
def Y0R:Nat:=34
def W0A:Nat:=35
def V0i:Nat:=39
def Y01:Nat:=40
def QG:Nat:=41
def V0:Nat:=43
def Z0c:Nat:=45
def Z0A:Nat:=46
def L04:Nat:=47
def M04:Nat:=49
def W0b:Nat:=55
def Z0h:Nat:=56
def L0g:Nat:=57
def L0a:Nat:=58
def Z0r:Nat:=63
def Y0c:Nat:=64
def QM:Nat:=65
def WG:Nat:=66
def L0p:Nat:=79
def L0h:Nat:=80
def JQ:Nat:=81
def X0q:Nat:=82
def U9:Nat:=89
def V0A:Nat:=91
def Z0z:Nat:=92
def Wl:Nat:=94
def Z0i:Nat:=96
def O0p:Nat:=97
def J0g:Nat:=98
def Z0b:Nat:=99
def U7:Nat:=100
def O01:Nat:=101
def Q0i:Nat:=102
def ZR:Nat:=103
def J0z:Nat:=104
def X0r:Nat:=105
def WA:Nat:=106
def Ob:Nat:=107
def W6:Nat:=108
def OA:Nat:=109
def L0b:Nat:=110
def Z4:Nat:=111
def Xt:Nat:=112
def V0b:Nat:=114
def Yt:Nat:=118
def W0a:Nat:=119
def Q0p:Nat:=121
def L0q:Nat:=122
def M01:Nat:=123
def Y0A:Nat:=124
def L0z:Nat:=125
def Yo:Nat:=126
def J0q:Nat:=127
def Of:Nat:=128
def Qi:Nat:=129
def ZW:Nat:=130
def VY:Nat:=131
def M0q:Nat:=132
def X0b:Nat:=133
def OG:Nat:=134
def MG:Nat:=135
def WM:Nat:=136
def U0z:Nat:=137
def V0q:Nat:=138
def Z0R:Nat:=139
def J0p:Nat:=140
def Z0q:Nat:=141
def MV:Nat:=142
def Y0a:Nat:=145
def U0h:Nat:=146
def M0h:Nat:=147
def W0h:Nat:=148
def Q0a:Nat:=149
def V0z:Nat:=150
def V0k:Nat:=162
def X0i:Nat:=163
def Q0A:Nat:=164
def Wb:Nat:=165
def M0g:Nat:=166
def Y02:Nat:=167
def Mf:Nat:=168
def X0a:Nat:=169
def M0p:Nat:=170
def V0a:Nat:=171
def U0p:Nat:=172
def W01:Nat:=173
def V0p:Nat:=174
def Me:Nat:=175
def O0q:Nat:=176
def X0A:Nat:=177
def M0b:Nat:=178
def U0A:Nat:=179
def OM:Nat:=180
def YB:Nat:=191
def Z01:Nat:=192
def W0q:Nat:=193
def YW:Nat:=194
def VT:Nat:=195
def U0b:Nat:=196
def Y0r:Nat:=197
def L01:Nat:=198
def YR:Nat:=199
def V8:Nat:=200
def J01:Nat:=201
def J04:Nat:=203
def Z02:Nat:=204
def O0z:Nat:=205
def Zt:Nat:=206
def O0b:Nat:=207
def UM:Nat:=208
def Js:Nat:=209
def Ls:Nat:=210
def OV:Nat:=211
def W0p:Nat:=212
def JV:Nat:=213
def Q0h:Nat:=214
def M0a:Nat:=215
def Zl:Nat:=216
def O0g:Nat:=217
def M0z:Nat:=218
def U0i:Nat:=219
def Y0q:Nat:=220
def Y0h:Nat:=221
def J0h:Nat:=222
def LV:Nat:=223
def U0q:Nat:=224
def J0a:Nat:=225
def Q0z:Nat:=226
def Q0b:Nat:=232
def Y0b:Nat:=233
def O0a:Nat:=244
def X0h:Nat:=245
def W04:Nat:=246
def Jd:Nat:=247
def Y0i:Nat:=248
def X0z:Nat:=249
def U01:Nat:=250
def Q04:Nat:=251
def Y0z:Nat:=252
def V0h:Nat:=253
def QK:Nat:=254
def U0a:Nat:=268
def Q01:Nat:=269
def V01:Nat:=270
def X01:Nat:=272
theorem Tryz.own:ownKnob Tryz.prog.godebug=none:=by kernel_rfl
theorem Tryz.laidOut:laidOutB Tryz.prog=true:=by kernel_rfl
namespace Eng
theorem UL{α:Type}(e:α->AV)(h:∀x,(e x).rdt=e x)(l:List α):rdtL (l.map e)=l.map e:=by
 rw[L2,List.map_map]
 exact List.map_congr_left fun x _=>h x
theorem J00{α:Type}(e:α->AV)(h:∀x,Nw (e x))(l:List α):NwL (l.map e):=by
 rw[L00]
 intro a ha
 obtain⟨x,_,rfl⟩:=yY ha
 exact h x
structure Tok(I:Nat->St->Prop):Type where mk ::
def rng(n:Nat)(I:Nat->St->Prop)(_:Tok I)(m:Nat)(s:St):Prop:=∃i,m=n-i/\i<=n/\I i s
theorem W_rng{P:Program}{R:Ex->St->Prop}{k:List It}{s:St}{x:L}(n:Nat)(I:Nat->St->Prop)(h0:I 0 s)
  (h:∀i s',i<=n->I i s'->W P R (.l x::.lp (rng n I ⟨⟩) (n-i)::k) s'):W P R (.l (.loop x)::k) s :=
 W1D (rng n I ⟨⟩) n ⟨0,by simp[h0]⟩ fun _ s' ⟨i,e,hi,hI⟩=>by rw[e];exact h i s' hi hI
structure TokJ(J:St->Prop):Type where mk ::
def beh(J:St->Prop)(_:TokJ J)(s:St):Prop:=J s
theorem V1L{J:St->Prop}{t:TokJ J}{s:St}(h:J s):beh J t s:=h
theorem M20{P:Program}{R:Ex->St->Prop}{k:List It}{s:St}{x:L}{id:Nat}(n:Nat)(I:Nat->St->Prop)(J:St->Prop)(h0:I 0 s)
  (h:∀i s',i<=n->I i s'->W P R (.l x::.lp (rng n I ⟨⟩) (n-i)::.mk id::.jn (beh J ⟨⟩)::k) s') (hk:∀s',J s'->W P R k s'):W P R (.l (.loop x)::.mk id::k) s:=by
 have h1:W P R (.l (.loop x)::.mk id::.jn (beh J ⟨⟩)::k) s:=W_rng n I h0 h
 refine O19 (K:=denK P R (.mk id::.jn (beh J ⟨⟩)::k)) (K':=denK P R (.mk id::k)) (fun e s' q=>?_) h1
 have jn:∀e s',denK P R (.jn (beh J ⟨⟩)::k) e s'->denK P R k e s':=fun e s' q=>by
  cases e with
  |nrm=>exact hk s' q
  |ext i=>exact q
  |ret=>exact q
 cases e with
 |nrm=>exact jn .nrm s' q
 |ext i =>
  rw[V0Q]at q ⊢
  split
  .rename_i e;rw[yd e]at q;exact jn .nrm s' q
  .rename_i e;rw[ye e]at q;exact jn (.ext i) s' q
 |ret=>exact jn .ret s' q
theorem O1E{n i:Nat}{I:Nat->St->Prop}{t:Tok I}{s:St}(h:i<n)(hI:I (i+1) s):∃m',m'<n-i/\rng n I t m' s:=⟨n-(i+1),by omega,i+1,rfl,h,hI⟩
attribute [simp] wop.eq_38 wop.eq_40 St.hi St.lo
theorem O1P{α:Type}(e:α->AV){es:List AV}(h:∀x∈es,∃y,x=e y):∃l:List α,es=l.map e:=by
 induction es with
 |nil=>exact⟨[],rfl⟩
 |cons a es ih =>
  obtain⟨y,hy⟩:=h a (by simp)
  obtain⟨l,hl⟩:=ih fun x hx=>h x (by simp[hx])
  exact⟨y::l,by simp[hy,hl]⟩
end Eng
def w64(n:Int):Int:=IntKind.i64.wrap n
@[simp] def eI (n:Int):AV:=.int .i64 n
@[simp] theorem rdt_IS (l:List Int):rdtL (l.map eI)=l.map eI:=UL _ (fun _=>rfl) l
@[simp] theorem nw_IS (l:List Int):NwL (l.map eI):=J00 _ (fun _=>by simp) l
@[simp] def eB (n:Int):AV:=.int .u8 n
@[simp] theorem rdt_BS (l:List Int):rdtL (l.map eB)=l.map eB:=UL _ (fun _=>rfl) l
@[simp] def eBo (b:Bool):AV:=.bool b
@[simp] theorem rdt_BoS (l:List Bool):rdtL (l.map eBo)=l.map eBo:=UL _ (fun _=>rfl) l
@[simp] theorem Y1X (l:List Bool):NwL (l.map eBo):=J00 _ (fun _=>by simp) l
@[simp] theorem noO_I (l:List Int):noOL (l.map eI):=QF _ (fun _=>by simp) l
theorem nw_I(l:List Int):NwL (l.map eI):=nw_IS l
@[simp] theorem noO_B (l:List Int):noOL (l.map eB):=QF _ (fun _=>by simp) l
@[simp] theorem noO_Bo (l:List Bool):noOL (l.map eBo):=QF _ (fun _=>by simp) l
theorem Yg(l:List Bool):NwL (l.map eBo):=Y1X l
structure Vec where
 a:Int
 b:Int
 c:Int
 deriving DecidableEq,Inhabited
@[simp] def eVec (x:Vec):AV:=.agg [.int .i64 x.a,.int .i64 x.b,.int .i64 x.c]
@[simp] theorem M21 (l:List Vec):rdtL (l.map eVec)=l.map eVec:=UL _ (fun _=>rfl) l
structure Node where
 leaf:Int
 cap:Vec
 deriving DecidableEq,Inhabited
@[simp] def Y1 (x:Node):AV:=.agg [.int .i64 x.leaf,.int .i64 x.cap.a,.int .i64 x.cap.b,.int .i64 x.cap.c]
@[simp] theorem W1X (l:List Node):noOL (l.map Y1):=QF _ (fun _=>by simp) l
@[simp] theorem Q1W (l:List Node):rdtL (l.map Y1)=l.map Y1:=UL _ (fun _=>rfl) l
@[simp] theorem V1F (l:List Node):NwL (l.map Y1):=J00 _ (fun _=>by simp) l
theorem J1(l:List Node):NwL (l.map Y1):=V1F l
structure Topo where
 parents:List Int
 nodes:List Node
 deriving DecidableEq,Inhabited
@[simp] def X4 (g:Tag)(x:Topo):AV:=.agg [.sl g 1 (x.parents.map eI),.sl g 4 (x.nodes.map Y1)]
structure Job where
 id:Int
 prio:Int
 nodes:Int
 need:Vec
 lic:Vec
 wall:Int
 level:Int
 deriving DecidableEq,Inhabited
@[simp] def eJob (x:Job):AV:=.agg [.int .i64 x.id,.int .i64 x.prio,.int .i64 x.nodes,.int .i64 x.need.a,.int .i64 x.need.b,.int .i64 x.need.c,.int .i64 x.lic.a,.int .i64 x.lic.b,.int .i64 x.lic.c,.int .i64 x.wall,.int .i64 x.level]
@[simp] theorem X22 (l:List Job):noOL (l.map eJob):=QF _ (fun _=>by simp) l
@[simp] theorem Z22 (l:List Job):rdtL (l.map eJob)=l.map eJob:=UL _ (fun _=>rfl) l
@[simp] theorem J1O (l:List Job):NwL (l.map eJob):=J00 _ (fun _=>by simp) l
theorem Lh(l:List Job):NwL (l.map eJob):=J1O l
structure Run where
 job:Job
 t:Int
 nodes:List Int
 deriving DecidableEq,Inhabited
@[simp] def Z1 (g:Tag)(x:Run):AV:=.agg [.int .i64 x.job.id,.int .i64 x.job.prio,.int .i64 x.job.nodes,.int .i64 x.job.need.a,.int .i64 x.job.need.b,.int .i64 x.job.need.c,.int .i64 x.job.lic.a,.int .i64 x.job.lic.b,.int .i64 x.job.lic.c,.int .i64 x.job.wall,.int .i64 x.job.level,.int .i64 x.t,.sl g 1 (x.nodes.map eI)]
@[simp] theorem L21 (g:Tag)(l:List Run):rdtL (l.map (Z1 g))=l.map (Z1 .rd):=by
 rw[L2,List.map_map];exact List.map_congr_left fun x _=>by simp[AV.rdt,rdtL]
@[simp] theorem Zg (l:List Run):NwL (l.map (Z1 .nw)):=J00 _ (fun _=>by simp) l
@[simp] theorem Y1P (l:List Run):noOL (l.map (Z1 .nw)):=QF _ (fun _=>by simp) l
structure End where
 id:Int
 t:Int
 why:Int
 deriving DecidableEq,Inhabited
@[simp] def eEnd (x:End):AV:=.agg [.int .i64 x.id,.int .i64 x.t,.int .i64 x.why]
@[simp] theorem V22 (l:List End):noOL (l.map eEnd):=QF _ (fun _=>by simp) l
@[simp] theorem Y22 (l:List End):rdtL (l.map eEnd)=l.map eEnd:=UL _ (fun _=>rfl) l
@[simp] theorem Z1P (l:List End):NwL (l.map eEnd):=J00 _ (fun _=>by simp) l
theorem Lr(l:List End):NwL (l.map eEnd):=Z1P l
structure State where
 topo:Topo
 up:List Bool
 lic:Vec
 depth:Int
 now:Int
 queue:List Job
 runs:List Run
 ends:List End
 deriving DecidableEq,Inhabited
@[simp] def X2 (g:Tag)(x:State):AV:=.agg [.sl g 1 (x.topo.parents.map eI),.sl g 4 (x.topo.nodes.map Y1),.sl g 1 (x.up.map eBo),.int .i64 x.lic.a,.int .i64 x.lic.b,.int .i64 x.lic.c,.int .i64 x.depth,.int .i64 x.now,.sl g 11 (x.queue.map eJob),.sl g 13 (x.runs.map (Z1 g)),.sl g 3 (x.ends.map eEnd)]
structure Seen where
 id:Int
 start:Int
 fin:Int
 deriving DecidableEq,Inhabited
@[simp] def Wi (x:Seen):AV:=.agg [.int .i64 x.id,.int .i64 x.start,.int .i64 x.fin]
@[simp] theorem Q1X (l:List Seen):noOL (l.map Wi):=QF _ (fun _=>by simp) l
@[simp] theorem V1W (l:List Seen):rdtL (l.map Wi)=l.map Wi:=UL _ (fun _=>rfl) l
@[simp] theorem X1F (l:List Seen):NwL (l.map Wi):=J00 _ (fun _=>by simp) l
theorem J0t(l:List Seen):NwL (l.map Wi):=X1F l
structure Pt where
 t:Int
 free:Vec
 deriving DecidableEq,Inhabited
@[simp] def ePt (x:Pt):AV:=.agg [.int .i64 x.t,.int .i64 x.free.a,.int .i64 x.free.b,.int .i64 x.free.c]
@[simp] theorem noO_PtS (l:List Pt):noOL (l.map ePt):=QF _ (fun _=>by simp) l
@[simp] theorem rdt_PtS (l:List Pt):rdtL (l.map ePt)=l.map ePt:=UL _ (fun _=>rfl) l
@[simp] theorem Z1X (l:List Pt):NwL (l.map ePt):=J00 _ (fun _=>by simp) l
theorem Oj(l:List Pt):NwL (l.map ePt):=Z1X l
@[simp] def Y2 (g:Tag)(x:List Pt):AV:=.agg [.sl g 4 (x.map ePt)]
@[simp] theorem U1W (g:Tag)(l:List (List Pt)):rdtL (l.map (Y2 g))=l.map (Y2 .rd):=by
 rw[L2,List.map_map];exact List.map_congr_left fun x _=>by simp[AV.rdt,rdtL]
@[simp] theorem X7 (l:List (List Pt)):NwL (l.map (Y2 .nw)):=J00 _ (fun _=>by simp) l
@[simp] theorem W1J (l:List (List Pt)):noOL (l.map (Y2 .nw)):=QF _ (fun _=>by simp) l
structure Room where
 topo:Topo
 up:List Bool
 profs:List (List Pt)
 lics:List Pt
 deriving DecidableEq,Inhabited
@[simp] def V9 (g:Tag)(x:Room):AV:=.agg [.sl g 1 (x.topo.parents.map eI),.sl g 4 (x.topo.nodes.map Y1),.sl g 1 (x.up.map eBo),.sl g 1 (x.profs.map (Y2 g)),.sl g 4 (x.lics.map ePt)]
structure l01Cur where
 b:List Int
 i:Int
 h:Int
 deriving DecidableEq,Inhabited
@[simp] def U0 (g:Tag)(x:l01Cur):AV:=.agg [.sl g 1 (x.b.map eB),.int .i64 x.i,.int .i64 x.h]
structure Held where
 id:Int
 t:Int
 nodes:List Int
 deriving DecidableEq,Inhabited
@[simp] def Vq (g:Tag)(x:Held):AV:=.agg [.int .i64 x.id,.int .i64 x.t,.sl g 1 (x.nodes.map eI)]
end Go.Proofs.YtpgaganbacipnaaGreat

/-
  Lemmas, part 8.
-/
import Derived.Test.YtpgaganbacipnaaGreatS7
import Derived.Test.YtpgaganbacipnaaGreatRows
namespace Go.Proofs.YtpgaganbacipnaaGreat
open Go Go.RowKit Eng
def MQ:Nat:=5
def JO:Nat:=21
def M08:Nat:=22
def W0l:Nat:=23
def W08:Nat:=24
def Z0u:Nat:=25
def L08:Nat:=26
def O0m:Nat:=27
def U0m:Nat:=39
def V05:Nat:=40
def U0:Nat:=43
def U0g:Nat:=45
def W0B:Nat:=46
def O08:Nat:=47
def Q08:Nat:=49
def J0f:Nat:=55
def J0k:Nat:=56
def M0k:Nat:=57
def Y0f:Nat:=58
def M0t:Nat:=63
def UQ:Nat:=65
def UK:Nat:=66
def X0g:Nat:=73
def V0B:Nat:=74
def Y0m:Nat:=75
def W0m:Nat:=76
def W0f:Nat:=77
def Z0m:Nat:=78
def W0s:Nat:=79
def M0l:Nat:=80
def ZV:Nat:=81
def J0s:Nat:=82
def J0B:Nat:=83
def X0t:Nat:=84
def V0g:Nat:=85
def Zj:Nat:=86
def OX:Nat:=87
def Q0f:Nat:=88
def X4:Nat:=89
def Mh:Nat:=90
def U0s:Nat:=97
def L0k:Nat:=98
def V0f:Nat:=99
def V9:Nat:=100
def L05:Nat:=101
def Q0m:Nat:=102
def YV:Nat:=103
def Q0B:Nat:=104
def J0t:Nat:=105
def QQ:Nat:=106
def Xe:Nat:=107
def J7:Nat:=108
def ZF:Nat:=109
def Y0g:Nat:=110
def Q2:Nat:=111
def Mv:Nat:=112
def O0f:Nat:=114
def Ov:Nat:=118
def L0e:Nat:=119
def X0s:Nat:=121
def W0t:Nat:=122
def J05:Nat:=123
def O0B:Nat:=124
def U0B:Nat:=125
def Yr:Nat:=126
def O0t:Nat:=127
def QL:Nat:=128
def Zz:Nat:=129
def QK:Nat:=134
def WK:Nat:=135
def WQ:Nat:=136
def Y0B:Nat:=137
def Z0t:Nat:=138
def X0S:Nat:=139
def O0s:Nat:=140
def M0s:Nat:=141
def LZ:Nat:=142
def U0e:Nat:=145
def V0l:Nat:=146
def O0l:Nat:=147
def Q0l:Nat:=148
def M0e:Nat:=149
def Z0B:Nat:=150
def V0m:Nat:=151
def X0m:Nat:=152
def V0t:Nat:=153
def J0l:Nat:=154
def Jy:Nat:=155
def Oj:Nat:=156
def W5:Nat:=157
def OK:Nat:=158
def Mj:Nat:=159
def UF:Nat:=160
def Jg:Nat:=161
def O0k:Nat:=166
def Q0e:Nat:=169
def Q0s:Nat:=170
def W0e:Nat:=171
def Y0s:Nat:=172
def M05:Nat:=173
def Z0s:Nat:=174
def Oh:Nat:=175
def Q0t:Nat:=176
def M0B:Nat:=177
def Z0g:Nat:=178
def L0B:Nat:=179
def OQ:Nat:=180
def VF:Nat:=191
def X05:Nat:=192
def U0t:Nat:=193
def Y00:Nat:=194
def MX:Nat:=195
def M0f:Nat:=196
def L0t:Nat:=197
def Z06:Nat:=198
def XV:Nat:=199
def Va:Nat:=200
def Y06:Nat:=201
def J08:Nat:=203
def VQ:Nat:=208
def Wv:Nat:=209
def Qv:Nat:=210
def MZ:Nat:=211
def V0s:Nat:=212
def Z00:Nat:=213
def U0l:Nat:=214
def Z0f:Nat:=215
def L0s:Nat:=220
def Z0l:Nat:=221
def L0l:Nat:=222
def JZ:Nat:=223
def Y0t:Nat:=224
def X0f:Nat:=225
def X0B:Nat:=226
def L0f:Nat:=232
def U0f:Nat:=233
def J0e:Nat:=244
def Y0l:Nat:=245
def U08:Nat:=246
def J0A:Nat:=249
def W05:Nat:=250
def V08:Nat:=251
def L0A:Nat:=252
def X0l:Nat:=253
def WO:Nat:=254
def O0e:Nat:=268
def O05:Nat:=269
def Q05:Nat:=270
def U05:Nat:=272
theorem Tryz.own:ownKnob Tryz.prog.godebug=none:=by kernel_rfl
theorem Tryz.laidOut:laidOutB Tryz.prog=true:=by kernel_rfl
abbrev Str:=List UInt8
namespace Eng
theorem OP{α:Type}(e:α->AV)(h:∀x,(e x).rdt=e x)(l:List α):rdtL (l.map e)=l.map e:=by
 rw[X3,List.map_map]
 exact List.map_congr_left fun x _=>h x
theorem Y05{α:Type}(e:α->AV)(h:∀x,Nw (e x))(l:List α):NwL (l.map e):=by
 rw[Z05]
 intro a ha
 obtain⟨x,_,rfl⟩:=yY ha
 exact h x
structure Tok(I:Nat->St->Prop):Type where mk ::
def rng(n:Nat)(I:Nat->St->Prop)(_:Tok I)(m:Nat)(s:St):Prop:=∃i,m=n-i/\i<=n/\I i s
theorem W_rng{P:Program}{R:Ex->St->Prop}{k:List It}{s:St}{x:L}(n:Nat)(I:Nat->St->Prop)(h0:I 0 s)
  (h:∀i s',i<=n->I i s'->W P R (.l x::.lp (rng n I ⟨⟩) (n-i)::k) s'):W P R (.l (.loop x)::k) s :=
 Q1D (rng n I ⟨⟩) n ⟨0,by simp[h0]⟩ fun _ s' ⟨i,e,hi,hI⟩=>by rw[e];exact h i s' hi hI
structure TokJ(J:St->Prop):Type where mk ::
def beh(J:St->Prop)(_:TokJ J)(s:St):Prop:=J s
theorem V1L{J:St->Prop}{t:TokJ J}{s:St}(h:J s):beh J t s:=h
theorem O22{P:Program}{R:Ex->St->Prop}{k:List It}{s:St}{x:L}{id:Nat}(n:Nat)(I:Nat->St->Prop)(J:St->Prop)(h0:I 0 s)
  (h:∀i s',i<=n->I i s'->W P R (.l x::.lp (rng n I ⟨⟩) (n-i)::.mk id::.jn (beh J ⟨⟩)::k) s') (hk:∀s',J s'->W P R k s'):W P R (.l (.loop x)::.mk id::k) s:=by
 have h1:W P R (.l (.loop x)::.mk id::.jn (beh J ⟨⟩)::k) s:=W_rng n I h0 h
 refine J18 (K:=denK P R (.mk id::.jn (beh J ⟨⟩)::k)) (K':=denK P R (.mk id::k)) (fun e s' q=>?_) h1
 have jn:∀e s',denK P R (.jn (beh J ⟨⟩)::k) e s'->denK P R k e s':=fun e s' q=>by
  cases e with
  |nrm=>exact hk s' q
  |ext i=>exact q
  |ret=>exact q
 cases e with
 |nrm=>exact jn .nrm s' q
 |ext i =>
  rw[O0R]at q ⊢
  split
  .rename_i e;rw[yd e]at q;exact jn .nrm s' q
  .rename_i e;rw[ye e]at q;exact jn (.ext i) s' q
 |ret=>exact jn .ret s' q
theorem L1E{n i:Nat}{I:Nat->St->Prop}{t:Tok I}{s:St}(h:i<n)(hI:I (i+1) s):∃m',m'<n-i/\rng n I t m' s:=⟨n-(i+1),by omega,i+1,rfl,h,hI⟩
attribute [simp] wop.eq_38 wop.eq_40 St.hi St.lo
theorem W1Q{α:Type}(e:α->AV){es:List AV}(h:∀x∈es,∃y,x=e y):∃l:List α,es=l.map e:=by
 induction es with
 |nil=>exact⟨[],rfl⟩
 |cons a es ih =>
  obtain⟨y,hy⟩:=h a (by simp)
  obtain⟨l,hl⟩:=ih fun x hx=>h x (by simp[hx])
  exact⟨y::l,by simp[hy,hl]⟩
end Eng
def w64(n:Int):Int:=IntKind.i64.wrap n
@[simp] def eI (n:Int):AV:=.int .i64 n
@[simp] theorem rdt_IS (l:List Int):rdtL (l.map eI)=l.map eI:=OP _ (fun _=>rfl) l
@[simp] theorem nw_IS (l:List Int):NwL (l.map eI):=Y05 _ (fun _=>by simp) l
@[simp] def eS (s:Str):AV:=.str s
@[simp] theorem rdt_SS (l:List Str):rdtL (l.map eS)=l.map eS:=OP _ (fun _=>rfl) l
@[simp] theorem nw_SS (l:List Str):NwL (l.map eS):=Y05 _ (fun _=>by simp) l
@[simp] def eB (n:Int):AV:=.int .u8 n
@[simp] theorem rdt_BS (l:List Int):rdtL (l.map eB)=l.map eB:=OP _ (fun _=>rfl) l
@[simp] def eBo (b:Bool):AV:=.bool b
@[simp] theorem rdt_BoS (l:List Bool):rdtL (l.map eBo)=l.map eBo:=OP _ (fun _=>rfl) l
@[simp] theorem Y1Z (l:List Bool):NwL (l.map eBo):=Y05 _ (fun _=>by simp) l
@[simp] theorem noO_I (l:List Int):noOL (l.map eI):=MJ _ (fun _=>by simp) l
theorem nw_I(l:List Int):NwL (l.map eI):=nw_IS l
@[simp] theorem noO_S (l:List Str):noOL (l.map eS):=MJ _ (fun _=>by simp) l
theorem nw_S(l:List Str):NwL (l.map eS):=nw_SS l
@[simp] theorem noO_B (l:List Int):noOL (l.map eB):=MJ _ (fun _=>by simp) l
@[simp] theorem noO_Bo (l:List Bool):noOL (l.map eBo):=MJ _ (fun _=>by simp) l
theorem Qs(l:List Bool):NwL (l.map eBo):=Y1Z l
structure Vec where
 a:Int
 b:Int
 c:Int
 deriving DecidableEq,Inhabited
@[simp] def eVec (x:Vec):AV:=.agg [.int .i64 x.a,.int .i64 x.b,.int .i64 x.c]
@[simp] theorem O23 (l:List Vec):rdtL (l.map eVec)=l.map eVec:=OP _ (fun _=>rfl) l
structure Node where
 leaf:Int
 cap:Vec
 deriving DecidableEq,Inhabited
@[simp] def V1 (x:Node):AV:=.agg [.int .i64 x.leaf,.int .i64 x.cap.a,.int .i64 x.cap.b,.int .i64 x.cap.c]
@[simp] theorem Q1Z (l:List Node):noOL (l.map V1):=MJ _ (fun _=>by simp) l
@[simp] theorem Z1Y (l:List Node):rdtL (l.map V1)=l.map V1:=OP _ (fun _=>rfl) l
@[simp] theorem Q1F (l:List Node):NwL (l.map V1):=Y05 _ (fun _=>by simp) l
theorem O2(l:List Node):NwL (l.map V1):=Q1F l
structure Topo where
 parents:List Int
 nodes:List Node
 deriving DecidableEq,Inhabited
@[simp] def U5 (g:Tag)(x:Topo):AV:=.agg [.sl g 1 (x.parents.map eI),.sl g 4 (x.nodes.map V1)]
structure Job where
 id:Int
 prio:Int
 nodes:Int
 need:Vec
 lic:Vec
 wall:Int
 level:Int
 deriving DecidableEq,Inhabited
@[simp] def eJob (x:Job):AV:=.agg [.int .i64 x.id,.int .i64 x.prio,.int .i64 x.nodes,.int .i64 x.need.a,.int .i64 x.need.b,.int .i64 x.need.c,.int .i64 x.lic.a,.int .i64 x.lic.b,.int .i64 x.lic.c,.int .i64 x.wall,.int .i64 x.level]
@[simp] theorem Y24 (l:List Job):noOL (l.map eJob):=MJ _ (fun _=>by simp) l
@[simp] theorem L23 (l:List Job):rdtL (l.map eJob)=l.map eJob:=OP _ (fun _=>rfl) l
@[simp] theorem O1P (l:List Job):NwL (l.map eJob):=Y05 _ (fun _=>by simp) l
theorem MC(l:List Job):NwL (l.map eJob):=O1P l
structure Run where
 job:Job
 t:Int
 nodes:List Int
 deriving DecidableEq,Inhabited
@[simp] def X1 (g:Tag)(x:Run):AV:=.agg [.int .i64 x.job.id,.int .i64 x.job.prio,.int .i64 x.job.nodes,.int .i64 x.job.need.a,.int .i64 x.job.need.b,.int .i64 x.job.need.c,.int .i64 x.job.lic.a,.int .i64 x.job.lic.b,.int .i64 x.job.lic.c,.int .i64 x.job.wall,.int .i64 x.job.level,.int .i64 x.t,.sl g 1 (x.nodes.map eI)]
@[simp] theorem M23 (g:Tag)(l:List Run):rdtL (l.map (X1 g))=l.map (X1 .rd):=by
 rw[X3,List.map_map];exact List.map_congr_left fun x _=>by simp[AV.rdt,rdtL]
@[simp] theorem OC (l:List Run):NwL (l.map (X1 .nw)):=Y05 _ (fun _=>by simp) l
@[simp] theorem J1P (l:List Run):noOL (l.map (X1 .nw)):=MJ _ (fun _=>by simp) l
structure End where
 id:Int
 t:Int
 why:Int
 deriving DecidableEq,Inhabited
@[simp] def eEnd (x:End):AV:=.agg [.int .i64 x.id,.int .i64 x.t,.int .i64 x.why]
@[simp] theorem X24 (l:List End):noOL (l.map eEnd):=MJ _ (fun _=>by simp) l
@[simp] theorem Z24 (l:List End):rdtL (l.map eEnd)=l.map eEnd:=OP _ (fun _=>rfl) l
@[simp] theorem M1P (l:List End):NwL (l.map eEnd):=Y05 _ (fun _=>by simp) l
theorem VW(l:List End):NwL (l.map eEnd):=M1P l
structure State where
 topo:Topo
 up:List Bool
 lic:Vec
 depth:Int
 now:Int
 queue:List Job
 runs:List Run
 ends:List End
 deriving DecidableEq,Inhabited
@[simp] def Y3 (g:Tag)(x:State):AV:=.agg [.sl g 1 (x.topo.parents.map eI),.sl g 4 (x.topo.nodes.map V1),.sl g 1 (x.up.map eBo),.int .i64 x.lic.a,.int .i64 x.lic.b,.int .i64 x.lic.c,.int .i64 x.depth,.int .i64 x.now,.sl g 11 (x.queue.map eJob),.sl g 13 (x.runs.map (X1 g)),.sl g 3 (x.ends.map eEnd)]
structure Pt where
 t:Int
 free:Vec
 deriving DecidableEq,Inhabited
@[simp] def ePt (x:Pt):AV:=.agg [.int .i64 x.t,.int .i64 x.free.a,.int .i64 x.free.b,.int .i64 x.free.c]
@[simp] theorem noO_PtS (l:List Pt):noOL (l.map ePt):=MJ _ (fun _=>by simp) l
@[simp] theorem rdt_PtS (l:List Pt):rdtL (l.map ePt)=l.map ePt:=OP _ (fun _=>rfl) l
@[simp] theorem Z1Z (l:List Pt):NwL (l.map ePt):=Y05 _ (fun _=>by simp) l
theorem Vo(l:List Pt):NwL (l.map ePt):=Z1Z l
@[simp] def Z3 (g:Tag)(x:List Pt):AV:=.agg [.sl g 4 (x.map ePt)]
@[simp] theorem J1X (g:Tag)(l:List (List Pt)):rdtL (l.map (Z3 g))=l.map (Z3 .rd):=by
 rw[X3,List.map_map];exact List.map_congr_left fun x _=>by simp[AV.rdt,rdtL]
@[simp] theorem Wa (l:List (List Pt)):NwL (l.map (Z3 .nw)):=Y05 _ (fun _=>by simp) l
@[simp] theorem Q1J (l:List (List Pt)):noOL (l.map (Z3 .nw)):=MJ _ (fun _=>by simp) l
structure Room where
 topo:Topo
 up:List Bool
 profs:List (List Pt)
 lics:List Pt
 deriving DecidableEq,Inhabited
@[simp] def Lo (g:Tag)(x:Room):AV:=.agg [.sl g 1 (x.topo.parents.map eI),.sl g 4 (x.topo.nodes.map V1),.sl g 1 (x.up.map eBo),.sl g 1 (x.profs.map (Z3 g)),.sl g 4 (x.lics.map ePt)]
structure l01Cur where
 b:List Int
 i:Int
 h:Int
 deriving DecidableEq,Inhabited
@[simp] def Q0 (g:Tag)(x:l01Cur):AV:=.agg [.sl g 1 (x.b.map eB),.int .i64 x.i,.int .i64 x.h]
structure Held where
 id:Int
 t:Int
 nodes:List Int
 deriving DecidableEq,Inhabited
@[simp] def M0d (g:Tag)(x:Held):AV:=.agg [.int .i64 x.id,.int .i64 x.t,.sl g 1 (x.nodes.map eI)]
end Go.Proofs.YtpgaganbacipnaaGreat

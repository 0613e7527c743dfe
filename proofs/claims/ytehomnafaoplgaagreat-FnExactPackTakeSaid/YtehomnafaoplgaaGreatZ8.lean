/-
  Lemmas, part 8.
-/
import Derived.Test.YtehomnafaoplgaaGreatZ7
import Derived.Test.YtehomnafaoplgaaGreatRows
namespace Go.Proofs.YtehomnafaoplgaaGreat
open Go Go.RowKit Eng
def J2G:Nat:=7
def Q0o:Nat:=11
def X0p:Nat:=12
def Y0l:Nat:=16
def X0S:Nat:=18
def J0G:Nat:=20
def V0S:Nat:=21
def Uz:Nat:=22
def VH:Nat:=23
def J0o:Nat:=24
def L0G:Nat:=26
def Y0z:Nat:=28
def W2J:Nat:=31
def L2J:Nat:=32
def J2J:Nat:=33
def W0p:Nat:=35
def X13:Nat:=36
def O0o:Nat:=39
def M11:Nat:=40
def W0y:Nat:=41
def L0F:Nat:=42
def L0Q:Nat:=43
def LW:Nat:=44
def W0o:Nat:=45
def Z13:Nat:=46
def U0S:Nat:=47
def X0A:Nat:=48
def Qn:Nat:=49
def U0p:Nat:=50
def Y0p:Nat:=51
def U01:Nat:=68
def L0o:Nat:=69
def Z0p:Nat:=70
def Mv:Nat:=71
def L0b:Nat:=74
def Z12:Nat:=77
def O2I:Nat:=78
def M0G:Nat:=79
def V2I:Nat:=80
def M2J:Nat:=81
def O2J:Nat:=82
def M2I:Nat:=83
def U0I:Nat:=84
def Q2I:Nat:=85
def O0p:Nat:=90
def Z0c:Nat:=91
def JP:Nat:=92
def Y13:Nat:=93
def J0H:Nat:=94
def J0S:Nat:=95
def O0T:Nat:=96
def J1m:Nat:=97
def X0T:Nat:=98
def V0T:Nat:=99
def J12:Nat:=100
def M0o:Nat:=102
def JW:Nat:=103
def J0F:Nat:=104
def X0R:Nat:=105
def Q0y:Nat:=106
def M0F:Nat:=107
def Z0G:Nat:=108
def W0E:Nat:=109
def X0G:Nat:=110
def O0E:Nat:=111
def O0G:Nat:=112
def M0H:Nat:=113
def O0H:Nat:=114
def L0S:Nat:=115
def Y0A:Nat:=116
def Q0S:Nat:=117
def Z0H:Nat:=118
def Y12:Nat:=119
def W0H:Nat:=120
def V0I:Nat:=121
def V0z:Nat:=122
def U0H:Nat:=123
def Q0z:Nat:=124
def M0z:Nat:=125
def M0e:Nat:=135
def M0b:Nat:=136
def V2J:Nat:=137
def J11:Nat:=138
def V0R:Nat:=139
def Z0S:Nat:=140
def L1m:Nat:=141
def W0R:Nat:=142
def O0R:Nat:=143
def O11:Nat:=144
def O0y:Nat:=145
def X0o:Nat:=146
def Y09:Nat:=147
def O0e:Nat:=148
def U2L:Nat:=149
def Q0H:Nat:=150
def U2I:Nat:=151
def J0E:Nat:=155
def X0l:Nat:=156
def V0A:Nat:=157
def L0H:Nat:=158
def U0A:Nat:=159
def Z0A:Nat:=160
def V0l:Nat:=161
def Y0T:Nat:=162
def Y0I:Nat:=163
def V0p:Nat:=164
def U09:Nat:=165
def Q12:Nat:=166
def W0T:Nat:=167
def W12:Nat:=168
def Q0A:Nat:=169
def O12:Nat:=170
def Y0H:Nat:=171
def Oe:Nat:=172
def Lq:Nat:=173
def Q5:Nat:=174
def Mq:Nat:=175
def Wc:Nat:=176
def ZQ:Nat:=177
def XF:Nat:=178
def V0H:Nat:=179
def Yv:Nat:=180
def Y0G:Nat:=187
def O0F:Nat:=188
def U0y:Nat:=189
def X09:Nat:=190
def Q0R:Nat:=191
def U0G:Nat:=192
def J0R:Nat:=193
def W0S:Nat:=194
def M12:Nat:=195
def M0E:Nat:=197
def L0y:Nat:=198
def U0e:Nat:=199
def Y0F:Nat:=200
def Z0y:Nat:=201
def Z0F:Nat:=202
def Y8:Nat:=203
def J0Q:Nat:=204
def Qj:Nat:=205
def V0e:Nat:=206
def Y0R:Nat:=207
def L0E:Nat:=208
def U12:Nat:=211
def Qz:Nat:=212
def Me:Nat:=213
def Ll:Nat:=214
def O0S:Nat:=215
def J0z:Nat:=216
def L12:Nat:=217
def V7:Nat:=218
def VF:Nat:=219
def Z0T:Nat:=220
def Vn:Nat:=221
def Oq:Nat:=222
def L0e:Nat:=223
def Q0h:Nat:=224
def M0S:Nat:=225
def U0z:Nat:=226
def J0e:Nat:=227
def O0l:Nat:=228
def Wj:Nat:=229
def UQ:Nat:=230
def O0k:Nat:=233
def J0x:Nat:=234
def Q0F:Nat:=235
def V0G:Nat:=236
def V0y:Nat:=237
def W11:Nat:=238
def Z0z:Nat:=239
def V09:Nat:=240
def J0b:Nat:=243
def W0z:Nat:=244
def U0T:Nat:=245
def U0l:Nat:=246
def Q09:Nat:=247
def Qd:Nat:=248
def Q0l:Nat:=249
def Q0p:Nat:=252
def W0l:Nat:=253
def X12:Nat:=254
def YF:Nat:=255
def L0z:Nat:=256
def V12:Nat:=257
def Z0I:Nat:=258
def W0e:Nat:=259
def W0F:Nat:=260
def U0R:Nat:=261
def M0y:Nat:=262
def Y0y:Nat:=263
def Z0R:Nat:=264
def L11:Nat:=265
def O0z:Nat:=268
def X0z:Nat:=269
def Wk:Nat:=282
def X0H:Nat:=283
def V0F:Nat:=284
def M0R:Nat:=285
def Q0G:Nat:=286
def U0o:Nat:=287
def X0F:Nat:=288
def Q0e:Nat:=289
def Y0S:Nat:=290
def J0y:Nat:=291
def V01:Nat:=292
def Q11:Nat:=308
def J0k:Nat:=309
def X0y:Nat:=310
def Z0l:Nat:=311
def L0k:Nat:=312
def V0o:Nat:=313
def U11:Nat:=314
def U0F:Nat:=315
def M0k:Nat:=328
theorem Tryz.own:ownKnob Tryz.prog.godebug=none:=by kernel_rfl
theorem Tryz.laidOut:laidOutB Tryz.prog=true:=by kernel_rfl
abbrev Str:=List UInt8
namespace Eng
theorem WV{α:Type}(e:α->AV)(h:∀x,(e x).rdt=e x)(l:List α):rdtL (l.map e)=l.map e:=by
 rw[U5,List.map_map]
 exact List.map_congr_left λx _=>h x
theorem X0e{α:Type}(e:α->AV)(h:∀x,Nw (e x))(l:List α):NwL (l.map e):=by
 rw[W0k]
 intro a ha
 obtain⟨x,_,rfl⟩:=yY ha
 exact h x
attribute [simp] wop.eq_38 wop.eq_40 St.hi St.lo
end Eng
def w64(n:Int):Int:=IntKind.i64.wrap n
@[simp] def eI (n:Int):AV:=.int .i64 n
@[simp] theorem rdt_IS (l:List Int):rdtL (l.map eI)=l.map eI:=WV _ (λ_=>rfl) l
@[simp] theorem nw_IS (l:List Int):NwL (l.map eI):=X0e _ (λ_=>by simp) l
@[simp] def eS (s:Str):AV:=.str s
@[simp] theorem rdt_SS (l:List Str):rdtL (l.map eS)=l.map eS:=WV _ (λ_=>rfl) l
@[simp] theorem nw_SS (l:List Str):NwL (l.map eS):=X0e _ (λ_=>by simp) l
@[simp] def eB (n:Int):AV:=.int .u8 n
@[simp] theorem rdt_BS (l:List Int):rdtL (l.map eB)=l.map eB:=WV _ (λ_=>rfl) l
@[simp] theorem nw_BS (l:List Int):NwL (l.map eB):=X0e _ (λ_=>by simp) l
@[simp] def eBo (b:Bool):AV:=.bool b
@[simp] theorem rdt_BoS (l:List Bool):rdtL (l.map eBo)=l.map eBo:=WV _ (λ_=>rfl) l
@[simp] theorem Y2C (l:List Bool):NwL (l.map eBo):=X0e _ (λ_=>by simp) l
@[simp] theorem noO_I (l:List Int):noOL (l.map eI):=MV _ (λ_=>by simp) l
theorem nw_I(l:List Int):NwL (l.map eI):=nw_IS l
@[simp] theorem noO_S (l:List Str):noOL (l.map eS):=MV _ (λ_=>by simp) l
theorem nw_S(l:List Str):NwL (l.map eS):=nw_SS l
@[simp] theorem noO_B (l:List Int):noOL (l.map eB):=MV _ (λ_=>by simp) l
theorem nw_B(l:List Int):NwL (l.map eB):=nw_BS l
@[simp] theorem noO_Bo (l:List Bool):noOL (l.map eBo):=MV _ (λ_=>by simp) l
theorem M4(l:List Bool):NwL (l.map eBo):=Y2C l
structure Vec where
 a:Int
 b:Int
 c:Int
 deriving DecidableEq,Inhabited
@[simp] def eVec (x:Vec):AV:=.agg [.int .i64 x.a,.int .i64 x.b,.int .i64 x.c]
@[simp] theorem Y2G (l:List Vec):rdtL (l.map eVec)=l.map eVec:=WV _ (λ_=>rfl) l
structure Node where
 leaf:Int
 cap:Vec
 deriving DecidableEq,Inhabited
@[simp] def Q1 (x:Node):AV:=.agg [.int .i64 x.leaf,.int .i64 x.cap.a,.int .i64 x.cap.b,.int .i64 x.cap.c]
@[simp] theorem Q2C (l:List Node):noOL (l.map Q1):=MV _ (λ_=>by simp) l
@[simp] theorem Z2B (l:List Node):rdtL (l.map Q1)=l.map Q1:=WV _ (λ_=>rfl) l
@[simp] theorem X2i (l:List Node):NwL (l.map Q1):=X0e _ (λ_=>by simp) l
theorem L0(l:List Node):NwL (l.map Q1):=X2i l
structure Topo where
 parents:List Int
 nodes:List Node
 deriving DecidableEq,Inhabited
@[simp] def Y7 (g:Tag)(x:Topo):AV:=.agg [.sl g 1 (x.parents.map eI),.sl g 4 (x.nodes.map Q1)]
structure Job where
 id:Int
 prio:Int
 nodes:Int
 need:Vec
 lic:Vec
 wall:Int
 level:Int
 deriving DecidableEq,Inhabited
@[simp] def eJob (x:Job):AV:=.agg [.int .i64 x.id,.int .i64 x.prio,.int .i64 x.nodes,.int .i64 x.need.a,.int .i64 x.need.b,.int .i64 x.need.c,.int .i64 x.lic.a,.int .i64 x.lic.b,.int .i64 x.lic.c,.int .i64 x.wall,.int .i64 x.level]
@[simp] theorem W2G (l:List Job):noOL (l.map eJob):=MV _ (λ_=>by simp) l
@[simp] theorem V2G (l:List Job):rdtL (l.map eJob)=l.map eJob:=WV _ (λ_=>rfl) l
@[simp] theorem U2t (l:List Job):NwL (l.map eJob):=X0e _ (λ_=>by simp) l
theorem M2(l:List Job):NwL (l.map eJob):=U2t l
structure Run where
 job:Job
 t:Int
 nodes:List Int
 deriving DecidableEq,Inhabited
@[simp] def X1 (g:Tag)(x:Run):AV:=.agg [.int .i64 x.job.id,.int .i64 x.job.prio,.int .i64 x.job.nodes,.int .i64 x.job.need.a,.int .i64 x.job.need.b,.int .i64 x.job.need.c,.int .i64 x.job.lic.a,.int .i64 x.job.lic.b,.int .i64 x.job.lic.c,.int .i64 x.job.wall,.int .i64 x.job.level,.int .i64 x.t,.sl g 1 (x.nodes.map eI)]
@[simp] theorem X2G (g:Tag)(l:List Run):rdtL (l.map (X1 g))=l.map (X1 .rd):=by
 rw[U5,List.map_map];exact List.map_congr_left λx _=>by simp[AV.rdt,rdtL]
@[simp] theorem O1 (l:List Run):NwL (l.map (X1 .nw)):=X0e _ (λ_=>by simp) l
@[simp] theorem O2t (l:List Run):noOL (l.map (X1 .nw)):=MV _ (λ_=>by simp) l
structure End where
 id:Int
 t:Int
 why:Int
 deriving DecidableEq,Inhabited
@[simp] def eEnd (x:End):AV:=.agg [.int .i64 x.id,.int .i64 x.t,.int .i64 x.why]
@[simp] theorem O2G (l:List End):noOL (l.map eEnd):=MV _ (λ_=>by simp) l
@[simp] theorem U2G (l:List End):rdtL (l.map eEnd)=l.map eEnd:=WV _ (λ_=>rfl) l
@[simp] theorem Q2t (l:List End):NwL (l.map eEnd):=X0e _ (λ_=>by simp) l
theorem U3(l:List End):NwL (l.map eEnd):=Q2t l
structure State where
 topo:Topo
 up:List Bool
 lic:Vec
 depth:Int
 now:Int
 queue:List Job
 runs:List Run
 ends:List End
 deriving DecidableEq,Inhabited
@[simp] def J1 (g:Tag)(x:State):AV:=.agg [.sl g 1 (x.topo.parents.map eI),.sl g 4 (x.topo.nodes.map Q1),.sl g 1 (x.up.map eBo),.int .i64 x.lic.a,.int .i64 x.lic.b,.int .i64 x.lic.c,.int .i64 x.depth,.int .i64 x.now,.sl g 11 (x.queue.map eJob),.sl g 13 (x.runs.map (X1 g)),.sl g 3 (x.ends.map eEnd)]
structure Journal where
 bytes:List Int
 synced:Int
 count:Int
 deriving DecidableEq,Inhabited
@[simp] def MP (g:Tag)(x:Journal):AV:=.agg [.sl g 1 (x.bytes.map eB),.int .i64 x.synced,.int .i64 x.count]
structure Pack where
 snap:Str
 journal:Journal
 deriving DecidableEq,Inhabited
@[simp] def Z09 (g:Tag)(x:Pack):AV:=.agg [.str x.snap,.sl g 1 (x.journal.bytes.map eB),.int .i64 x.journal.synced,.int .i64 x.journal.count]
structure Cmd where
 kind:Int
 job:Job
 n:Int
 lic:Vec
 deriving DecidableEq,Inhabited
@[simp] def eCmd (x:Cmd):AV:=.agg [.int .i64 x.kind,.int .i64 x.job.id,.int .i64 x.job.prio,.int .i64 x.job.nodes,.int .i64 x.job.need.a,.int .i64 x.job.need.b,.int .i64 x.job.need.c,.int .i64 x.job.lic.a,.int .i64 x.job.lic.b,.int .i64 x.job.lic.c,.int .i64 x.job.wall,.int .i64 x.job.level,.int .i64 x.n,.int .i64 x.lic.a,.int .i64 x.lic.b,.int .i64 x.lic.c]
@[simp] theorem Q2G (l:List Cmd):rdtL (l.map eCmd)=l.map eCmd:=WV _ (λ_=>rfl) l
structure Pt where
 t:Int
 free:Vec
 deriving DecidableEq,Inhabited
@[simp] def ePt (x:Pt):AV:=.agg [.int .i64 x.t,.int .i64 x.free.a,.int .i64 x.free.b,.int .i64 x.free.c]
@[simp] theorem noO_PtS (l:List Pt):noOL (l.map ePt):=MV _ (λ_=>by simp) l
@[simp] theorem rdt_PtS (l:List Pt):rdtL (l.map ePt)=l.map ePt:=WV _ (λ_=>rfl) l
@[simp] theorem Z2C (l:List Pt):NwL (l.map ePt):=X0e _ (λ_=>by simp) l
theorem Jq(l:List Pt):NwL (l.map ePt):=Z2C l
@[simp] def O2 (g:Tag)(x:List Pt):AV:=.agg [.sl g 4 (x.map ePt)]
@[simp] theorem J2A (g:Tag)(l:List (List Pt)):rdtL (l.map (O2 g))=l.map (O2 .rd):=by
 rw[U5,List.map_map];exact List.map_congr_left λx _=>by simp[AV.rdt,rdtL]
@[simp] theorem Vb (l:List (List Pt)):NwL (l.map (O2 .nw)):=X0e _ (λ_=>by simp) l
@[simp] theorem X2n (l:List (List Pt)):noOL (l.map (O2 .nw)):=MV _ (λ_=>by simp) l
structure Room where
 topo:Topo
 up:List Bool
 profs:List (List Pt)
 lics:List Pt
 deriving DecidableEq,Inhabited
@[simp] def Wd (g:Tag)(x:Room):AV:=.agg [.sl g 1 (x.topo.parents.map eI),.sl g 4 (x.topo.nodes.map Q1),.sl g 1 (x.up.map eBo),.sl g 1 (x.profs.map (O2 g)),.sl g 4 (x.lics.map ePt)]
structure Held where
 id:Int
 t:Int
 nodes:List Int
 deriving DecidableEq,Inhabited
@[simp] def Zs (g:Tag)(x:Held):AV:=.agg [.int .i64 x.id,.int .i64 x.t,.sl g 1 (x.nodes.map eI)]
end Go.Proofs.YtehomnafaoplgaaGreat

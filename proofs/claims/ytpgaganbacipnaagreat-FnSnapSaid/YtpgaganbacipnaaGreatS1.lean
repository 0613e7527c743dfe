/-
  Lemmas, part 1.
-/
import Derived.Test.YtpgaganbacipnaaGreatProg
import Derived.Deep.LoopGhost
import Derived.Deep.RegionLaw
import Derived.Lib.Walk
import Derived.Lib.SlKept
import Derived.Sort.WalkB12
import Derived.Lib.SliceRun
import Derived.Shelf.RegionOpenPlain
import Derived.Deep.MidRow
import Derived.Deep.Draws
import Derived.WalkKit
import Derived.Below
import Derived.OwnWalk
namespace Go.Proofs.YtpgaganbacipnaaGreat
open Go Go.RowKit Go.Lib Go.Sort
structure BX(blk:Nat)(w W:World):Prop where
 os:W.os=w.os
 tape:W.tape=w.tape
 output:W.output=w.output
 size:w.heap.size ≤ W.heap.size
 block:∀k,k<w.heap.size → k≠blk → W.heap[k]?=w.heap[k]?
def sel(p:Nat → Bool)(n:Nat):List Nat:=(List.range n).filter fun j=>!p j
structure SelInv(p:Nat → Bool)(cur cr:Array Value)(j i:Nat):Prop where
 len:(sel p j).length=i
 lt:i<j
 low:∀(t s:Nat),(sel p j)[t]?=some s → ∀c,c<13 → cr[t*13+c]?=cur[s*13+c]?
 high:∀x,i*13 ≤ x → cr[x]?=cur[x]?
end Go.Proofs.YtpgaganbacipnaaGreat

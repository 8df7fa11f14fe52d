/- The contract of the parser's method declaration: witness, chain, none. The contract of the parser's method declaration: site, quorum, config. The contract of the parser's method declaration: client. The contract of the parser's method declaration: faults; and all kinds together. -/
import Derived.Test.YtmohibkomlhlaaaGreatDoorPkPara
namespace Go.Proofs.YtmohibkomlhlaaaGreatDoor
open Go.RowKit
def FlAt(w:World)(S:Nat→Prop)(A:Option Addr)(l:List Ft):Prop:=aO (ng w S) w S 6 A l
theorem FlAt.keep{w w':World}{S:Nat→Prop}{A:Option Addr}{l:List Ft}(h:FlAt w S A l)(hk:Kept S w w'):FlAt w' S A l:=aO.keep h hk (fun _ _ h=>h.keep hk)
theorem FlAt.mono{w:World}{S S':Nat→Prop}{A:Option Addr}{l:List Ft}(h:FlAt w S A l)(hS:∀g,S g→g<w.heap.size→S' g):FlAt w S' A l:=aO.mono h hS (by decide) (fun _ _ h=>h.mono hS)
theorem Bf{L:cB}{x:Int}{f:Nat}{acc:List Ft}{s:St}(h:isW L (⟨#[124]⟩:ByteArray) s=false):uT L x f acc s=(acc,s):=by
 cases f with
 |zero=>rfl
 |succ f=>rw[uT,h];rfl
theorem ko.from{b d base:Nat}{w W W':World}(h:ko b d w W)(hb:Below base W W')(hs:w.heap.size≤base):ko b d w W':=
 ⟨hb.os.trans h.os,hb.tape.trans h.tape,hb.output.trans h.output,cK h.size hb.size,fun k hk h1 h2=>(hb.block k (by omega)).trans (h.block k hk h1 h2)⟩
end Go.Proofs.YtmohibkomlhlaaaGreatDoor

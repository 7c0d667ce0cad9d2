/- The document's look at modes: the walk. (Printed by gen/rcheck.py.) -/
import Derived.Test.YtmacepicoandkaaGreatDoorJ39
import Derived.Test.YtmacepicoandkaaGreatDoorJ40
import Derived.Test.YtmacepicoandkaaGreatDoorJ42
set_option linter.unusedVariables false
set_option linter.unusedSimpArgs false
namespace Go.Proofs.YtmacepicoandkaaGreatDoor
open Go.RowKit Go.Shelf Tx
def rKnown (l:List It):Bool:=knownL l&&decide ((splitR (everyL l)).1.length≤8)
def RefV (kn:Bool) (vars:Nat) (φ:List Bool→Bool) (vd:Int) (v:Value) (W:World):Prop :=
 if kn=true then ∃ b,vd=(if b=true then 2 else 1)∧FirstIs vars φ b v W else vd=3∧v=.slice none 0 0
def phiE (l:List It):List Bool→Bool:=satV ((splitR (everyL l)).2.1.take (asmL l).length) ((splitR (everyL l)).2.1.drop (asmL l).length)
def phiP (l:List It) (p:Nat×Nat):List Bool→Bool:=satV2 ((splitR (everyL l)).2.1.take (asmL l).length) ((splitR (everyL l)).2.1.getD ((asmL l).length+p.1) []) ((splitR (everyL l)).2.1.getD ((asmL l).length+p.2) [])
theorem FirstIs.kept {vars:Nat} {φ:List Bool→Bool} {b:Bool} {v:Value} {W W':World} (h:FirstIs vars φ b v W) (hs:W.heap.size≤W'.heap.size) (hk:∀ a n c,v=.slice (some a) n c→W'.heap[a.block]?=W.heap[a.block]?):FirstIs vars φ b v W':=by
 rcases h with h | ⟨h1,k,h2,h3,h4,hb⟩
 ·exact Or.inl h
 ·exact Or.inr ⟨h1,k,h2,h3,h4,hb.kept hs hk⟩
theorem RefV.kept {kn:Bool} {vars:Nat} {φ:List Bool→Bool} {vd:Int} {v:Value} {W W':World} (h:RefV kn vars φ vd v W) (hs:W.heap.size≤W'.heap.size) (hk:∀ a n c,v=.slice (some a) n c→W'.heap[a.block]?=W.heap[a.block]?):RefV kn vars φ vd v W':=by
 unfold RefV at h ⊢
 split at h
 ·rename_i hh;rw[if_pos hh]
  obtain⟨b,h1,h2⟩:=h
  exact⟨b,h1,h2.kept hs hk⟩
 ·rename_i hh;rw[if_neg hh];exact h
theorem RefV.keeps (kn:Bool) (vars:Nat) (φ:Nat×Nat→List Bool→Bool):QKeep fun p vd v W=>RefV kn vars (φ p) vd v W:=fun _ _ _ _ _ h hs hk=>h.kept hs hk
theorem FirstIs.form {vars:Nat} {φ:List Bool→Bool} {b:Bool} {v:Value} {W:World} (h:FirstIs vars φ b v W):∃ a n c,v=.slice a n c∧∀ ad,a=some ad→ad.block<W.heap.size∧ad.spot=none:=by
 rcases h with ⟨_,rfl,_⟩ | ⟨_,k,_,_,_,hb⟩
 ·exact⟨none,0,0,rfl,fun ad h=>by cases h⟩
 ·rcases hb with ⟨rfl,_⟩ | ⟨b,o,c,rfl,hl,_⟩
  ·exact⟨none,0,0,rfl,fun ad h=>by cases h⟩
  ·exact⟨_,_,c,rfl,fun ad h=>by cases h;exact⟨hl,rfl⟩⟩
end Go.Proofs.YtmacepicoandkaaGreatDoor

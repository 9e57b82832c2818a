/- Texts of right trees; what Compile makes of a text: plainly. -/
import Derived.Test.YtpmjpogcaglphaaGreatDoorMLMCompiles30
import Derived.Test.YtpmjpogcaglphaaGreatDoorMLMCompiles36
set_option linter.unusedVariables false
set_option linter.unusedSimpArgs false
set_option linter.unnecessarySimpa false
namespace Go.Proofs.YtpmjpogcaglphaaGreatDoor.A
open Go
set_option maxRecDepth 20000
theorem ba3 {s : List UInt8} : ∀ e,(v7 s).2.2 = e→e ≠ 0→V5 s = (none,e) := fun e h1 h2=>by
 rw[V5,if_pos (by rw[h1];exact h2),h1]
theorem aF4 (x : Nd) (hg : okN x = true∧okS x = true) : (∃ e,e ≠ 0∧an6 x = (none,e)) ∨ ∃ L R,an0 (d7 x b0).2.n (d7 x b0).1.1 (d7 x b0).2.s (d7 x b0).2.f 200 = some (L,R)∧(d7 x b0).2.n≤1000∧L.length≤200∧WfD L.length (O8 R) (W4 (d7 x b0).1.2 L) ∧
  an6 x = (some (an2 (O8 R) (W4 (d7 x b0).1.2 L),W5 (O8 R) (W4 (d7 x b0).1.2 L)),0):=by
 by_cases hn : (d7 x b0).2.n > 1000
 ·exact .inl ⟨4,by decide,by rw[an6,if_pos hn]⟩
 ·cases hm : an0 (d7 x b0).2.n (d7 x b0).1.1 (d7 x b0).2.s (d7 x b0).2.f 200 with
  | none=>exact .inl ⟨5,by decide,by rw[an6,if_neg hn,hm]⟩
  | some p =>
   obtain ⟨L,R⟩:=p
   have hL:=aj9 hm (by omega)
   exact .inr ⟨L,R,rfl,by omega,hL,bg8 hm (by omega),by rw[an6,if_neg hn,hm]⟩
theorem bh5 (s : List UInt8) (hg : bR4 s) : (∃ e,e ≠ 0∧V5 s = (none,e)) ∨ ∃ n N A,WfD n N A∧V5 s = (some (an2 N A,W5 N A),0) := by
 by_cases he : (v7 s).2.2 = 0
 ·have hc : V5 s = an6 (v7 s).1:=by rw[V5,if_neg (fun h=>h he)]
  rw[hc]
  obtain ⟨g1,g2,_⟩:=hg he
  rcases aF4 (v7 s).1 ⟨g1,g2⟩ with h | ⟨L,R,_,_,_,h1,h2⟩
  ·exact .inl h
  ·exact .inr ⟨_,_,_,h1,h2⟩
 ·exact .inl ⟨_,he,ba3 _ rfl he⟩
end Go.Proofs.YtpmjpogcaglphaaGreatDoor.A

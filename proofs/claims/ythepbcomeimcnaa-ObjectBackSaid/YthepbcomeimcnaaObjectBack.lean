/- ObjectBack: the walk of the law, whole. Printed by wip/mkobjback.py. -/
import Derived.Test.YthepbcomeimcnaaObjectBackA
import Derived.Test.YthepbcomeimcnaaObjectBackB
import Derived.Test.YthepbcomeimcnaaObjectBackC
import Derived.Test.YthepbcomeimcnaaObjectBackD
namespace Go.Proofs.Ythepbcomeimcnaa
open Go.RowKit
set_option linter.unusedVariables false

theorem objectBack_calls (t : Tr) (pa ka : Option Addr) (P K pc kc : Nat) (c : Cm) (qa : Option Addr) (Q qc : Nat) (A : Option Addr) (n n3c : Nat) (bs : List UInt8) (w : World) (h : TrAt w t pa ka P K pc kc) (hc : CmAt w c qa Q qc) (hb : Cells w A (bv bs)) (hn : bs.length = n) (hl : n ≤ 140737488351232) :
    Calls Try.prog 7 #[tra pa P pc ka K kc, cma c qa Q qc, .slice A n n3c] w fun e w' => e = .returned (.bool true) ∧ Ext w w' := by
  cases htg : t.good <;> cases hcg : c.good
  · exact objectBack_ff t pa ka P K pc kc c qa Q qc A n n3c bs w h hc hb hn hl htg hcg
  · exact objectBack_ft t pa ka P K pc kc c qa Q qc A n n3c bs w h hc hb hn hl htg hcg
  · exact objectBack_tf t pa ka P K pc kc c qa Q qc A n n3c bs w h hc hb hn hl htg hcg
  · exact objectBack_tt t pa ka P K pc kc c qa Q qc A n n3c bs w h hc hb hn hl htg hcg
end Go.Proofs.Ythepbcomeimcnaa

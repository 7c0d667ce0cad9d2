/- The law ProgShort, whatever its argument: the walk. (Printed by gen/proglaws.py.) -/
import Derived.Test.YtahalimekacliaaGreatDoorJ45
set_option linter.unusedVariables false
set_option linter.unusedSimpArgs false
namespace Go.Proofs.YtahalimekacliaaGreatDoor
open Go.RowKit Go.Shelf Tx Px Gx Mx
theorem PgS.main {s : ByteArray} {p : Pg} (h : PgS s (.ok p)) : p.main ≠ noS ∧ 1 ≤ (toks s.size (Lx.lexS s.data.toList).1).length := by
  obtain ⟨_, X, _, h2⟩ := h.lexok
  obtain ⟨k, _, hT⟩ := prog_ok h2
  obtain ⟨t, h3, h4, h5⟩ := hT.name
  exact ⟨by rw [← h5]; exact (toks_is s t (List.mem_of_getElem? h3)).name h4, by have := tail_lt hT; omega⟩
end Go.Proofs.YtahalimekacliaaGreatDoor

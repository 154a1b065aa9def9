/- Part of a proof: of what it says, and when, each theorem tells itself. -/
import Derived.Test.YtpingdgbndmcnaaC01f
import Derived.Test.YtpingdgbndmcnaaVmArgs
namespace Go.V01
open Go Go.Vm

section
variable {H : Type} {d0 d1 : DataW H} {u0 u1 : VV}
theorem order_in (h0 : DV Proofs.Try.prog 33 d0 u0) (h1 : DV Proofs.Try.prog 33 d1 u1) : ∃ h', call F 4 [u0, u1] [] = some (.ret (vb true), h') := by
  obtain ⟨a, rfl, ha⟩ := DV_u64 Proofs.Try.underlying33 h0
  obtain ⟨b, rfl, hb⟩ := DV_u64 Proofs.Try.underlying33 h1
  exact law_order a b ha hb
end
end Go.V01

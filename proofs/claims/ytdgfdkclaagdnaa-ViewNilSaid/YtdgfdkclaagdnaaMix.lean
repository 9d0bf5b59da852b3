import Derived.Test.YtdgfdkclaagdnaaRows
namespace Go.Proofs.Ytdgfdkclaagdnaa
theorem mix : Try.prog.follows .mixedOrders = true := by kernel_rfl
end Go.Proofs.Ytdgfdkclaagdnaa

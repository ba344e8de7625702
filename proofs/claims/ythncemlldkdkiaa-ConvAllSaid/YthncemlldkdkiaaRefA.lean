/- The reference's functions of layer 1: each answers the plain function. -/
import Derived.Test.YthncemlldkdkiaaBase
import Derived.Test.YthncemlldkdkiaaRefF
namespace Go.Proofs.Ythncemlldkdkiaa
open Go.RowKit TF

attribute [local go_sem] cmp_eq cmp_ne cmp_lt cmp_gt cmp_le cmp_ge















end Go.Proofs.Ythncemlldkdkiaa

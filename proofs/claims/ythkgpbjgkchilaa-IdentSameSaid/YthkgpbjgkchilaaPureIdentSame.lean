/- The pure law IdentSame. Conditions: none. -/
import Derived.Test.YthkgpbjgkchilaaPc

/- The pure law IdentOrder. Conditions: none. -/
import Derived.Test.YthkgpbjgkchilaaPc
